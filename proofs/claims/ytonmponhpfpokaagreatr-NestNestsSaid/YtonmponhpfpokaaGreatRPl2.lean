/- What the functions compute, part 2. -/
import Derived.Test.YtonmponhpfpokaaGreatRPl1
import Derived.Lib.IndexMore
set_option linter.unusedVariables false
set_option linter.unusedSimpArgs false
set_option linter.unusedSectionVars false
noncomputable section
namespace Go.SM
open Go Go.VI
theorem GW {s sub:List UInt8} {i:Nat} (hne:sub≠[]) (h:Go.Lib.occAt s sub i=true):i+sub.length≤s.length:=by
 rcases Go.Lib.occAt_room h with h' | h'
 ·omega
 ·exact absurd h' hne
theorem Rl {s sub:List UInt8} (hne:sub≠[]):Go.Lib.contains s sub=(List.range (s.length+1-sub.length)).any (Go.Lib.occAt s sub):=by
 unfold Go.Lib.contains
 rcases Go.Lib.index_spec s sub with ⟨h1,h2⟩ | ⟨i,h1,h2,h3,h4⟩
 ·rw [h1]
  have:(List.range (s.length+1-sub.length)).any (Go.Lib.occAt s sub)=false:=by
   rw [List.any_eq_false];intro j hj
   rw [h2 j (by have:=List.mem_range.1 hj;omega)];simp
  rw [this];rfl
 ·rw [h1]
  have:(List.range (s.length+1-sub.length)).any (Go.Lib.occAt s sub)=true:=List.any_eq_true.2 ⟨i,List.mem_range.2 (by have:=GW hne h3;omega),h3⟩
  rw [this];simp
theorem Qv {a b:ByteArray} (h:a.size+b.size≤9223372036854775807):Qi a b=some (a++b):=by unfold Qi;rw [if_pos h]
theorem CY (T s1:ByteArray) (hT:T.size<4294967281) (hs:s1.size≤8):pM T s1=some (Go.Lib.contains T.data.toList ((ByteArray.mk #[32]++s1)++ByteArray.mk #[32]).data.toList):=by
 have hsz:((ByteArray.mk #[32]++s1)++ByteArray.mk #[32]).size=s1.size+2:=by
  rw [ByteArray.size_append,ByteArray.size_append];show 1+s1.size+1=_;omega
 have hsub:s1.size+2=((ByteArray.mk #[32]++s1)++ByteArray.mk #[32]).data.toList.length:=by rw [← hsz];rfl
 have hne:((ByteArray.mk #[32]++s1)++ByteArray.mk #[32]).data.toList≠[]:=by
  intro h;rw [h] at hsub;simp at hsub
 have e1:Qi (ByteArray.mk #[32]) s1=some (ByteArray.mk #[32]++s1):=Qv (by show 1+s1.size≤_;omega)
 have e2:Qi (ByteArray.mk #[32]++s1) (ByteArray.mk #[32])=some ((ByteArray.mk #[32]++s1)++ByteArray.mk #[32]):=Qv (by rw [ByteArray.size_append];show 1+s1.size+1≤_;omega)
 generalize (ByteArray.mk #[32]++s1)++ByteArray.mk #[32]=W at hsz hsub hne e2 ⊢
 rw [Rl hne]
 have hTl:T.data.toList.length=T.size:=rfl
 have key:aM (iW T s1) 0=some (if (List.range (T.data.toList.length+1-W.data.toList.length)).any (Go.Lib.occAt T.data.toList W.data.toList) then .inl () else .inr ()):=by
  refine uD _ (iW T s1) (fun k=>(k:Int)) _ _ _ rfl (fun k hk=>?_) ?_
  ·unfold iW
   rw [hTl,← hsub] at hk
   rw [aR (a:=(k:Int)) (by omega) (by omega),aR (b:=2) (by omega) (by omega)]
   have h1:decide ((k:Int)+(s1.size:Int)+2≤(T.size:Int))=true:=by simp;omega
   simp only [h1,if_true]
   have e3:IX T k ((k:Int)+(s1.size:Int)+2)=some (T.extract k (k+W.size)):=by
    unfold IX
    rw [if_pos (by omega)]
    have:((k:Int)+(s1.size:Int)+2).toNat=k+W.size:=by omega
    rw [this];simp
   rw [e3]
   simp only [Option.bind_some,e1,e2]
   rw [Go.Lib.occ_of_piece T W k (by omega),aR (a:=(k:Int)) (by omega) (by omega)]
   cases (T.extract k (k+W.size)).toList==W.toList <;> simp
  ·unfold iW
   rw [hTl,← hsub]
   rw [aR (b:=(s1.size:Int)) (by omega) (by omega),aR (b:=2) (by omega) (by omega)]
   have h1:decide (((T.size+1-(s1.size+2):Nat):Int)+(s1.size:Int)+2≤(T.size:Int))=false:=by simp;omega
   simp only [h1];rfl
 unfold pM
 rw [key]
 cases (List.range (T.data.toList.length+1-W.data.toList.length)).any (Go.Lib.occAt T.data.toList W.data.toList) <;> rfl
def MS (x:Int):Bool:=decide (¬ (97≤x∧x≤122)∧(x<48∨x>57))
theorem Vx {s:ByteArray} {k:Nat} (h:k<s.size):Kh s (k:Int)=some ((s[k].toNat:Nat):Int):=by
 unfold Kh
 rw [if_pos (Int.natCast_nonneg k),Int.toNat_natCast]
 simp [h]
def MT (s:ByteArray):Bool:=(List.range s.size).any fun k=>if h:k<s.size then MS s[k].toNat else false
theorem DG (s:ByteArray) (hs:s.size≤8):aM (rQ s) 0=some (if MT s then .inl () else .inr ()):=by
 refine uD s.size (rQ s) (fun k=>(k:Int)) _ _ _ rfl (fun k hk=>?_) ?_
 ·unfold rQ
  have h1:decide ((k:Int)<(s.size:Int))=true:=by simp;omega
  simp only [h1,if_true,Vx hk,Option.bind_some,dif_pos hk]
  rw [aR (a:=(k:Int)) (by omega) (by omega)]
  generalize ((s[k].toNat:Nat):Int)=x
  unfold MS
  by_cases q1:x<97
  ·have:¬ (97≤x∧x≤122):=by omega
   by_cases q2:x<48
   ·simp [q1,q2]
   ·by_cases q3:x>57 <;> simp [q1,q2,q3]
  ·by_cases q4:x>122
   ·have q5:¬ x<48:=by omega
    have q6:x>57:=by omega
    simp [q1,q4,q5,q6]
   ·simp [q1,q4]
 ·simp [rQ]
theorem Zt (s:ByteArray) (hs:s.size≤8):aM (gO s) 0=some (if MT s then .inl () else .inr ()):=by
 refine uD s.size (gO s) (fun k=>(k:Int)) _ _ _ rfl (fun k hk=>?_) ?_
 ·unfold gO
  have h1:decide ((k:Int)<(s.size:Int))=true:=by simp;omega
  simp only [h1,if_true,Vx hk,Option.bind_some,dif_pos hk]
  rw [aR (a:=(k:Int)) (by omega) (by omega)]
  generalize ((s[k].toNat:Nat):Int)=x
  unfold MS
  by_cases q1:x ≥ 97
  ·by_cases q4:x≤122
   ·simp [q1,q4]
   ·have q5:¬ x<48:=by omega
    have q6:x>57:=by omega
    simp [q1,q4,q5,q6]
  ·by_cases q2:x<48
   ·simp [q1,q2]
   ·by_cases q3:x>57 <;> simp [q1,q2,q3]
 ·simp [gO]
theorem rF (s:ByteArray):∃ b,iL s=some b∧eN s=some b:=by
 unfold iL eN tX sG
 by_cases h1:(s.size:Int)<1
 ·exact ⟨false,by simp [h1],by simp [show ¬ (s.size:Int) ≥ 1 by omega]⟩
 by_cases h2:(s.size:Int)>8
 ·exact ⟨false,by simp [h1,h2],by simp [show (s.size:Int) ≥ 1 by omega,show ¬ (s.size:Int)≤8 by omega]⟩
 have g1:(s.size:Int) ≥ 1:=by omega
 have g2:(s.size:Int)≤8:=by omega
 have e0:Kh s 0=some ((s[0]'(by omega)).toNat:Int):=Vx (k:=0) (by omega)
 generalize ((s[0]'(by omega)).toNat:Int)=x at e0
 by_cases h3:x<97
 ·exact ⟨false,by simp [h1,h2,e0,h3],by simp only [g1,g2,decide_true,if_true,Option.bind_some,e0,h3]⟩
 by_cases h4:x>122
 ·exact ⟨false,by simp [h1,h2,e0,h3,h4],by simp only [g1,g2,decide_true,if_true,Option.bind_some,e0,h3,h4,decide_false,Bool.false_eq_true,if_false]⟩
 simp only [g1,g2,h1,h2,h3,h4,decide_true,decide_false,if_true,Bool.false_eq_true,if_false,Option.bind_some,e0,DG s (by omega),Zt s (by omega)]
 cases MT s with
 | true=>exact ⟨false,rfl,rfl⟩
 | false =>
   have e1:Qi (ByteArray.mk #[32]) s=some (ByteArray.mk #[32]++s):=Qv (by show 1+s.size≤_;omega)
   have e2:Qi (ByteArray.mk #[32]++s) (ByteArray.mk #[32])=some ((ByteArray.mk #[32]++s)++ByteArray.mk #[32]):=Qv (by rw [ByteArray.size_append];show 1+s.size+1≤_;omega)
   simp only [Bool.false_eq_true,if_false,e1,e2,Option.bind_some]
   unfold tY
   rw [CY _ s (by decide +kernel) (by omega),if_pos (by decide +kernel)]
   exact ⟨_,rfl,rfl⟩
theorem yG (n lo hi:Int):lM n lo hi=some (decide (lo≤n∧n≤hi)):=by
 unfold lM
 by_cases h1:lo≤n <;> simp [h1]
theorem Ep (g r:Int):Eo g r=some (decide ((1≤g∧g≤60)∧0≤r∧r≤2)):=by
 unfold Eo
 simp only [yG,Option.bind_some]
 by_cases h1:1≤g∧g≤60
 ·simp [h1]
 ·simp only [h1,decide_false,false_and];rfl
theorem Nz {n m:ByteArray} {a b:Bool} (hn:eN n=some a) (hm:eN m=some b) (g r:Int):mP n m g r=some (if a&&b then (if (1≤g∧g≤60)∧0≤r∧r≤2 then 0 else 1) else 2):=by
 unfold mP
 rw [hn,hm]
 cases a
 ·rfl
 ·cases b
  ·rfl
  ·by_cases h1:g<1
   ·have:¬ ((1≤g∧g≤60)∧0≤r∧r≤2):=by omega
    simp [h1,this]
   ·by_cases h2:g>60
    ·have:¬ ((1≤g∧g≤60)∧0≤r∧r≤2):=by omega
     simp [h1,h2,this]
    ·by_cases h3:r<0
     ·have:¬ ((1≤g∧g≤60)∧0≤r∧r≤2):=by omega
      simp [h1,h2,h3,this]
     ·by_cases h4:r>2
      ·have:¬ ((1≤g∧g≤60)∧0≤r∧r≤2):=by omega
       simp [h1,h2,h3,h4,this]
      ·have:((1≤g∧g≤60)∧0≤r∧r≤2):=by omega
       simp [h1,h2,h3,h4,this]
theorem gE (l:List aF) (hl:l.length≤9223372036854775806):oM l=some (!(l.any fun x=>!decide (vR x))):=by
 have key:aM (xS l) 0=some (if (l.any fun x=>!decide (vR x)) then .inl () else .inr ()):=by
  refine dB l (xS l) (fun k=>(k:Int)) _ _ _ rfl (fun k x hx=>?_) ?_
  ·have hk:=(List.getElem?_eq_some_iff.1 hx).1
   unfold xS
   have h1:decide ((k:Int)<(l.length:Int))=true:=by simp;omega
   simp only [h1,if_true,bE hx,Option.bind_some,nB]
   rw [aR (a:=(k:Int)) (by omega) (by omega)]
   rfl
  ·simp [xS]
 unfold oM
 rw [key]
 cases (l.any fun x=>!decide (vR x)) <;> rfl
theorem mQ (l:List aF) (hl:l.length≤9223372036854775806):cG l=some (!(l.any fun x=>!decide (vR x))):=by
 have key:aM (iX l) 0=some (if (l.any fun x=>!decide (vR x)) then .inl () else .inr ()):=by
  refine dB l (iX l) (fun k=>(k:Int)) _ _ _ rfl (fun k x hx=>?_) ?_
  ·have hk:=(List.getElem?_eq_some_iff.1 hx).1
   unfold iX
   have h1:decide ((k:Int)<(l.length:Int))=true:=by simp;omega
   simp only [h1,if_true,bE hx,Option.bind_some,Mq]
   rw [aR (a:=(k:Int)) (by omega) (by omega)]
   rfl
  ·simp [iX]
 unfold cG
 rw [key]
 cases (l.any fun x=>!decide (vR x)) <;> rfl
def outs (r:aF) (l:List aF):Bool:=l.any fun x=>!decide (tW x r)
theorem GG (r:aF×Bool) (l:List aF) (hl:l.length≤9223372036854775806):aM (mJ r l) 0=some (if outs r.1 l then .inl () else .inr ()):=by
 refine dB l (mJ r l) (fun k=>(k:Int)) _ _ _ rfl (fun k x hx=>?_) ?_
 ·have hk:=(List.getElem?_eq_some_iff.1 hx).1
  unfold mJ
  have h1:decide ((k:Int)<(l.length:Int))=true:=by simp;omega
  simp only [h1,if_true,bE hx,Option.bind_some,Tt]
  rw [aR (a:=(k:Int)) (by omega) (by omega)]
  rfl
 ·simp [mJ]
theorem Kq (s:bI) (l:List aF) (hl:l.length≤9223372036854775806):kZ s l=some (!(outs ⟨0,0,s.cM,s.bP⟩ l)):=by
 have key:aM (iZ s l) 0=some (if outs ⟨0,0,s.cM,s.bP⟩ l then .inl () else .inr ()):=by
  refine dB l (iZ s l) (fun k=>(k:Int)) _ _ _ rfl (fun k x hx=>?_) ?_
  ·have hk:=(List.getElem?_eq_some_iff.1 hx).1
   unfold iZ
   have h1:decide ((k:Int)<(l.length:Int))=true:=by simp;omega
   simp only [h1,if_true,bE hx,Option.bind_some,Tv]
   rw [aR (a:=(k:Int)) (by omega) (by omega)]
   rfl
  ·simp [iZ]
 unfold kZ
 rw [key]
 cases outs ⟨0,0,s.cM,s.bP⟩ l <;> rfl
theorem Xd (s:bI) (r:aF×Bool) (h1:s.bG.length≤9223372036854775806) (h2:s.Used.length≤9223372036854775806):aM (mK s r) 0=some (if outs r.1 s.bG || outs r.1 s.Used then .inl () else .inr ()):=by
 have:=dB [s.bG,s.Used] (mK s r) (fun k=>(k:Int)) (fun l=>outs r.1 l) (.inr ()) (.inl ()) rfl (fun k x hx=>?_) ?_
 ·refine this.trans ?_;simp
 ·have hk:=(List.getElem?_eq_some_iff.1 hx).1
  unfold mK
  have hm:x=s.bG∨x=s.Used:=by have:=List.mem_of_getElem? hx;simpa using this
  have hl:x.length≤9223372036854775806:=by rcases hm with rfl | rfl <;> assumption
  have h3:decide ((k:Int)<(([s.bG,s.Used]:List (List aF)).length:Int))=true:=by rw [decide_eq_true_eq];exact Int.ofNat_lt.2 hk
  simp only [h3,if_true,bE hx,Option.bind_some,GG r x hl]
  have hk':k<2:=hk
  rw [aR (a:=(k:Int)) (by omega) (by omega)]
  cases outs r.1 x <;> simp
 ·simp [mK]
theorem Re (s:bI):∃ b,bO s=some b∧dF s=some b:=by
 obtain ⟨a,ha,ha'⟩:=rF s.Name
 obtain ⟨b,hb,hb'⟩:=rF s.bD
 unfold bO dF
 rw [ha,hb,Nz ha' hb']
 cases a with
 | false=>exact ⟨2,rfl,rfl⟩
 | true =>
 cases b with
 | false=>exact ⟨2,rfl,rfl⟩
 | true =>
 simp only [Option.bind_some,Ep,yG,Bool.and_self,if_true,Bool.not_true,Bool.false_eq_true,if_false]
 by_cases h1:(1≤s.cE∧s.cE≤60)∧0≤s.bQ∧s.bQ≤2
 ·simp only [h1,and_self,decide_true,if_true,Option.bind_some]
  by_cases h2:1≤s.cM∧s.cM≤1048576
  ·by_cases h3:1≤s.bP∧s.bP≤1048576
   ·have q1:¬ s.cM<1:=by omega
    have q2:¬ s.cM>1048576:=by omega
    have q3:¬ s.bP<1:=by omega
    have q4:¬ s.bP>1048576:=by omega
    simp only [h2,h3,q1,q2,q3,q4,and_self,decide_true,decide_false,if_true,Option.bind_some,Bool.not_true,Bool.false_eq_true,if_false,bne_self_eq_false]
    by_cases h4:(s.bG.length:Int)>4
    ·exact ⟨4,by simp [h4],by simp [h4]⟩
    by_cases h5:(s.Used.length:Int)>48
    ·exact ⟨4,by simp [h5],by simp [h5]⟩
    simp only [h4,h5,decide_false,Bool.false_eq_true,if_false,Option.bind_some,gE s.bG (by omega),gE s.Used (by omega),mQ s.bG (by omega),mQ s.Used (by omega),Kq s s.bG (by omega),Kq s s.Used (by omega)]
    cases (s.bG.any fun x=>!decide (vR x)) with
    | true=>exact ⟨1,rfl,rfl⟩
    | false =>
    cases (s.Used.any fun x=>!decide (vR x)) with
    | true=>exact ⟨1,rfl,rfl⟩
    | false =>
    have hi:oL s 0=some (⟨0,0,s.cM,s.bP⟩,decide (vR ⟨0,0,s.cM,s.bP⟩)):=by
     unfold oL
     rw [nB]
     have e0:eS 2 0=0:=by rw [De (by omega) (by omega)];rfl
     rw [e0,bF (by omega) (by omega),bF (by omega) (by omega),Int.sub_zero,Int.sub_zero]
     rfl
    simp only [hi,Option.bind_some,Xd s _ (show s.bG.length≤_ by omega) (show s.Used.length≤_ by omega),Bool.not_false,if_true,Bool.not_true,Bool.false_eq_true,if_false]
    cases outs ⟨0,0,s.cM,s.bP⟩ s.bG with
    | true=>exact ⟨13,rfl,rfl⟩
    | false =>
    cases outs ⟨0,0,s.cM,s.bP⟩ s.Used with
    | true=>exact ⟨13,rfl,rfl⟩
    | false=>exact ⟨0,rfl,rfl⟩
   ·refine ⟨1,by simp [h2,h3], ?_⟩
    by_cases q3:s.bP<1
    ·simp [q3]
    ·have q4:s.bP>1048576:=by omega
     simp [q3,q4]
  ·refine ⟨1,by simp [h2], ?_⟩
   by_cases q3:s.cM<1
   ·simp [q3]
   ·have q4:s.cM>1048576:=by omega
    simp [q3,q4]
 ·exact ⟨1,by simp only [h1,decide_false];rfl,by simp only [h1,if_false];rfl⟩
theorem Gh (s:bA):∃ b,cX s=some b∧dD s=some b:=by
 refine ⟨decide ((0≤s.Gap∧s.Gap≤14400)∧(0≤s.aS∧s.aS≤14400)), ?_, ?_⟩
 ·unfold cX
  simp only [yG,Option.bind_some]
  by_cases h:0≤s.Gap∧s.Gap≤14400
  ·simp [h]
  ·simp only [h,decide_false,false_and];rfl
 ·unfold dD
  by_cases h1:s.Gap ≥ 0
  ·by_cases h2:s.Gap≤14400
   ·by_cases h3:s.aS ≥ 0
    ·simp [h1,h2,h3]
    ·simp [h1,h2,h3]
   ·simp [h1,h2]
  ·simp [h1]
def cnt (l:List Bool):Nat:=l.countP (·==true)
theorem AO {l:List Bool} {k:Nat} (h:l[k]?=some false):cnt (l.set k true)=cnt l+1:=by
 unfold cnt
 have hk:=(List.getElem?_eq_some_iff.1 h).1
 have hv:=(List.getElem?_eq_some_iff.1 h).2
 rw [List.countP_set hk]
 simp [hv]
theorem JX {l:List Bool} (h:cnt l=l.length):∀ x ∈ l,x=true:=by
 have:=List.countP_eq_length.1 h
 intro x hx;simpa using this x hx
theorem Ps (a b:aF):sM a b=qF a b:=rfl
theorem AH (a b:aF):∃ t,qF a b=some t:=by
 unfold qF
 split
 ·split
  ·exact ⟨_,rfl⟩
  ·split <;> exact ⟨_,rfl⟩
 ·split <;> exact ⟨_,rfl⟩
theorem CO {l:List aF} (hl:l.length≤1000) {x:Int} {r:aF} (hx:idx l x=some r) {i:Nat} {b0:Bool×Unit} :
  ∀ (m k:Nat) (seen:List Bool) (w0 l0 ext:List Int) (s:Int×List Bool×List Int),k+m=l.length→seen.length=l.length→l0[i]?=some x→s.1=(i:Int)→w0.length+ext.length≤1000000-m→l0.length+ext.length≤1000000-m →
    ∃ seen' ext',aM (fW l x) ((k:Int),seen,w0++ext)=some (seen',w0++ext')∧aM (dY l s) ((k:Int),seen,l0++ext)=some (seen',l0++ext')∧seen'.length=l.length∧cnt seen'+ext.length=cnt seen+ext'.length∧(∀ y ∈ ext',y ∈ ext∨(0≤y∧y<l.length)):=by
 intro m
 induction m with
 | zero =>
   intro k seen w0 l0 ext s hk hs hi hsi h1 h2
   obtain rfl:k=l.length:=by omega
   refine ⟨seen,ext,cF ?_,cF ?_,hs,rfl,fun y hy=>.inl hy⟩
   ·simp [fW]
   ·simp [dY]
 | succ m ih =>
   intro k seen w0 l0 ext s hk hs hi hsi h1 h2
   have hkl:k<l.length:=by omega
   have hy:l[k]?=some l[k]:=by simp
   have hsn:seen[k]?=some seen[k]:=by simp [hs,hkl]
   have hle:i<l0.length:=(List.getElem?_eq_some_iff.1 hi).1
   have hi':∀ e:List Int,(l0++e)[i]?=some x:=fun e=>by rw [List.getElem?_append_left hle];exact hi
   have hd:decide ((k:Int)<(l.length:Int))=true:=by simp;omega
   have e1:aJ (k:Int) 1=((k+1:Nat):Int):=by rw [aR (by omega) (by omega)];rfl
   obtain ⟨t,ht⟩:=AH r l[k]
   by_cases hb:seen[k]=true
   ·obtain ⟨seen',ext',p1,p2,p3⟩:=ih (k+1) seen w0 l0 ext s (by omega) hs hi hsi (by omega) (by omega)
    refine ⟨seen',ext', ?_, ?_,p3⟩
    ·rw [eI (s':=(((k+1:Nat):Int),seen,w0++ext))]
     ·exact p1
     ·unfold fW oF
      simp only [hd,if_true,bE hsn,hb,Option.bind_some,Bool.false_eq_true,if_false,e1]
    ·rw [eI (s':=(((k+1:Nat):Int),seen,l0++ext))]
     ·exact p2
     ·unfold dY eO
      simp only [hd,if_true,bE hsn,hb,Option.bind_some,Bool.false_eq_true,if_false,e1]
   ·have hb':seen[k]=false:=by simpa using hb
    cases t with
    | false =>
      obtain ⟨seen',ext',p1,p2,p3⟩:=ih (k+1) seen w0 l0 ext s (by omega) hs hi hsi (by omega) (by omega)
      refine ⟨seen',ext', ?_, ?_,p3⟩
      ·rw [eI (s':=(((k+1:Nat):Int),seen,w0++ext))]
       ·exact p1
       ·unfold fW oF
        simp only [hd,if_true,bE hsn,bE hy,hx,ht,hb',Option.bind_some,Bool.false_eq_true,if_false,e1]
      ·rw [eI (s':=(((k+1:Nat):Int),seen,l0++ext))]
       ·exact p2
       ·unfold dY eO
        simp only [hd,if_true,bE hsn,bE hy,hsi,bE (hi' ext),hx,Ps,ht,hb',Option.bind_some,Bool.false_eq_true,if_false,e1]
    | true =>
      have hset:(seen.set k true).length=l.length:=by rw [List.length_set];exact hs
      obtain ⟨seen',ext',p1,p2,p3,p4,p5⟩:=ih (k+1) (seen.set k true) w0 l0 (ext++[(k:Int)]) s (by omega) hset hi hsi (by simp;omega) (by simp;omega)
      have a1:app (w0++ext) [(k:Int)]=some (w0++(ext++[(k:Int)])):=by rw [jZ (by unfold LIM;simp;omega),List.append_assoc]
      have a2:app (l0++ext) [(k:Int)]=some (l0++(ext++[(k:Int)])):=by rw [jZ (by unfold LIM;simp;omega),List.append_assoc]
      refine ⟨seen',ext', ?_, ?_,p3, ?_,fun y hy'=>?_⟩
      ·rw [eI (s':=(((k+1:Nat):Int),seen.set k true,w0++(ext++[(k:Int)])))]
       ·exact p1
       ·unfold fW oF
        simp only [hd,if_true,bE hsn,bE hy,hx,ht,hb',Option.bind_some,Bool.false_eq_true,if_false,e1,a1,Int.toNat_natCast]
      ·rw [eI (s':=(((k+1:Nat):Int),seen.set k true,l0++(ext++[(k:Int)])))]
       ·exact p2
       ·unfold dY eO
        simp only [hd,if_true,bE hsn,bE hy,hsi,bE (hi' ext),hx,Ps,ht,hb',Option.bind_some,Bool.false_eq_true,if_false,e1,a2,Int.toNat_natCast]
      ·rw [AO (by rw [hsn,hb'])] at p4
       simp at p4;omega
      ·rcases p5 y hy' with h | h
       ·rcases List.mem_append.1 h with h | h
        ·exact .inl h
        ·right;rw [List.mem_singleton.1 h];omega
       ·exact .inr h
theorem CP {l:List aF} (hl:l.length≤1000):∀ (m i:Nat) (seen:List Bool) (q:List Int),i+m=l.length→i≤q.length→seen.length=l.length→cnt seen=q.length→(∀ y ∈ q,0≤y∧y<l.length) →
  ∃ seen' q',aM (gW l) (seen,q.drop i)=some seen'∧aM (eP l) ((i:Int),seen,q)=some q'∧seen'.length=l.length∧cnt seen'=q'.length:=by
 intro m
 induction m with
 | zero =>
   intro i seen q him hiq hs hc hq
   have hcl:cnt seen≤seen.length:=List.countP_le_length
   obtain rfl:i=q.length:=by omega
   refine ⟨seen,q,cF ?_,cF ?_,hs,hc⟩
   ·simp [gW]
   ·simp [eP]
 | succ m ih =>
   intro i seen q him hiq hs hc hq
   have hcl:cnt seen≤seen.length:=List.countP_le_length
   by_cases hlt:i<q.length
   ·have hx:q[i]?=some q[i]:=by simp
    have hxm:=hq q[i] (List.getElem_mem hlt)
    have ed:q.drop i=q[i]::q.drop (i+1):=List.drop_eq_getElem_cons hlt
    have hr:idx l q[i]=some (l[q[i].toNat]'(by omega)):=by
     unfold idx;rw [if_pos hxm.1];simp [show q[i].toNat<l.length by omega]
    obtain ⟨seen',ext',p1,p2,p3,p4,p5⟩:=CO hl hr (b0:=(true,())) l.length 0 seen (q.drop (i+1)) q [] ((i:Int),seen,q) (by omega) hs hx rfl (by simp;omega) (by simp;omega)
    simp only [List.append_nil,List.length_nil,Nat.add_zero] at p1 p2 p4
    obtain ⟨seen2,q2,r1,r2,r3⟩:=ih (i+1) seen' (q++ext') (by omega) (by simp;omega) p3 (by simp;omega) (fun y hy=>by
     rcases List.mem_append.1 hy with h | h
     ·exact hq y h
     ·rcases p5 y h with h | h
      ·exact absurd h (by simp)
      ·exact h)
    refine ⟨seen2,q2, ?_, ?_,r3⟩
    ·rw [eI (s':=(seen',(q++ext').drop (i+1)))]
     ·exact r1
     ·unfold gW
      have e0:idx (q.drop i) 0=some q[i]:=by rw [ed];rfl
      have e2:List.drop 1 (q.drop i)=q.drop (i+1):=by rw [List.drop_drop]
      have h1:decide (((q.drop i).length:Int)>0)=true:=by rw [ed];simp;omega
      have h2:decide (1≤(q.drop i).length)=true:=by rw [decide_eq_true_eq,List.length_drop];omega
      simp only [h1,if_true,e0,Option.bind_some,h2,e2]
      have p1':aM (fW l q[i]) (0,seen,List.drop (i+1) q)=some (seen',List.drop (i+1) q++ext'):=p1
      rw [p1',List.drop_append_of_le_length (by omega)]
      rfl
    ·rw [eI (s':=(((i+1:Nat):Int),seen',q++ext'))]
     ·exact r2
     ·unfold eP
      have h1:decide ((i:Int)<(q.length:Int))=true:=by simp;omega
      have p2':aM (dY l ((i:Int),seen,q)) (0,seen,q)=some (seen',q++ext'):=p2
      simp only [h1,if_true,p2',Option.bind_some]
      rw [aR (by omega) (by omega)]
      rfl
   ·obtain rfl:i=q.length:=by omega
    refine ⟨seen,q,cF ?_,cF ?_,hs,hc⟩
    ·simp [gW]
    ·simp [eP]
theorem FE (l:List Bool) (hl:l.length≤1000):aM (rO l) 0=some (if l.any (fun x=>!x) then .inl () else .inr ()):=by
 refine dB l (rO l) (fun k=>(k:Int)) _ _ _ rfl (fun k x hx=>?_) ?_
 ·have hk:=(List.getElem?_eq_some_iff.1 hx).1
  unfold rO
  have h1:decide ((k:Int)<(l.length:Int))=true:=by simp;omega
  simp only [h1,if_true,bE hx,Option.bind_some]
  rw [aR (a:=(k:Int)) (by omega) (by omega)]
  rfl
 ·simp [rO]
theorem Ea {l:List aF} (hl:l.length≤1000) (h0:0<l.length):∃ b,nU l=some b∧lZ l=some b:=by
 have hmk:mk (l.length:Int) false=some (List.replicate l.length false):=by
  unfold mk;rw [if_pos (by unfold LIM;omega)];simp
 have hf:(List.replicate l.length false)[0]?=some false:=by simp [h0]
 have hc:cnt ((List.replicate l.length false).set 0 true)=1:=by
  rw [AO hf];unfold cnt;simp [List.countP_replicate]
 obtain ⟨seen',q',p1,p2,p3,p4⟩:=CP hl l.length 0 ((List.replicate l.length false).set 0 true) [0] (by omega) (by simp) (by simp) (by rw [hc];rfl) (by simp;omega)
 unfold nU lZ
 have i0:idx (List.replicate l.length false) 0=some false:=bE (k:=0) hf
 have p1':aM (gW l) ((List.replicate l.length false).set (Int.toNat 0) true,[0])=some seen':=p1
 have p2':aM (eP l) (0,(List.replicate l.length false).set (Int.toNat 0) true,[0])=some q':=p2
 simp only [hmk,Option.bind_some,i0,p1',p2',FE seen' (by omega)]
 refine ⟨_, ?_,rfl⟩
 by_cases ha:seen'.any (fun x=>!x)=true
 ·have:¬ (q'.length:Int)=(l.length:Int):=by
   intro h
   obtain ⟨x,hx,hn⟩:=List.any_eq_true.1 ha
   have:=JX (l:=seen') (by omega) x hx
   subst this;simp at hn
  simp [ha,this]
 ·have:(q'.length:Int)=(l.length:Int):=by
   rw [← p4,← p3]
   congr 1
   unfold cnt
   rw [List.countP_eq_length]
   intro x hx
   by_cases h:x=true
   ·simp [h]
   ·exact absurd (List.any_eq_true.2 ⟨x,hx,by simpa using h⟩) ha
  rw [this]
  simp only [ha,Bool.false_eq_true,if_false,beq_self_eq_true,Option.bind_some]
def uU (h x:aF):Bool:=if h.X>x.X then (if h.Y>x.Y then (if aJ h.X h.W<aJ x.X x.W then decide (aJ h.Y h.H<aJ x.Y x.H) else false) else false) else false
theorem Ya (h:aF) (l:List aF) (hl:l.length≤1000):xR h l=some (l.any (uU h)):=by
 have key:aM (tJ h l) 0=some (if l.any (uU h) then .inl () else .inr ()):=by
  refine dB l (tJ h l) (fun k=>(k:Int)) _ _ _ rfl (fun k x hx=>?_) ?_
  ·have hk:=(List.getElem?_eq_some_iff.1 hx).1
   unfold tJ
   have h1:decide ((k:Int)<(l.length:Int))=true:=by simp;omega
   simp only [h1,if_true,bE hx,Option.bind_some]
   rw [aR (a:=(k:Int)) (by omega) (by omega)]
   unfold uU
   by_cases q1:h.X>x.X
   ·by_cases q2:h.Y>x.Y
    ·by_cases q3:aJ h.X h.W<aJ x.X x.W
     ·by_cases q4:aJ h.Y h.H<aJ x.Y x.H <;> simp [q1,q2,q3,q4]
     ·simp [q1,q2,q3]
    ·simp [q1,q2]
   ·simp [q1]
  ·simp [tJ]
 unfold xR
 rw [key]
 cases l.any (uU h) <;> rfl
theorem KA (h:aF) (l:List aF) (hl:l.length≤1000):rZ h l=some (l.any (uU h)):=by
 have key:aM (kH h l) 0=some (if l.any (uU h) then .inl () else .inr ()):=by
  refine dB l (kH h l) (fun k=>(k:Int)) _ _ _ rfl (fun k x hx=>?_) ?_
  ·have hk:=(List.getElem?_eq_some_iff.1 hx).1
   unfold kH
   have h1:decide ((k:Int)<(l.length:Int))=true:=by simp;omega
   simp only [h1,if_true,bE hx,Option.bind_some]
   rw [aR (a:=(k:Int)) (by omega) (by omega)]
   unfold uU
   by_cases q1:h.X>x.X
   ·by_cases q2:h.Y>x.Y
    ·by_cases q3:aJ h.X h.W<aJ x.X x.W
     ·by_cases q4:aJ h.Y h.H<aJ x.Y x.H <;> simp [q1,q2,q3,q4]
     ·simp [q1,q2,q3]
    ·simp [q1,q2]
   ·simp [q1]
  ·simp [kH]
 unfold rZ
 rw [key]
 cases l.any (uU h) <;> rfl
def yC (x0:aU) (l:List aF) (k:Nat):Bool:=match l[k]? with
 | some x=>!(x0.aD.any (uU x)) || (decide ((k:Int)<(x0.bN.length:Int))&&((x.W==1) || (x.H==1)))
 | none=>false
theorem Kn (x0:aU) (l:List aF) (hl:l.length≤1000) (hr:x0.aD.length≤1000):aM (vT x0 l) 0=some (if (List.range l.length).any (yC x0 l) then .inl () else .inr ()):=by
 refine uD l.length (vT x0 l) (fun k=>(k:Int)) _ _ _ rfl (fun k hk=>?_) ?_
 ·have hx:l[k]?=some l[k]:=by simp
  unfold vT yC
  have h1:decide ((k:Int)<(l.length:Int))=true:=by simp;omega
  simp only [h1,if_true,bE hx,hx,Option.bind_some,Ya _ _ hr]
  rw [aR (a:=(k:Int)) (by omega) (by omega)]
  by_cases q1:(k:Int)<(x0.bN.length:Int)
  ·cases q2:(l[k].W==1)
   ·cases q3:(l[k].H==1)
    ·cases x0.aD.any (uU l[k]) <;> simp [q1,q2,q3]
    ·cases x0.aD.any (uU l[k]) <;> simp [q1,q2,q3]
   ·cases x0.aD.any (uU l[k]) <;> simp [q1,q2]
  ·cases x0.aD.any (uU l[k]) <;> simp [q1]
 ·simp [vT]
theorem Ss (x0:aU) (l:List aF) (hl:l.length≤1000) (hr:x0.aD.length≤1000):aM (eX x0 l) 0=some (if (List.range l.length).any (yC x0 l) then .inl () else .inr ()):=by
 refine uD l.length (eX x0 l) (fun k=>(k:Int)) _ _ _ rfl (fun k hk=>?_) ?_
 ·have hx:l[k]?=some l[k]:=by simp
  unfold eX yC
  have h1:decide ((k:Int)<(l.length:Int))=true:=by simp;omega
  simp only [h1,if_true,bE hx,hx,Option.bind_some,KA _ _ hr]
  rw [aR (a:=(k:Int)) (by omega) (by omega)]
  by_cases q1:(k:Int)<(x0.bN.length:Int)
  ·cases q2:(l[k].W==1)
   ·cases q3:(l[k].H==1)
    ·cases x0.aD.any (uU l[k]) <;> simp [q1,q2,q3]
    ·cases x0.aD.any (uU l[k]) <;> simp [q1,q2,q3]
   ·cases x0.aD.any (uU l[k]) <;> simp [q1,q2]
  ·cases x0.aD.any (uU l[k]) <;> simp [q1]
 ·simp [eX]
def Am (p:aF→aF→Bool) (l:List aF) (k:Nat):Bool:=match l[k]? with
 | some x=>(l.take k).any (p x)
 | none=>false
def Ge (x y:aF):Bool:=zX x y==0
def oG (x y:aF):Bool:=decide (ovR x y)
theorem Sw {l:List aF} {k:Nat} (h:k≤l.length):slc l 0 (k:Int)=some (l.take k):=by
 unfold slc;rw [if_pos (by omega)];simp
theorem in2 (x:aF) (l:List aF) (hl:l.length≤1000):aM (vV x l) 0=some (if l.any (Ge x) then .inl () else .inr ()):=by
 refine dB l (vV x l) (fun k=>(k:Int)) _ _ _ rfl (fun k y hy=>?_) ?_
 ·have hk:=(List.getElem?_eq_some_iff.1 hy).1
  unfold vV
  have h1:decide ((k:Int)<(l.length:Int))=true:=by simp;omega
  simp only [h1,if_true,bE hy,Option.bind_some,Oy]
  rw [aR (a:=(k:Int)) (by omega) (by omega)]
  rfl
 ·simp [vV]
theorem in3 (l:List aF) (hl:l.length≤1000):aM (vW l) 0=some (if (List.range l.length).any (Am Ge l) then .inl () else .inr ()):=by
 refine uD l.length (vW l) (fun k=>(k:Int)) _ _ _ rfl (fun k hk=>?_) ?_
 ·have hx:l[k]?=some l[k]:=by simp
  unfold vW Am
  have h1:decide ((k:Int)<(l.length:Int))=true:=by simp;omega
  simp only [h1,if_true,bE hx,hx,Option.bind_some,Sw (Nat.le_of_lt hk),in2 _ (l.take k) (by simp;omega)]
  rw [aR (a:=(k:Int)) (by omega) (by omega)]
  cases (l.take k).any (Ge l[k]) <;> simp
 ·simp [vW]
theorem PJ (l:List aF) (hl:l.length≤1000):aM (eZ l) 0=some (if (List.range l.length).any (Am Ge l) then .inl () else .inr ()):=by
 have inner:∀ (k:Nat) (hk:k<l.length),aM (eY l (k:Int)) 0=some (if (l.take k).any (Ge l[k]) then .inl () else .inr ()):=by
  intro k hk
  have hx:l[k]?=some l[k]:=by simp
  refine dB (l.take k) (eY l (k:Int)) (fun k=>(k:Int)) _ _ _ rfl (fun j y hy=>?_) ?_
  ·have hj:=(List.getElem?_eq_some_iff.1 hy).1
   rw [List.length_take] at hj
   have hy':l[j]?=some y:=by rw [List.getElem?_take] at hy;simpa [show j<k by omega] using hy
   unfold eY
   have h1:decide ((j:Int)<(k:Int))=true:=by simp;omega
   simp only [h1,if_true,bE hx,bE hy',Option.bind_some,Wb]
   rw [aR (a:=(j:Int)) (by omega) (by omega)]
   rfl
  ·have:(l.take k).length=k:=by simp;omega
   simp [eY,this]
 refine uD l.length (eZ l) (fun k=>(k:Int)) _ _ _ rfl (fun k hk=>?_) ?_
 ·have hx:l[k]?=some l[k]:=by simp
  unfold eZ Am
  have h1:decide ((k:Int)<(l.length:Int))=true:=by simp;omega
  simp only [h1,if_true,hx,Option.bind_some,inner k hk]
  rw [aR (a:=(k:Int)) (by omega) (by omega)]
  cases (l.take k).any (Ge l[k]) <;> simp
 ·simp [eZ]
theorem ov2 (x:aF) (l:List aF) (hl:l.length≤1000):aM (mG x l) 0=some (if l.any (oG x) then .inl () else .inr ()):=by
 refine dB l (mG x l) (fun k=>(k:Int)) _ _ _ rfl (fun k y hy=>?_) ?_
 ·have hk:=(List.getElem?_eq_some_iff.1 hy).1
  unfold mG
  have h1:decide ((k:Int)<(l.length:Int))=true:=by simp;omega
  simp only [h1,if_true,bE hy,Option.bind_some,Ls]
  rw [aR (a:=(k:Int)) (by omega) (by omega)]
  rfl
 ·simp [mG]
theorem ov3 (x0:aU) (hl:x0.aD.length≤1000):aM (mI x0) 0=some (if (List.range x0.aD.length).any (Am oG x0.aD) then .inl () else .inr ()):=by
 refine uD x0.aD.length (mI x0) (fun k=>(k:Int)) _ _ _ rfl (fun k hk=>?_) ?_
 ·have hx:x0.aD[k]?=some x0.aD[k]:=by simp
  unfold mI Am
  have h1:decide ((k:Int)<(x0.aD.length:Int))=true:=by simp;omega
  simp only [h1,if_true,bE hx,hx,Option.bind_some,Sw (Nat.le_of_lt hk),ov2 _ (x0.aD.take k) (by simp;omega)]
  rw [aR (a:=(k:Int)) (by omega) (by omega)]
  cases (x0.aD.take k).any (oG x0.aD[k]) <;> simp
 ·simp [mI]
theorem Qz (x:aF) (l:List aF) (hl:l.length≤1000):jL x l=some (l.any (oG x)):=by
 have key:aM (jS x l) 0=some (if l.any (oG x) then .inl () else .inr ()):=by
  refine dB l (jS x l) (fun k=>(k:Int)) _ _ _ rfl (fun k y hy=>?_) ?_
  ·have hk:=(List.getElem?_eq_some_iff.1 hy).1
   unfold jS
   have h1:decide ((k:Int)<(l.length:Int))=true:=by simp;omega
   simp only [h1,if_true,bE hy,Option.bind_some,Oz]
   rw [aR (a:=(k:Int)) (by omega) (by omega)]
   rfl
  ·simp [jS]
 unfold jL
 rw [key]
 cases l.any (oG x) <;> rfl
theorem PK (x0:aU) (hl:x0.aD.length≤1000):aM (eW x0) 0=some (if (List.range x0.aD.length).any (Am oG x0.aD) then .inl () else .inr ()):=by
 refine uD x0.aD.length (eW x0) (fun k=>(k:Int)) _ _ _ rfl (fun k hk=>?_) ?_
 ·have hx:x0.aD[k]?=some x0.aD[k]:=by simp
  unfold eW Am
  have h1:decide ((k:Int)<(x0.aD.length:Int))=true:=by simp;omega
  simp only [h1,if_true,bE hx,hx,Option.bind_some,Sw (Nat.le_of_lt hk),Qz _ (x0.aD.take k) (by simp;omega)]
  rw [aR (a:=(k:Int)) (by omega) (by omega)]
  rfl
 ·simp [eW]
def nE (l:List aF) (a:Int):Int:=l.foldl (fun s r=>min s r.X) a
def nF (l:List aF) (a:Int):Int:=l.foldl (fun s r=>min s r.Y) a
theorem Jz (x0:aU) (hl:x0.aD.length≤1000) (a b:Int):aM (dV x0) (a,b,0)=some (nE x0.aD a,nF x0.aD b):=by
 refine Dr x0.aD (dV x0) (fun k=>(nE (x0.aD.take k) a,nF (x0.aD.take k) b,(k:Int))) _ (fun k r hr=>?_) ?_
 ·have hk:=(List.getElem?_eq_some_iff.1 hr).1
  unfold dV
  have h1:decide ((k:Int)<(x0.aD.length:Int))=true:=by simp;omega
  have e:x0.aD.take (k+1)=x0.aD.take k++[r]:=by rw [List.take_add_one,hr];rfl
  simp only [h1,if_true,bE hr,Option.bind_some,e,Nk]
  rw [aR (a:=(k:Int)) (by omega) (by omega)]
  unfold nE nF
  rw [List.foldl_append,List.foldl_append]
  rfl
 ·simp [dV]
theorem Za (x0:aU):sL x0.aD=dV x0:=by
 funext s
 unfold sL dV
 cases idx x0.aD s.2.2 <;> rfl
theorem Sc (x0:aU) (hl:x0.aD.length≤1000) {r:aF} (hr:x0.aD[0]?=some r):jN x0.aD=some (nE x0.aD r.X,nF x0.aD r.Y):=by
 unfold jN
 have i0:idx x0.aD 0=some r:=bE (k:=0) hr
 have hk:=(List.getElem?_eq_some_iff.1 hr).1
 have h1:aM (dV x0) (r.X,r.Y,0)=aM (dV x0) (r.X,r.Y,1):=by
  refine eI ?_
  unfold dV
  have hd:decide ((0:Int)<(x0.aD.length:Int))=true:=by simp;omega
  simp only [hd,if_true,i0,Option.bind_some,Nk,Int.min_self]
  rfl
 rw [i0,Za]
 simp only [Option.bind_some]
 rw [← h1,Jz x0 hl]
 rfl
theorem Ra (x:aU):∃ b,bB x=some b∧cO x=some b:=by
 obtain ⟨a,ha,ha'⟩:=rF x.Name
 obtain ⟨b,hb,hb'⟩:=rF x.bD
 unfold bB cO
 rw [ha,hb,Nz ha' hb']
 cases a with
 | false=>exact ⟨2,rfl,rfl⟩
 | true =>
 cases b with
 | false=>exact ⟨2,rfl,rfl⟩
 | true =>
 simp only [Option.bind_some,Ep,Bool.and_self,if_true,Bool.not_true,Bool.false_eq_true,if_false]
 by_cases h1:(1≤x.cE∧x.cE≤60)∧0≤x.bQ∧x.bQ≤2
 ·simp only [h1,and_self,decide_true,if_true,Option.bind_some,Bool.not_true,Bool.false_eq_true,if_false,bne_self_eq_false]
  by_cases l1:(x.aD.length:Int)>12
  ·exact ⟨4,by simp [l1],by simp [l1]⟩
  by_cases l2:(x.bN.length:Int)>12
  ·exact ⟨4,by simp [l2],by simp [l2]⟩
  by_cases l3:(x.Forms.length:Int)>12
  ·exact ⟨4,by simp [l3],by simp [l3]⟩
  have k1:x.aD.length≤12:=by omega
  have k2:x.bN.length≤12:=by omega
  have k3:x.Forms.length≤12:=by omega
  simp only [l1,l2,l3,decide_false,Bool.false_eq_true,if_false,Option.bind_some]
  by_cases h0:(x.aD.length:Int)=0
  ·exact ⟨1,by simp [h0],by simp [h0]⟩
  have h0':((x.aD.length:Int)==0)=false:=by rw [beq_eq_false_iff_ne];exact h0
  simp only [h0',Bool.false_eq_true,if_false,gE x.aD (by omega),gE x.bN (by omega),gE x.Forms (by omega),mQ x.aD (by omega),mQ x.bN (by omega),mQ x.Forms (by omega),Option.bind_some]
  cases (x.aD.any fun x=>!decide (vR x)) with
  | true=>exact ⟨1,rfl,rfl⟩
  | false =>
  cases (x.bN.any fun x=>!decide (vR x)) with
  | true=>exact ⟨1,rfl,rfl⟩
  | false =>
  cases (x.Forms.any fun x=>!decide (vR x)) with
  | true=>exact ⟨1,rfl,rfl⟩
  | false =>
  have hr:x.aD[0]?=some (x.aD[0]'(by omega)):=by simp [show 0<x.aD.length by omega]
  have i0:idx x.aD 0=some (x.aD[0]'(by omega)):=bE (k:=0) hr
  obtain ⟨cn,c1,c2⟩:=Ea (l:=x.aD) (by omega) (by omega)
  have ap1:app [] x.bN=some x.bN:=by rw [jZ (by unfold LIM;simp;omega)];rfl
  have ap2:app x.bN x.Forms=some (x.bN++x.Forms):=jZ (by unfold LIM;omega)
  have k4:(x.bN++x.Forms).length≤1000:=by simp;omega
  simp only [Bool.not_false,Bool.not_true,if_true,Bool.false_eq_true,if_false,Option.bind_some,i0,Jz x (by omega),Sc x (by omega) hr,ov3 x (by omega),PK x (by omega),c1,c2]
  generalize x.aD[0]'(by omega)=r0
  by_cases m1:nE x.aD r0.X=0
  ·by_cases m2:nF x.aD r0.Y=0
   ·simp only [m1,m2,bne_self_eq_false,Bool.false_eq_true,if_false,Option.bind_some]
    cases (List.range x.aD.length).any (Am oG x.aD) with
    | true=>exact ⟨7,rfl,rfl⟩
    | false =>
    cases cn with
    | false=>exact ⟨6,rfl,rfl⟩
    | true =>
    simp only [Bool.not_true,Bool.false_eq_true,if_false,Option.bind_some]
    unfold zE
    simp only [ap1,ap2,Option.bind_some,Kn x _ k4 (show x.aD.length≤1000 by omega),Ss x _ k4 (show x.aD.length≤1000 by omega),in3 _ k4,PJ _ k4]
    cases (List.range (x.bN++x.Forms).length).any (yC x (x.bN++x.Forms)) with
    | true=>exact ⟨13,rfl,rfl⟩
    | false =>
    cases (List.range (x.bN++x.Forms).length).any (Am Ge (x.bN++x.Forms)) with
    | true=>exact ⟨7,rfl,rfl⟩
    | false=>exact ⟨0,rfl,rfl⟩
   ·have m2':(nF x.aD r0.Y != 0)=true:=by rw [bne_iff_ne];exact m2
    simp only [m1,m2',bne_self_eq_false,Bool.false_eq_true,if_false,Option.bind_some,if_true]
    exact ⟨1,rfl,rfl⟩
  ·have m1':(nE x.aD r0.X != 0)=true:=by rw [bne_iff_ne];exact m1
   simp only [m1',Option.bind_some,if_true]
   exact ⟨1,rfl,rfl⟩
 ·exact ⟨1,by simp only [h1,decide_false];rfl,by simp only [h1,if_false];rfl⟩
end Go.SM
namespace Go.SM
open Go Go.VI Go.Cells
end Go.SM
namespace Go.SM
open Go Go.VI
def inB (a b:Int) (r:aF):Prop:=a≤r.X∧r.X+r.W≤a+1048576∧b≤r.Y∧r.Y+r.H≤b+1048576
structure VP (x:aU):Prop where
 n1:x.aD.length≤12
 n0:0<x.aD.length
 n2:x.bN.length≤12
 n3:x.Forms.length≤12
 v1:∀ r ∈ x.aD,vR r∧inB 0 0 r
 v2:∀ r ∈ x.bN,vR r∧inB 0 0 r
 v3:∀ r ∈ x.Forms,vR r∧inB 0 0 r
theorem Lx {l:List aF} (h:(l.any fun x=>!decide (vR x))=false):∀ r ∈ l,vR r:=by
 intro r hr
 have:=List.any_eq_false.1 h r hr
 simpa using this
theorem Ng {l:List aF} {g:aF→Int}:∀ {a:Int},l.foldl (fun s r=>min s (g r)) a≤a∧∀ r ∈ l,l.foldl (fun s r=>min s (g r)) a≤g r:=by
 induction l with
 | nil=>intro a;exact ⟨Int.le_refl _,fun r hr=>absurd hr (by simp)⟩
 | cons x l ih =>
   intro a
   obtain ⟨h1,h2⟩:=ih (a:=min a (g x))
   refine ⟨by simp only [List.foldl_cons];omega,fun r hr=>?_⟩
   simp only [List.foldl_cons]
   rcases List.mem_cons.1 hr with rfl | hr
   ·omega
   ·exact h2 r hr
theorem Kk {l:List aF} {g:aF→Int}:∀ {a:Int},l.foldl (fun s r=>min s (g r)) a=a∨∃ r ∈ l,l.foldl (fun s r=>min s (g r)) a=g r:=by
 induction l with
 | nil=>intro a;exact .inl rfl
 | cons x l ih =>
   intro a
   simp only [List.foldl_cons]
   rcases ih (a:=min a (g x)) with h | ⟨r,hr,h⟩
   ·rw [h]
    by_cases hx:a≤g x
    ·left;omega
    ·right;exact ⟨x,by simp,by omega⟩
   ·exact .inr ⟨r,by simp [hr],h⟩
theorem PL {x:aU} {r0:aF} (k1:x.aD.length≤12) (k0:0<x.aD.length) (k2:x.bN.length≤12) (k3:x.Forms.length≤12) (v1:(x.aD.any fun x=>!decide (vR x))=false) (v2:(x.bN.any fun x=>!decide (vR x))=false) (v3:(x.Forms.any fun x=>!decide (vR x))=false)
  (v4:(List.range (x.bN++x.Forms).length).any (yC x (x.bN++x.Forms))=false) (hr:x.aD[0]?=some r0) (m1:nE x.aD r0.X=0) (m2:nF x.aD r0.Y=0):VP x:=by
 have b1:∀ r ∈ x.aD,inB 0 0 r:=fun r hr=>by
  have q:=Lx v1 r hr
  have h1:=(Ng (l:=x.aD) (g:=fun r=>r.X) (a:=r0.X)).2 r hr
  have h2:=(Ng (l:=x.aD) (g:=fun r=>r.Y) (a:=r0.Y)).2 r hr
  have e1:x.aD.foldl (fun s r=>min s r.X) r0.X=0:=m1
  have e2:x.aD.foldl (fun s r=>min s r.Y) r0.Y=0:=m2
  rw [e1] at h1;rw [e2] at h2
  unfold vR at q;unfold inB;omega
 have b4 : ∀ c ∈ x.bN++x.Forms,vR c→inB 0 0 c:=fun c hc hv=>by
  obtain ⟨k,hk⟩:=List.mem_iff_getElem?.1 hc
  have hkl:=(List.getElem?_eq_some_iff.1 hk).1
  have h:=List.any_eq_false.1 v4 k (List.mem_range.2 hkl)
  unfold yC at h
  rw [hk] at h
  simp only [Bool.or_eq_true,not_or] at h
  have h':x.aD.any (uU c)=true:=by simpa using h.1
  obtain ⟨r,hr,hd⟩:=List.any_eq_true.1 h'
  have q:=Lx v1 r hr
  have q2:=b1 r hr
  unfold uU at hd
  unfold vR at q hv
  rw [aR (by omega) (by omega),aR (by omega) (by omega),aR (by omega) (by omega),aR (by omega) (by omega)] at hd
  unfold inB at q2 ⊢
  by_cases t1:c.X>r.X
  ·by_cases t2:c.Y>r.Y
   ·by_cases t3:c.X+c.W<r.X+r.W
    ·simp only [t1,t2,t3,if_true,decide_eq_true_eq] at hd
     omega
    ·simp [t1,t2,t3] at hd
   ·simp [t1,t2] at hd
  ·simp [t1] at hd
 exact ⟨k1,k0,k2,k3,fun r hr=>⟨Lx v1 r hr,b1 r hr⟩,fun r hr=>⟨Lx v2 r hr,b4 r (List.mem_append.2 (.inl hr)) (Lx v2 r hr)⟩,fun r hr=>⟨Lx v3 r hr,b4 r (List.mem_append.2 (.inr hr)) (Lx v3 r hr)⟩⟩
theorem vH (x:aU):∃ b,bB x=some b∧cO x=some b∧(b=0→VP x):=by
 obtain ⟨a,ha,ha'⟩:=rF x.Name
 obtain ⟨b,hb,hb'⟩:=rF x.bD
 unfold bB cO
 rw [ha,hb,Nz ha' hb']
 cases a with
 | false=>exact ⟨2,rfl,rfl,fun h=>absurd h (by decide)⟩
 | true =>
 cases b with
 | false=>exact ⟨2,rfl,rfl,fun h=>absurd h (by decide)⟩
 | true =>
 simp only [Option.bind_some,Ep,Bool.and_self,if_true,Bool.not_true,Bool.false_eq_true,if_false]
 by_cases h1:(1≤x.cE∧x.cE≤60)∧0≤x.bQ∧x.bQ≤2
 ·simp only [h1,and_self,decide_true,if_true,Option.bind_some,Bool.not_true,Bool.false_eq_true,if_false,bne_self_eq_false]
  by_cases l1:(x.aD.length:Int)>12
  ·exact ⟨4,by simp [l1],by simp [l1],fun h=>absurd h (by decide)⟩
  by_cases l2:(x.bN.length:Int)>12
  ·exact ⟨4,by simp [l2],by simp [l2],fun h=>absurd h (by decide)⟩
  by_cases l3:(x.Forms.length:Int)>12
  ·exact ⟨4,by simp [l3],by simp [l3],fun h=>absurd h (by decide)⟩
  have k1:x.aD.length≤12:=by omega
  have k2:x.bN.length≤12:=by omega
  have k3:x.Forms.length≤12:=by omega
  simp only [l1,l2,l3,decide_false,Bool.false_eq_true,if_false,Option.bind_some]
  by_cases h0:(x.aD.length:Int)=0
  ·exact ⟨1,by simp [h0],by simp [h0],fun h=>absurd h (by decide)⟩
  have h0':((x.aD.length:Int)==0)=false:=by rw [beq_eq_false_iff_ne];exact h0
  simp only [h0',Bool.false_eq_true,if_false,gE x.aD (by omega),gE x.bN (by omega),gE x.Forms (by omega),mQ x.aD (by omega),mQ x.bN (by omega),mQ x.Forms (by omega),Option.bind_some]
  cases v1:(x.aD.any fun x=>!decide (vR x)) with
  | true=>exact ⟨1,rfl,rfl,fun h=>absurd h (by decide)⟩
  | false =>
  cases v2:(x.bN.any fun x=>!decide (vR x)) with
  | true=>exact ⟨1,rfl,rfl,fun h=>absurd h (by decide)⟩
  | false =>
  cases v3:(x.Forms.any fun x=>!decide (vR x)) with
  | true=>exact ⟨1,rfl,rfl,fun h=>absurd h (by decide)⟩
  | false =>
  have hr:x.aD[0]?=some (x.aD[0]'(by omega)):=by simp [show 0<x.aD.length by omega]
  have i0:idx x.aD 0=some (x.aD[0]'(by omega)):=bE (k:=0) hr
  obtain ⟨cn,c1,c2⟩:=Ea (l:=x.aD) (by omega) (by omega)
  have ap1:app [] x.bN=some x.bN:=by rw [jZ (by unfold LIM;simp;omega)];rfl
  have ap2:app x.bN x.Forms=some (x.bN++x.Forms):=jZ (by unfold LIM;omega)
  have k4:(x.bN++x.Forms).length≤1000:=by simp;omega
  simp only [Bool.not_false,Bool.not_true,if_true,Bool.false_eq_true,if_false,Option.bind_some,i0,Jz x (by omega),Sc x (by omega) hr,ov3 x (by omega),PK x (by omega),c1,c2]
  generalize x.aD[0]'(by omega)=r0 at hr i0 ⊢
  by_cases m1:nE x.aD r0.X=0
  ·by_cases m2:nF x.aD r0.Y=0
   ·simp only [m1,m2,bne_self_eq_false,Bool.false_eq_true,if_false,Option.bind_some]
    cases (List.range x.aD.length).any (Am oG x.aD) with
    | true=>exact ⟨7,rfl,rfl,fun h=>absurd h (by decide)⟩
    | false =>
    cases cn with
    | false=>exact ⟨6,rfl,rfl,fun h=>absurd h (by decide)⟩
    | true =>
    simp only [Bool.not_true,Bool.false_eq_true,if_false,Option.bind_some]
    unfold zE
    simp only [ap1,ap2,Option.bind_some,Kn x _ k4 (show x.aD.length≤1000 by omega),Ss x _ k4 (show x.aD.length≤1000 by omega),in3 _ k4,PJ _ k4]
    cases v4:(List.range (x.bN++x.Forms).length).any (yC x (x.bN++x.Forms)) with
    | true=>exact ⟨13,rfl,rfl,fun h=>absurd h (by decide)⟩
    | false =>
    cases (List.range (x.bN++x.Forms).length).any (Am Ge (x.bN++x.Forms)) with
    | true=>exact ⟨7,rfl,rfl,fun h=>absurd h (by decide)⟩
    | false=>exact ⟨0,rfl,rfl,fun _=>PL k1 (by omega) k2 k3 v1 v2 v3 v4 hr m1 m2⟩
   ·have m2':(nF x.aD r0.Y != 0)=true:=by rw [bne_iff_ne];exact m2
    simp only [m1,m2',bne_self_eq_false,Bool.false_eq_true,if_false,Option.bind_some,if_true]
    exact ⟨1,rfl,rfl,fun h=>absurd h (by decide)⟩
  ·have m1':(nE x.aD r0.X != 0)=true:=by rw [bne_iff_ne];exact m1
   simp only [m1',Option.bind_some,if_true]
   exact ⟨1,rfl,rfl,fun h=>absurd h (by decide)⟩
 ·exact ⟨1,by simp only [h1,decide_false];rfl,by simp only [h1,if_false];rfl,fun h=>absurd h (by decide)⟩
theorem Nl {α β:Type} (l:List α) (f:α→β) (body:Int×List β→Option ((Int×List β) ⊕ List β)) (hl:l.length≤1000) (step:∀ (k:Nat) x acc,l[k]?=some x→body ((k:Int),acc)=(app acc [f x]).bind fun l'=>some (.inl (((k+1:Nat):Int),l'))) (fin:∀ acc,body ((l.length:Int),acc)=some (.inr acc)) :
  aM body (0,[])=some (l.map f):=by
 refine Dr l body (fun k=>((k:Int),(l.take k).map f)) _ (fun k x hx=>?_) ?_
 ·have hk:=(List.getElem?_eq_some_iff.1 hx).1
  rw [step k x _ hx,jZ (by unfold LIM;simp;omega)]
  simp only [Option.bind_some]
  rw [List.take_add_one,hx]
  simp
 ·rw [fin,List.take_length]
def qR (r:aF):aF:=⟨-(r.Y+r.H),r.X,r.H,r.W⟩
theorem Tr {r:aF} (h:vR r):vR (qR r):=by unfold vR at h ⊢;simp only [qR];omega
theorem QA {a b:Int} {r:aF} (h:inB a b r):inB (-(b+1048576)) a (qR r):=by unfold inB at h ⊢;simp only [qR];omega
def Good (a b:Int) (l:List aF):Prop:=l.length≤12∧∀ r ∈ l,vR r∧inB a b r
theorem Good.q {a b:Int} {l:List aF} (h:Good a b l):Good (-(b+1048576)) a (l.map qR):=by
 refine ⟨by rw [List.length_map];exact h.1,fun r hr=>?_⟩
 obtain ⟨x,hx,rfl⟩:=List.mem_map.1 hr
 exact ⟨Tr (h.2 x hx).1,QA (h.2 x hx).2⟩
theorem OZ {r:aF} (h:vR r):Aa r=some (qR r):=by
 unfold vR at h
 unfold Aa qR
 rw [Ko (by omega) (by omega),bF (by omega) (by omega)]
 congr 2
 omega
theorem Sg {a b:Int} {l:List aF} (h:Good a b l):uK l=some (l.map qR):=by
 unfold uK
 rw [Nl l qR (wL l) (by have:=h.1;omega) (fun k x acc hx=>?_) (fun acc=>?_)]
 ·rfl
 ·have hk:=(List.getElem?_eq_some_iff.1 hx).1
  have:=h.1
  unfold wL
  have h1:decide ((k:Int)<(l.length:Int))=true:=by simp;omega
  simp only [h1,if_true,bE hx,Option.bind_some,OZ (h.2 x (List.mem_of_getElem? hx)).1]
  rw [aR (a:=(k:Int)) (by omega) (by omega)]
  rfl
 ·simp [wL]
theorem Kf {a b:Int} {l:List aF} (h:Good a b l):iH l=some (l.map qR):=by
 unfold iH
 rw [Nl l qR (lD l) (by have:=h.1;omega) (fun k x acc hx=>?_) (fun acc=>?_)]
 ·rfl
 ·have hk:=(List.getElem?_eq_some_iff.1 hx).1
  have:=h.1
  have hv:=(h.2 x (List.mem_of_getElem? hx)).1
  unfold vR at hv
  unfold lD
  have h1:decide ((k:Int)<(l.length:Int))=true:=by simp;omega
  simp only [h1,if_true,bE hx,Option.bind_some]
  rw [aR (a:=(k:Int)) (by omega) (by omega),aR (by omega) (by omega),Ko (by omega) (by omega)]
  rfl
 ·simp [lD]
theorem MU (f:Flat) (h:f.qZ=[]):aM (fE f) (0,[])=some []:=by
 refine cF ?_
 unfold fE
 rw [h];rfl
theorem Zq {a b:Int} {R C F:List aF} (h1:Good a b R) (h2:Good a b C) (h3:Good a b F):Da ⟨R,C,F,[]⟩=some ⟨R.map qR,C.map qR,F.map qR,[]⟩:=by
 unfold Da gC
 rw [MU _ rfl,Sg h1,Sg h2,Sg h3]
 rfl
def tq:Nat→List aF→List aF
 | 0,l=>l
 | n+1,l=>(tq n l).map qR
def ta:Nat→Int×Int→Int×Int
 | 0,p=>p
 | n+1,p=>(-((ta n p).2+1048576),(ta n p).1)
theorem Good.tq {l:List aF} (h:Good 0 0 l):∀ n,Good (ta n (0,0)).1 (ta n (0,0)).2 (SM.tq n l)
 | 0=>h
 | n+1=>(Good.tq h n).q
theorem EM {R C F:List aF} (h1:Good 0 0 R) (h2:Good 0 0 C) (h3:Good 0 0 F) (n:Nat) (hn:n≤3):aM (uB (n:Int)) (0,R,C,F,[])=some (tq n R,tq n C,tq n F,[]):=by
 have:=Dr (List.range n) (uB (n:Int)) (fun k=>((k:Int),tq k R,tq k C,tq k F,[])) (tq n R,tq n C,tq n F,[]) (fun k x hx=>?_) ?_
 ·exact this
 ·have hk:=(List.getElem?_eq_some_iff.1 hx).1
  rw [List.length_range] at hk
  unfold uB
  have h1':decide ((k:Int)<(n:Int))=true:=by simp;omega
  simp only [h1',if_true,Zq (h1.tq k) (h2.tq k) (h3.tq k),Option.bind_some]
  rw [aR (a:=(k:Int)) (by omega) (by omega)]
  rfl
 ·simp [uB]
theorem Zw {R C F:List aF} (h1:Good 0 0 R) (h2:Good 0 0 C) (h3:Good 0 0 F) (n:Nat) (hn:n≤3):aM (iY (n:Int)) (0,R,C,F)=some (tq n R,tq n C,tq n F):=by
 have:=Dr (List.range n) (iY (n:Int)) (fun k=>((k:Int),tq k R,tq k C,tq k F)) (tq n R,tq n C,tq n F) (fun k x hx=>?_) ?_
 ·exact this
 ·have hk:=(List.getElem?_eq_some_iff.1 hx).1
  rw [List.length_range] at hk
  unfold iY
  have h1':decide ((k:Int)<(n:Int))=true:=by simp;omega
  simp only [h1',if_true,Kf (h1.tq k),Kf (h2.tq k),Kf (h3.tq k),Option.bind_some]
  rw [aR (a:=(k:Int)) (by omega) (by omega)]
  rfl
 ·simp [iY]
theorem Du (n:Nat) (l:List aF):(tq n l).length=l.length:=by
 induction n with
 | zero=>rfl
 | succ n ih=>rw [tq,List.length_map,ih]
def mvR (x y:Int) (r:aF):aF:=⟨aJ r.X x,aJ r.Y y,r.W,r.H⟩
theorem Kr (a b:Int) (ha : -4194304≤a∧a≤4194304) (hb : -4194304≤b∧b≤4194304):aJ a (pT b)=aI a b:=by
 rw [Ko (by omega) (by omega),aR (by omega) (by omega),bF (by omega) (by omega)];omega
theorem Ar {a b:Int} {l:List aF} (h:Good a b l) (x y:Int):jM l x y=some (l.map (mvR x y)):=by
 unfold jM
 rw [Nl l (mvR x y) (nK l x y) (by have:=h.1;omega) (fun k r acc hx=>?_) (fun acc=>?_)]
 ·rfl
 ·have hk:=(List.getElem?_eq_some_iff.1 hx).1
  have:=h.1
  have hv:=(h.2 r (List.mem_of_getElem? hx)).1
  unfold vR at hv
  unfold nK nJ
  have h1:decide ((k:Int)<(l.length:Int))=true:=by simp;omega
  have g1:decide (r.X > -2147483648)=true:=by simp;omega
  have g2:decide (r.X<2147483648)=true:=by simp;omega
  have g3:decide (r.Y > -2147483648)=true:=by simp;omega
  have g4:decide (r.Y<2147483648)=true:=by simp;omega
  simp only [h1,if_true,bE hx,Option.bind_some,g1,g2,g3,g4]
  rw [aR (a:=(k:Int)) (by omega) (by omega)]
  rfl
 ·simp [nK]
theorem mv0 {a b:Int} {l:List aF} (h:Good a b l):l.map (mvR 0 0)=l:=by
 conv=>rhs;rw [← List.map_id l]
 refine List.map_congr_left fun r hr=>?_
 have hv:=(h.2 r hr).1
 unfold vR at hv
 unfold mvR
 rw [aR (by omega) (by omega),aR (by omega) (by omega),Int.add_zero,Int.add_zero]
 rfl
theorem Kg {a b:Int} {l:List aF} (h:Good a b l) (mx my w ht:Int) (hx : -1048576≤mx∧mx≤1048576) (hy : -1048576≤my∧my≤1048576):sZ l mx my w ht=some (l.map (mvR (pT mx) (pT my))):=by
 unfold sZ
 rw [Nl l (mvR (pT mx) (pT my)) (uV l mx my w ht) (by have:=h.1;omega) (fun k r acc hr=>?_) (fun acc=>?_)]
 ·rfl
 ·have hk:=(List.getElem?_eq_some_iff.1 hr).1
  have:=h.1
  have hv:=(h.2 r (List.mem_of_getElem? hr)).1
  unfold vR at hv
  unfold uV Ec
  have h1:decide ((k:Int)<(l.length:Int))=true:=by simp;omega
  simp only [h1,if_true,bE hr,Option.bind_some,mvR]
  rw [aR (a:=(k:Int)) (by omega) (by omega),Kr _ _ (by omega) (by omega),Kr _ _ (by omega) (by omega)]
  rfl
 ·simp [uV]
theorem uL {a b mx my:Int} {l:List aF} (h:Good a b l) (hx:a≤mx∧mx≤a+1048576) (hy:b≤my∧my≤b+1048576) (qx : -1048576≤mx∧mx≤1048576) (qy : -1048576≤my∧my≤1048576):Good (a-mx) (b-my) (l.map (mvR (pT mx) (pT my))):=by
 refine ⟨by rw [List.length_map];exact h.1,fun r hr=>?_⟩
 obtain ⟨x,hxm,rfl⟩:=List.mem_map.1 hr
 obtain ⟨p1,p2⟩:=h.2 x hxm
 have hv:=p1
 unfold vR at hv
 unfold mvR
 rw [Kr _ _ (by omega) (by omega),Kr _ _ (by omega) (by omega),bF (by omega) (by omega),bF (by omega) (by omega)]
 unfold inB at p2 ⊢
 unfold vR
 simp only
 omega
theorem CL {l:List aF} (hl:l.length≤12) {r:aF} {t:List aF} (hc:l=r::t):∃ w h p q u v,Fw l=some (⟨nE l r.X,nF l r.Y,w,h⟩,p,q,u,v):=by
 have i0:idx l 0=some r:=by rw [hc];rfl
 have hlt:l.length=t.length+1:=by rw [hc];rfl
 have e1:slc l 1 (l.length:Int)=some t:=by
  unfold slc
  rw [if_pos (by omega)]
  have:(l.length:Int).toNat=l.length:=by omega
  rw [this,List.take_length,hc];rfl
 let F:Int×Int×Int×Int→aF→Int×Int×Int×Int:=fun s x=>(Ad s.1 x.X,Ad s.2.1 x.Y,aI (imax (aJ s.1 s.2.2.1) (aJ x.X x.W)) (Ad s.1 x.X),aI (imax (aJ s.2.1 s.2.2.2) (aJ x.Y x.H)) (Ad s.2.1 x.Y))
 have key:aM (vL t) (0,r.X,r.Y,r.W,r.H)=some (t.foldl F (r.X,r.Y,r.W,r.H)):=by
  refine Dr t (vL t) (fun k=>((k:Int),(t.take k).foldl F (r.X,r.Y,r.W,r.H))) _ (fun k x hx=>?_) ?_
  ·have hk:=(List.getElem?_eq_some_iff.1 hx).1
   unfold vL
   have h1:decide ((k:Int)<(t.length:Int))=true:=by simp;omega
   have e:t.take (k+1)=t.take k++[x]:=by rw [List.take_add_one,hx];rfl
   simp only [h1,if_true,bE hx,Option.bind_some,e]
   rw [aR (a:=(k:Int)) (by omega) (by omega),List.foldl_append]
   rfl
  ·simp [vL]
 have hX:∀ (t:List aF) (s:Int×Int×Int×Int),(t.foldl F s).1=t.foldl (fun s r=>min s r.X) s.1∧(t.foldl F s).2.1=t.foldl (fun s r=>min s r.Y) s.2.1:=by
  intro t
  induction t with
  | nil=>intro s;exact ⟨rfl,rfl⟩
  | cons x t ih =>
    intro s
    simp only [List.foldl_cons]
    obtain ⟨a,b⟩:=ih (F s x)
    rw [a,b]
    have q1:(F s x).1=min s.1 x.X:=Nk _ _
    have q2:(F s x).2.1=min s.2.1 x.Y:=Nk _ _
    rw [q1,q2]
    exact ⟨rfl,rfl⟩
 obtain ⟨a,b⟩:=hX t (r.X,r.Y,r.W,r.H)
 refine ⟨(t.foldl F (r.X,r.Y,r.W,r.H)).2.2.1,(t.foldl F (r.X,r.Y,r.W,r.H)).2.2.2,(t.foldl F (r.X,r.Y,r.W,r.H)).1,(t.foldl F (r.X,r.Y,r.W,r.H)).2.1,(t.foldl F (r.X,r.Y,r.W,r.H)).2.2.1,(t.foldl F (r.X,r.Y,r.W,r.H)).2.2.2, ?_⟩
 unfold Fw
 rw [i0]
 simp only [Option.bind_some,e1,key]
 have c1:nE l r.X=(t.foldl F (r.X,r.Y,r.W,r.H)).1:=by rw [a,hc];unfold nE;simp only [List.foldl_cons,Int.min_self]
 have c2:nF l r.Y=(t.foldl F (r.X,r.Y,r.W,r.H)).2.1:=by rw [b,hc];unfold nF;simp only [List.foldl_cons,Int.min_self]
 rw [c1,c2]
theorem Se {a b:Int} {l:List aF} (h:Good a b l) {r:aF} {t:List aF} (hc:l=r::t):(a≤nE l r.X∧nE l r.X≤a+1048576∧-1048576≤nE l r.X∧nE l r.X≤1048576)∧(b≤nF l r.Y∧nF l r.Y≤b+1048576∧-1048576≤nF l r.Y∧nF l r.Y≤1048576):=by
 have hr:r ∈ l:=by rw [hc];simp
 constructor
 ·obtain ⟨x,hx,e⟩:∃ x ∈ l,nE l r.X=x.X:=by
   rcases Kk (l:=l) (g:=fun r=>r.X) (a:=r.X) with e | ⟨x,hx,e⟩
   ·exact ⟨r,hr,e⟩
   ·exact ⟨x,hx,e⟩
  have p:=h.2 x hx
  unfold vR inB at p
  omega
 ·obtain ⟨x,hx,e⟩:∃ x ∈ l,nF l r.Y=x.Y:=by
   rcases Kk (l:=l) (g:=fun r=>r.Y) (a:=r.Y) with e | ⟨x,hx,e⟩
   ·exact ⟨r,hr,e⟩
   ·exact ⟨x,hx,e⟩
  have p:=h.2 x hx
  unfold vR inB at p
  omega
theorem PQ {a b:Int} {l:List aF} (h:Good a b l):aM (xC l) 0=some (.inr ()):=by
 have:=dB l (xC l) (fun k=>(k:Int)) (fun x=>!decide (vR x)) (.inr ()) (.inl ()) rfl (fun k x hx=>?_) ?_
 ·refine this.trans ?_
  have:l.any (fun x=>!decide (vR x))=false:=by
   rw [List.any_eq_false];intro x hx;simp [(h.2 x hx).1]
  rw [this];rfl
 ·have hk:=(List.getElem?_eq_some_iff.1 hx).1
  have:=h.1
  unfold xC
  have h1:decide ((k:Int)<(l.length:Int))=true:=by simp;omega
  simp only [h1,if_true,bE hx,Option.bind_some,nB]
  rw [aR (a:=(k:Int)) (by omega) (by omega)]
  rfl
 ·simp [xC]
theorem Wn {a b:Int} {R C F:List aF} (h1:Good a b R) (h2:Good a b C) (h3:Good a b F) (h0:0<R.length):Eb ⟨R,C,F,[]⟩=some 0:=by
 unfold Eb
 have e0:((R.length:Int)==0)=false:=by rw [beq_eq_false_iff_ne];omega
 have key:aM (xD ⟨R,C,F,[]⟩) 0=some (.inr ()):=by
  have:=dB [R,C,F] (xD ⟨R,C,F,[]⟩) (fun k=>(k:Int)) (fun _=>false) (.inr ()) (.inl ()) rfl (fun k x hx=>?_) ?_
  ·refine this.trans ?_;simp
  ·have hk:=(List.getElem?_eq_some_iff.1 hx).1
   have hm:x=R∨x=C∨x=F:=by have:=List.mem_of_getElem? hx;simpa using this
   have hg:Good a b x:=by rcases hm with rfl | rfl | rfl <;> assumption
   have h4:decide ((k:Int)<(([R,C,F]:List (List aF)).length:Int))=true:=by rw [decide_eq_true_eq];exact Int.ofNat_lt.2 hk
   have h5:decide ((x.length:Int)>48)=false:=by have:=hg.1;simp;omega
   have hk':k<3:=hk
   unfold xD
   simp only [h4,if_true,bE hx,Option.bind_some,h5,Bool.false_eq_true,if_false,PQ hg]
   rw [aR (a:=(k:Int)) (by omega) (by omega)]
   rfl
  ·simp [xD]
 have b0:aM (Gl ⟨R,C,F,[]⟩) 0=some (.inr ()):=cF (by simp [Gl])
 simp only [e0,Bool.false_eq_true,if_false,key,b0,Option.bind_some]
theorem MV (f:Flat) (h:f.qZ=[]) (a b c d:Int):aM (fF f a b c d) (0,[])=some []:=by
 refine cF ?_
 unfold fF
 rw [h];rfl
theorem Zz {a b:Int} {R C F:List aF} (h1:Good a b R) (h2:Good a b C) (h3:Good a b F) {r:aF} {t:List aF} (hc:R=r::t) :
  Db ⟨R,C,F,[]⟩=some (⟨R.map (mvR (pT (nE R r.X)) (pT (nF R r.Y))),C.map (mvR (pT (nE R r.X)) (pT (nF R r.Y))),F.map (mvR (pT (nE R r.X)) (pT (nF R r.Y))),[]⟩,0):=by
 obtain ⟨w,h,p,q,u,v,e⟩:=CL h1.1 hc
 obtain ⟨⟨lx1,lx2,lx3,lx4⟩,ly1,ly2,ly3,ly4⟩:=Se h1 hc
 unfold Db
 rw [e]
 simp only [Option.bind_some]
 unfold gD
 rw [MV _ rfl,Kg h1 _ _ _ _ ⟨lx3,lx4⟩ ⟨ly3,ly4⟩,Kg h2 _ _ _ _ ⟨lx3,lx4⟩ ⟨ly3,ly4⟩,Kg h3 _ _ _ _ ⟨lx3,lx4⟩ ⟨ly3,ly4⟩]
 simp only [Option.bind_some]
 rw [Wn (uL h1 ⟨lx1,lx2⟩ ⟨ly1,ly2⟩ ⟨lx3,lx4⟩ ⟨ly3,ly4⟩) (uL h2 ⟨lx1,lx2⟩ ⟨ly1,ly2⟩ ⟨lx3,lx4⟩ ⟨ly3,ly4⟩) (uL h3 ⟨lx1,lx2⟩ ⟨ly1,ly2⟩ ⟨lx3,lx4⟩ ⟨ly3,ly4⟩) (by rw [List.length_map,hc];simp)]
 rfl
theorem Ah {l:List aF} (hl:l.length≤12) (x y:Int):Bg l x y=some (l.map (mvR x y)):=by
 unfold Bg
 have hmk:mk (l.length:Int) (aF.mk 0 0 0 0)=some (List.replicate l.length ⟨0,0,0,0⟩):=by
  unfold mk;rw [if_pos (by unfold LIM;omega)];simp
 have hc:cpy (List.replicate l.length (aF.mk 0 0 0 0)) 0 (List.take (min l.length (List.replicate l.length (aF.mk 0 0 0 0)).length) l)=l:=by
  unfold cpy;simp
 rw [hmk]
 simp only [Option.bind_some,hc]
 have key:aM (xO l x y (List.replicate l.length ⟨0,0,0,0⟩)) (0,l)=some (l.map (mvR x y)):=by
  refine Dr l (xO l x y (List.replicate l.length ⟨0,0,0,0⟩)) (fun k=>((k:Int),(l.take k).map (mvR x y)++l.drop k)) _ (fun k r hr=>?_) ?_
  ·have hk:=(List.getElem?_eq_some_iff.1 hr).1
   unfold xO
   rw [hc]
   have h1:decide ((k:Int)<(l.length:Int))=true:=by simp;omega
   have ht:((l.take k).map (mvR x y)).length=k:=by simp;omega
   have ed:l.drop k=r::l.drop (k+1):=by rw [List.drop_eq_getElem_cons hk];congr 1;exact (List.getElem?_eq_some_iff.1 hr).2
   have i1:∀ z:aF,idx ((l.take k).map (mvR x y)++z::l.drop (k+1)) (k:Int)=some z:=fun z=>bE (by rw [List.getElem?_append_right (by omega),ht];simp)
   have s1:∀ z z':aF,List.set ((l.take k).map (mvR x y)++z::l.drop (k+1)) k z'=(l.take k).map (mvR x y)++z'::l.drop (k+1):=fun z z'=>by rw [List.set_append_right _ _ (by omega),ht];simp
   simp only [h1,if_true,ed,i1,s1,Option.bind_some,Int.toNat_natCast]
   rw [aR (a:=(k:Int)) (by omega) (by omega)]
   have e:l.take (k+1)=l.take k++[r]:=by rw [List.take_add_one,hr];rfl
   rw [e,List.map_append,List.append_assoc]
   rfl
  ·unfold xO
   rw [hc]
   simp
 rw [key]
 rfl
theorem Tu {x:aU} (h:VP x) (n:Nat) (hn:n≤3) {r:aF} {t:List aF} (hc:tq n x.aD=r::t):gG x (n:Int)=some (⟨x.Name,x.bD,x.cE,x.bQ,(tq n x.aD).map (mvR (pT (nE (tq n x.aD) r.X)) (pT (nF (tq n x.aD) r.Y))),(tq n x.bN).map (mvR (pT (nE (tq n x.aD) r.X)) (pT (nF (tq n x.aD) r.Y))),(tq n x.Forms).map (mvR (pT (nE (tq n x.aD) r.X)) (pT (nF (tq n x.aD) r.Y)))⟩,x.Name,x.bD,x.cE,x.bQ):=by
 have g1:Good 0 0 x.aD:=⟨h.n1,h.v1⟩
 have g2:Good 0 0 x.bN:=⟨h.n2,h.v2⟩
 have g3:Good 0 0 x.Forms:=⟨h.n3,h.v3⟩
 have hl:(tq n x.aD).length≤1000:=by rw [Du];have:=h.n1;omega
 unfold gG kE
 simp only [Ar g1,Ar g2,Ar g3,mv0 g1,mv0 g2,mv0 g3,Option.bind_some,Zw g1 g2 g3 n hn]
 have le:=Sc ⟨x.Name,x.bD,x.cE,x.bQ,tq n x.aD,[],[]⟩ (show (tq n x.aD).length≤1000 from hl) (r:=r) (show (tq n x.aD)[0]?=some r by rw [hc];rfl)
 have le':jN (tq n x.aD)=some (nE (tq n x.aD) r.X,nF (tq n x.aD) r.Y):=le
 simp only [le',Option.bind_some,Ar (g1.tq n),Ar (g2.tq n),Ar (g3.tq n)]
theorem Lu {x:aU} (h:VP x) (n:Nat) (hn:n≤3) {r:aF} {t:List aF} (hc:tq n x.aD=r::t):zY ⟨x.aD,x.bN,x.Forms,[]⟩ (n:Int)=some (⟨(tq n x.aD).map (mvR (pT (nE (tq n x.aD) r.X)) (pT (nF (tq n x.aD) r.Y))),(tq n x.bN).map (mvR (pT (nE (tq n x.aD) r.X)) (pT (nF (tq n x.aD) r.Y))),(tq n x.Forms).map (mvR (pT (nE (tq n x.aD) r.X)) (pT (nF (tq n x.aD) r.Y))),[]⟩,0):=by
 have g1:Good 0 0 x.aD:=⟨h.n1,h.v1⟩
 have g2:Good 0 0 x.bN:=⟨h.n2,h.v2⟩
 have g3:Good 0 0 x.Forms:=⟨h.n3,h.v3⟩
 unfold zY
 have t1:decide ((n:Int)<0)=false:=by simp
 have t2:decide ((n:Int)>3)=false:=by simp;omega
 have t3:aM (Cr ⟨x.aD,x.bN,x.Forms,[]⟩) ()=some ():=cF (by simp [Cr])
 simp only [Wn g1 g2 g3 h.n0,Option.bind_some,bne_self_eq_false,Bool.false_eq_true,if_false,t1,t2,EM g1 g2 g3 n hn,t3,Zz (g1.tq n) (g2.tq n) (g3.tq n) hc]
theorem Rb (x:aU) (p:aN):∃ q c n m g k,tD x p=some (q,c,n,m,g,k)∧gU x p=some (q,c,n,m,g,k)∧q.aD.length≤12∧q.bN.length≤12∧q.Forms.length≤12∧(c=0→0<q.aD.length):=by
 obtain ⟨b,b1,b2,b3⟩:=vH x
 unfold tD gU
 rw [b1,b2]
 simp only [Option.bind_some]
 by_cases hb:b=0
 ·subst hb
  have h:=b3 rfl
  simp only [bne_self_eq_false,Bool.false_eq_true,if_false,yG,Option.bind_some,BJ]
  by_cases q1:p.tZ<0
  ·simp only [q1,show ¬ (0≤p.tZ∧p.tZ≤3) by omega,decide_false,decide_true,Bool.not_false,if_true,Option.bind_some]
   exact ⟨_,_,_,_,_,_,rfl,rfl,by simp,by simp,by simp,by decide⟩
  by_cases q2:p.tZ>3
  ·simp only [q1,q2,show ¬ (0≤p.tZ∧p.tZ≤3) by omega,decide_false,decide_true,Bool.not_false,if_true,Option.bind_some,Bool.false_eq_true,if_false]
   exact ⟨_,_,_,_,_,_,rfl,rfl,by simp,by simp,by simp,by decide⟩
  obtain ⟨n,hn⟩:∃ n:Nat,p.tZ=n:=⟨p.tZ.toNat,by omega⟩
  have hn3:n≤3:=by omega
  have w1:∀ z:Int,wb 1048576 z=decide (-1048576≤z∧z≤1048576):=fun z=>by
   rw [Bool.eq_iff_iff,Fg,decide_eq_true_eq]
  simp only [q1,q2,show (0≤p.tZ∧p.tZ≤3) by omega,and_self,decide_true,decide_false,Bool.not_true,Bool.false_eq_true,if_false,Option.bind_some,w1]
  by_cases q3 : -1048576≤p.X∧p.X≤1048576
  ·by_cases q4 : -1048576≤p.Y∧p.Y≤1048576
   ·simp only [q3,q4,and_self,decide_true,if_true,Bool.not_true,Option.bind_some,Bool.false_eq_true,if_false]
    have hl:(tq n x.aD).length=x.aD.length:=Du n _
    obtain ⟨r,t,hc⟩:∃ r t,tq n x.aD=r::t:=by
     cases e:tq n x.aD with
     | nil=>rw [e] at hl;have:=h.n0;simp at hl;omega
     | cons r t=>exact ⟨r,t,rfl⟩
    have hl2:(tq n x.bN).length=x.bN.length:=Du n _
    have hl3:(tq n x.Forms).length=x.Forms.length:=Du n _
    have g1:Good 0 0 x.aD:=⟨h.n1,h.v1⟩
    have g2:Good 0 0 x.bN:=⟨h.n2,h.v2⟩
    have g3:Good 0 0 x.Forms:=⟨h.n3,h.v3⟩
    obtain ⟨⟨lx1,lx2,lx3,lx4⟩,ly1,ly2,ly3,ly4⟩:=Se (g1.tq n) hc
    have k1:=uL (g1.tq n) ⟨lx1,lx2⟩ ⟨ly1,ly2⟩ ⟨lx3,lx4⟩ ⟨ly3,ly4⟩
    have k2:=uL (g2.tq n) ⟨lx1,lx2⟩ ⟨ly1,ly2⟩ ⟨lx3,lx4⟩ ⟨ly3,ly4⟩
    have k3:=uL (g3.tq n) ⟨lx1,lx2⟩ ⟨ly1,ly2⟩ ⟨lx3,lx4⟩ ⟨ly3,ly4⟩
    have hT:=Tu h n hn3 hc
    have hQ:=Lu h n hn3 hc
    unfold tH
    rw [hn,hT,hQ]
    simp only [Option.bind_some,bne_self_eq_false,Bool.false_eq_true,if_false]
    generalize hA:(tq n x.aD).map (mvR (pT (nE (tq n x.aD) r.X)) (pT (nF (tq n x.aD) r.Y)))=A at k1
    generalize hB:(tq n x.bN).map (mvR (pT (nE (tq n x.aD) r.X)) (pT (nF (tq n x.aD) r.Y)))=B at k2
    generalize hC:(tq n x.Forms).map (mvR (pT (nE (tq n x.aD) r.X)) (pT (nF (tq n x.aD) r.Y)))=C at k3
    unfold kE
    have e1:=k1.1
    have e2:=k2.1
    have e3:=k3.1
    simp only [Ar k1,Ar k2,Ar k3,Ah k1.1,Ah k2.1,Ah k3.1,Option.bind_some]
    rw [gE _ (by rw [List.length_map];omega),gE _ (by rw [List.length_map];omega),gE _ (by rw [List.length_map];omega),mQ _ (by rw [List.length_map];omega),mQ _ (by rw [List.length_map];omega),mQ _ (by rw [List.length_map];omega)]
    simp only [Option.bind_some]
    generalize ((A.map (mvR p.X p.Y)).any fun x=>!decide (vR x))=c1
    generalize ((B.map (mvR p.X p.Y)).any fun x=>!decide (vR x))=c2
    generalize ((C.map (mvR p.X p.Y)).any fun x=>!decide (vR x))=c3
    cases c1
    ·cases c2
     ·cases c3
      ·exact ⟨_,_,_,_,_,_,rfl,rfl,by simp;omega,by simp;omega,by simp;omega,fun _=>by rw [List.length_map,← hA,List.length_map,hl];exact h.n0⟩
      ·exact ⟨_,_,_,_,_,_,rfl,rfl,by simp,by simp,by simp,by decide⟩
     ·exact ⟨_,_,_,_,_,_,rfl,rfl,by simp,by simp,by simp,by decide⟩
    ·exact ⟨_,_,_,_,_,_,rfl,rfl,by simp,by simp,by simp,by decide⟩
   ·simp only [q3,q4,and_self,decide_true,decide_false,if_true,Bool.not_false,Option.bind_some]
    exact ⟨_,_,_,_,_,_,rfl,rfl,by simp,by simp,by simp,by decide⟩
  ·simp only [q3,decide_false,Bool.false_eq_true,if_false,Option.bind_some,if_true]
   exact ⟨_,_,_,_,_,_,rfl,rfl,by simp,by simp,by simp,by decide⟩
 ·have hb':(b != 0)=true:=by rw [bne_iff_ne];exact hb
  simp only [hb',if_true]
  exact ⟨_,_,_,_,_,_,rfl,rfl,by simp,by simp,by simp,fun e=>absurd e hb⟩
structure Iso (g:aF→aF) (l:List aF):Prop where
 v:∀ a ∈ l,vR a→vR (g a)
 ov:∀ a ∈ l,∀ b ∈ l,oG (g a) (g b)=oG a b
 to:∀ a ∈ l,∀ b ∈ l,qF (g a) (g b)=qF a b
 de:∀ a ∈ l,∀ b ∈ l,uU (g a) (g b)=uU a b
 ze:∀ a ∈ l,∀ b ∈ l,Ge (g a) (g b)=Ge a b
 th:∀ a ∈ l,(((g a).W==1) || ((g a).H==1))=((a.W==1) || (a.H==1))
def trR (x y:Int) (r:aF):aF:=⟨r.X+x,r.Y+y,r.W,r.H⟩
theorem Oa {a b:aF} (ha:vR a) (hb:vR b):qF a b=some (decide ((min (a.X+a.W) (b.X+b.W)-max a.X b.X=0∧min (a.Y+a.H) (b.Y+b.H)-max a.Y b.Y>0)∨(min (a.Y+a.H) (b.Y+b.H)-max a.Y b.Y=0∧min (a.X+a.W) (b.X+b.W)-max a.X b.X>0))):=by
 unfold vR at ha hb
 unfold qF
 rw [aR (by omega) (by omega),aR (by omega) (by omega),aR (by omega) (by omega),aR (by omega) (by omega)]
 simp only [Nk,Ij]
 rw [bF (by omega) (by omega),bF (by omega) (by omega)]
 generalize min (a.X+a.W) (b.X+b.W)-max a.X b.X=w
 generalize min (a.Y+a.H) (b.Y+b.H)-max a.Y b.Y=h
 by_cases h1:w=0
 ·by_cases h2:h>0
  ·simp [h1,h2]
  ·by_cases h3:h=0
   ·simp [h1,h3]
   ·simp [h1,h2,h3]
 ·by_cases h3:h=0
  ·simp [h1,h3]
  ·simp [h1,h3]
theorem Jn {a b:aF} (ha:vR a) (hb:vR b):uU a b=decide (a.X>b.X∧a.Y>b.Y∧a.X+a.W<b.X+b.W∧a.Y+a.H<b.Y+b.H):=by
 unfold vR at ha hb
 unfold uU
 rw [aR (by omega) (by omega),aR (by omega) (by omega),aR (by omega) (by omega),aR (by omega) (by omega)]
 by_cases h1:a.X>b.X <;> by_cases h2:a.Y>b.Y <;> by_cases h3:a.X+a.W<b.X+b.W <;> simp [h1,h2,h3]
theorem OM {l:List aF} (h:∀ r ∈ l,vR r):Iso qR l:=by
 refine ⟨fun a _ hv=>Tr hv,fun a ha b hb=>?_,fun a ha b hb=>?_,fun a ha b hb=>?_,fun a ha b hb=>?_,fun a ha=>?_⟩
 ·unfold oG
  refine decide_eq_decide.2 ?_
  have p1:=h a ha;have p2:=h b hb;have p3:=Tr p1;have p4:=Tr p2
  unfold ovR
  simp only [p1,p2,p3,p4,true_and]
  simp only [qR]
  omega
 ·rw [Oa (Tr (h a ha)) (Tr (h b hb)),Oa (h a ha) (h b hb)]
  congr 1
  refine decide_eq_decide.2 ?_
  simp only [qR]
  omega
 ·rw [Jn (Tr (h a ha)) (Tr (h b hb)),Jn (h a ha) (h b hb)]
  refine decide_eq_decide.2 ?_
  simp only [qR]
  omega
 ·have p1:=h a ha;have p2:=h b hb;have p3:=Tr p1;have p4:=Tr p2
  have:zX (qR a) (qR b)=zX a b:=by
   unfold zX
   rw [if_pos ⟨p3,p4⟩,if_pos ⟨p1,p2⟩]
   simp only [qR]
   omega
  unfold Ge;rw [this]
 ·show ((a.H==1) || (a.W==1))=_
  exact Bool.or_comm _ _
theorem OO {l:List aF} (x y:Int) (h:∀ r ∈ l,vR r∧vR (trR x y r)):Iso (trR x y) l:=by
 refine ⟨fun a ha _=>(h a ha).2,fun a ha b hb=>?_,fun a ha b hb=>?_,fun a ha b hb=>?_,fun a ha b hb=>?_,fun a ha=>rfl⟩
 ·unfold oG
  refine decide_eq_decide.2 ?_
  have p1:=(h a ha).1;have p2:=(h b hb).1;have p3:=(h a ha).2;have p4:=(h b hb).2
  unfold ovR
  simp only [p1,p2,p3,p4,true_and]
  simp only [trR]
  omega
 ·rw [Oa (h a ha).2 (h b hb).2,Oa (h a ha).1 (h b hb).1]
  congr 1
  refine decide_eq_decide.2 ?_
  simp only [trR]
  omega
 ·rw [Jn (h a ha).2 (h b hb).2,Jn (h a ha).1 (h b hb).1]
  refine decide_eq_decide.2 ?_
  simp only [trR]
  omega
 ·have:zX (trR x y a) (trR x y b)=zX a b:=by
   unfold zX
   rw [if_pos ⟨(h a ha).2,(h b hb).2⟩,if_pos ⟨(h a ha).1,(h b hb).1⟩]
   simp only [trR]
   omega
  unfold Ge;rw [this]
theorem Xj {g:aF→aF} {p:aF→aF→Bool} {l:List aF} (h:∀ a ∈ l,∀ b ∈ l,p (g a) (g b)=p a b) (k:Nat):Am p (l.map g) k=Am p l k:=by
 unfold Am
 rw [List.getElem?_map]
 cases e:l[k]? with
 | none=>rfl
 | some x =>
   have hx:=List.mem_of_getElem? e
   simp only [Option.map_some]
   rw [← List.map_take,List.any_map,Bool.eq_iff_iff,List.any_eq_true,List.any_eq_true]
   constructor
   ·rintro ⟨y,hy,q⟩;exact ⟨y,hy,by rw [← h x hx y (List.mem_of_mem_take hy)];exact q⟩
   ·rintro ⟨y,hy,q⟩;exact ⟨y,hy,by show p (g x) (g y)=true;rw [h x hx y (List.mem_of_mem_take hy)];exact q⟩
theorem BA {α β:Type} (g:α→β) (l:List α) (i:Int):idx (l.map g) i=(idx l i).map g:=by
 unfold idx
 split
 ·rw [List.getElem?_map]
 ·rfl
theorem JY {g:aF→aF} {l:List aF} (h:∀ a ∈ l,∀ b ∈ l,qF (g a) (g b)=qF a b):nU (l.map g)=nU l:=by
 have mem:∀ {i:Int} {x:aF},idx l i=some x→x ∈ l:=fun {i x} e=>by
  unfold idx at e
  split at e
  ·exact List.mem_of_getElem? e
  ·cases e
 have b2:∀ x:Int,fW (l.map g) x=fW l x:=by
  intro x
  funext s
  unfold fW
  rw [List.length_map,BA,BA]
  cases e1:idx l x with
  | none=>rfl
  | some u =>
    cases e2:idx l s.1 with
    | none=>rfl
    | some w =>
      simp only [Option.map_some,Option.bind_some]
      rw [h u (mem e1) w (mem e2)]
 have b3:gW (l.map g)=gW l:=by
  funext s
  unfold gW
  simp only [b2]
 unfold nU
 rw [List.length_map,b3]
structure VG (R C F:List aF):Prop where
 n1:R.length≤12
 n0:0<R.length
 n2:C.length≤12
 n3:F.length≤12
 v:∀ r ∈ R++(C++F),vR r
 ov:∀ k,k<R.length→Am oG R k=false
 co:nU R=some true
 ho:∀ k,k<(C++F).length→∃ x,(C++F)[k]?=some x∧R.any (uU x)=true∧(k<C.length→((x.W==1) || (x.H==1))=false)
 ze:∀ k,k<(C++F).length→Am Ge (C++F) k=false
theorem VG.map {R C F:List aF} {g:aF→aF} (h:VG R C F) (i:Iso g (R++(C++F))):VG (R.map g) (C.map g) (F.map g):=by
 have mR:∀ {a:aF},a ∈ R→a ∈ R++(C++F):=fun h=>List.mem_append.2 (.inl h)
 have mC:∀ {a:aF},a ∈ C++F→a ∈ R++(C++F):=fun h=>List.mem_append.2 (.inr h)
 refine ⟨by rw [List.length_map];exact h.n1,by rw [List.length_map];exact h.n0,by rw [List.length_map];exact h.n2,by rw [List.length_map];exact h.n3,fun r hr=>?_,fun k hk=>?_, ?_,fun k hk=>?_,fun k hk=>?_⟩
 ·rw [← List.map_append,← List.map_append] at hr
  obtain ⟨a,ha,rfl⟩:=List.mem_map.1 hr
  exact i.v a ha (h.v a ha)
 ·rw [Xj (fun a ha b hb=>i.ov a (mR ha) b (mR hb))]
  exact h.ov k (by rw [List.length_map] at hk;exact hk)
 ·rw [JY (fun a ha b hb=>i.to a (mR ha) b (mR hb))];exact h.co
 ·rw [← List.map_append,List.length_map] at hk
  obtain ⟨x,h1,h2,h3⟩:=h.ho k hk
  have hx:=List.mem_of_getElem? h1
  refine ⟨g x,by rw [← List.map_append,List.getElem?_map,h1];rfl, ?_,fun hc=>?_⟩
  ·obtain ⟨r,hr,q⟩:=List.any_eq_true.1 h2
   rw [List.any_eq_true]
   exact ⟨g r,List.mem_map_of_mem hr,by rw [i.de x (mC hx) r (mR hr)];exact q⟩
  ·rw [i.th x (mC hx)];exact h3 (by rw [List.length_map] at hc;exact hc)
 ·rw [← List.map_append] at hk ⊢
  rw [Xj (fun a ha b hb=>i.ze a (mC ha) b (mC hb))]
  exact h.ze k (by rw [List.length_map] at hk;exact hk)
theorem VG.tq {R C F:List aF} (h:VG R C F):∀ n,VG (tq n R) (SM.tq n C) (SM.tq n F)
 | 0=>h
 | n+1=>(VG.tq h n).map (OM (VG.tq h n).v)
theorem JG {x:aU} (hn:iL x.Name=some true) (hm:iL x.bD=some true) (hp:(1≤x.cE∧x.cE≤60)∧0≤x.bQ∧x.bQ≤2) (h:VG x.aD x.bN x.Forms) {r:aF} (hr:x.aD[0]?=some r) (lx:nE x.aD r.X=0) (ly:nF x.aD r.Y=0):bB x=some 0:=by
 have i0:idx x.aD 0=some r:=bE (k:=0) hr
 have k1:=h.n1;have k2:=h.n2;have k3:=h.n3;have k0:=h.n0
 have d1:decide ((x.aD.length:Int)>12)=false:=by simp;omega
 have d2:decide ((x.bN.length:Int)>12)=false:=by simp;omega
 have d3:decide ((x.Forms.length:Int)>12)=false:=by simp;omega
 have d0:((x.aD.length:Int)==0)=false:=by rw [beq_eq_false_iff_ne];omega
 have any0:∀ l:List aF,(∀ r ∈ l,vR r)→(l.any fun x=>!decide (vR x))=false:=fun l hl=>by
  rw [List.any_eq_false];intro y hy;simp [hl y hy]
 have a1:=any0 x.aD fun r hr=>h.v r (List.mem_append.2 (.inl hr))
 have a2:=any0 x.bN fun r hr=>h.v r (List.mem_append.2 (.inr (List.mem_append.2 (.inl hr))))
 have a3:=any0 x.Forms fun r hr=>h.v r (List.mem_append.2 (.inr (List.mem_append.2 (.inr hr))))
 have rng:∀ (n:Nat) (p:Nat→Bool),(∀ k,k<n→p k=false)→(List.range n).any p=false:=fun n p hp=>by
  rw [List.any_eq_false];intro k hk;rw [hp k (List.mem_range.1 hk)];simp
 have r1:=rng _ _ h.ov
 have r2:=rng _ (yC x (x.bN++x.Forms)) fun k hk=>by
  obtain ⟨y,h1,h2,h3⟩:=h.ho k hk
  unfold yC
  rw [h1]
  simp only [h2,Bool.not_true,Bool.false_or]
  by_cases hc:k<x.bN.length
  ·rw [h3 hc,Bool.and_false]
  ·have:decide ((k:Int)<(x.bN.length:Int))=false:=by simp;omega
   rw [this,Bool.false_and]
 have r3:=rng _ _ h.ze
 have ap1:app [] x.bN=some x.bN:=by rw [jZ (by unfold LIM;simp;omega)];rfl
 have ap2:app x.bN x.Forms=some (x.bN++x.Forms):=jZ (by unfold LIM;omega)
 have k4:(x.bN++x.Forms).length≤1000:=by simp;omega
 unfold bB
 simp only [hn,hm,Ep,hp,and_self,decide_true,Bool.not_true,Bool.false_eq_true,if_true,if_false,Option.bind_some,d1,d2,d3,d0,gE x.aD (by omega),gE x.bN (by omega),gE x.Forms (by omega),a1,a2,a3,Bool.not_false,i0,Jz x (by omega),lx,ly,bne_self_eq_false,ov3 x (by omega),r1,h.co]
 unfold zE
 simp only [ap1,ap2,Option.bind_some,Kn x _ k4 (show x.aD.length≤1000 by omega),r2,in3 _ k4,r3,Bool.false_eq_true,if_false]
theorem Xi {x : aU} (h:bB x=some 0):iL x.Name=some true∧iL x.bD=some true∧((1≤x.cE∧x.cE≤60)∧0≤x.bQ∧x.bQ≤2)∧VG x.aD x.bN x.Forms:=by
 obtain ⟨a,ha,_⟩:=rF x.Name
 obtain ⟨b,hb,_⟩:=rF x.bD
 obtain ⟨z,hz,_,hv⟩:=vH x
 have vp:=hv (Option.some.inj (hz.symm.trans h))
 obtain ⟨cn,c1,_⟩:=Ea (l:=x.aD) (by have:=vp.n1;omega) vp.n0
 unfold bB at h
 rw [ha,hb] at h
 cases a with
 | false=>exact absurd (Option.some.inj h) (by decide)
 | true =>
 cases b with
 | false=>exact absurd (Option.some.inj h) (by decide)
 | true =>
 have k1:=vp.n1;have k2:=vp.n2;have k3:=vp.n3;have k0:=vp.n0
 have d1:decide ((x.aD.length:Int)>12)=false:=by simp;omega
 have d2:decide ((x.bN.length:Int)>12)=false:=by simp;omega
 have d3:decide ((x.Forms.length:Int)>12)=false:=by simp;omega
 have d0:((x.aD.length:Int)==0)=false:=by rw [beq_eq_false_iff_ne];omega
 have any0:∀ l:List aF,(∀ r ∈ l,vR r)→(l.any fun x=>!decide (vR x))=false:=fun l hl=>by
  rw [List.any_eq_false];intro y hy;simp [hl y hy]
 have a1:=any0 x.aD fun r hr=>(vp.v1 r hr).1
 have a2:=any0 x.bN fun r hr=>(vp.v2 r hr).1
 have a3:=any0 x.Forms fun r hr=>(vp.v3 r hr).1
 have hr:x.aD[0]?=some (x.aD[0]'k0):=by simp [k0]
 have i0:idx x.aD 0=some (x.aD[0]'k0):=bE (k:=0) hr
 have ap1:app [] x.bN=some x.bN:=by rw [jZ (by unfold LIM;simp;omega)];rfl
 have ap2:app x.bN x.Forms=some (x.bN++x.Forms):=jZ (by unfold LIM;omega)
 have k4:(x.bN++x.Forms).length≤1000:=by simp;omega
 simp only [Ep,Option.bind_some,Bool.not_true,if_true,Bool.false_eq_true,if_false,d1,d2,d3,d0,gE x.aD (by omega),gE x.bN (by omega),gE x.Forms (by omega),a1,a2,a3,Bool.not_false,i0,Jz x (show x.aD.length≤1000 by omega),ov3 x (show x.aD.length≤1000 by omega),c1] at h
 unfold zE at h
 simp only [ap1,ap2,Option.bind_some,Kn x _ k4 (show x.aD.length≤1000 by omega),in3 _ k4] at h
 by_cases hp:(1≤x.cE∧x.cE≤60)∧0≤x.bQ∧x.bQ≤2
 ·refine ⟨ha,hb,hp, ?_⟩
  simp only [hp,and_self,decide_true,Bool.not_true,Bool.false_eq_true,if_false] at h
  cases e1:(nE x.aD (x.aD[0]'k0).X != 0)
  ·cases e2:(nF x.aD (x.aD[0]'k0).Y != 0)
   ·cases e3:(List.range x.aD.length).any (Am oG x.aD)
    ·cases cn
     ·simp [e1,e2,e3] at h
     ·cases e4:(List.range (x.bN++x.Forms).length).any (yC x (x.bN++x.Forms))
      ·cases e5:(List.range (x.bN++x.Forms).length).any (Am Ge (x.bN++x.Forms))
       ·have rng:∀ {n:Nat} {p:Nat→Bool},(List.range n).any p=false→∀ k,k<n→p k=false:=fun {n p} hp k hk=>by
         have:=List.any_eq_false.1 hp k (List.mem_range.2 hk);simpa using this
        refine ⟨k1,k0,k2,k3,fun r hr=>?_,rng e3,c1,fun k hk=>?_,rng e5⟩
        ·rcases List.mem_append.1 hr with hr | hr
         ·exact (vp.v1 r hr).1
         ·rcases List.mem_append.1 hr with hr | hr
          ·exact (vp.v2 r hr).1
          ·exact (vp.v3 r hr).1
        ·have q:=rng e4 k hk
         unfold yC at q
         have hx:(x.bN++x.Forms)[k]?=some (x.bN++x.Forms)[k]:=by simp
         rw [hx] at q
         simp only [Bool.or_eq_false_iff] at q
         refine ⟨_,hx,by have:=q.1;simpa using this,fun hc=>?_⟩
         have hd:decide ((k:Int)<(x.bN.length:Int))=true:=by simp;omega
         have:=q.2
         rw [hd,Bool.true_and] at this
         exact this
       ·simp only [e1,e2,e3,e4,e5,Bool.not_true,Bool.false_eq_true,if_false,if_true,Option.bind_some] at h
        exact absurd (Option.some.inj h) (by decide)
      ·simp only [e1,e2,e3,e4,Bool.not_true,Bool.false_eq_true,if_false,if_true,Option.bind_some] at h
       exact absurd (Option.some.inj h) (by decide)
    ·simp [e1,e2,e3] at h
   ·simp [e1,e2] at h
  ·simp [e1] at h
 ·simp only [hp,decide_false,Bool.not_false,if_true] at h
  exact absurd (Option.some.inj h) (by decide)
def lo (l:List aF):Int×Int:=match l with
 | []=>(0,0)
 | r::_=>(nE l r.X,nF l r.Y)
def nrm (R l:List aF):List aF:=l.map (trR (-(lo R).1) (-(lo R).2))
theorem foldl_add (g:aF→Int) (f:aF→aF) (d:Int) (hf:∀ r,g (f r)=g r+d):∀ (l:List aF) (a:Int),(l.map f).foldl (fun s r=>min s (g r)) (a+d)=l.foldl (fun s r=>min s (g r)) a+d
 | [],a=>rfl
 | r::l,a=>by
   simp only [List.map_cons,List.foldl_cons,hf]
   rw [← foldl_add g f d hf l (min a (g r))]
   congr 1
   omega
theorem OQ {R:List aF} (hne:R≠[]) (x y:Int):lo (R.map (trR x y))=((lo R).1+x,(lo R).2+y):=by
 cases R with
 | nil=>exact absurd rfl hne
 | cons r t =>
   have h1:=foldl_add (fun r=>r.X) (trR x y) x (fun _=>rfl) (r::t) r.X
   have h2:=foldl_add (fun r=>r.Y) (trR x y) y (fun _=>rfl) (r::t) r.Y
   exact Prod.ext h1 h2
theorem NC {R:List aF} (hne:R≠[]):lo (nrm R R)=(0,0):=by
 unfold nrm
 rw [OQ hne]
 refine Prod.ext ?_ ?_ <;> simp only <;> omega
theorem BZ {l:List aF} (n:Nat) (h:0<l.length):tq n l≠[]:=by
 intro e
 have:=Du n l
 rw [e] at this;simp at this;omega
def trn (n:Nat) (R l:List aF):List aF:=nrm (tq n R) (tq n l)
theorem Lp {a b mx my:Int} {l:List aF} (h:Good a b l) (hx : -1048576≤mx∧mx≤1048576) (hy : -1048576≤my∧my≤1048576):l.map (mvR (pT mx) (pT my))=l.map (trR (-mx) (-my)):=by
 refine List.map_congr_left fun r hr=>?_
 have hv:=(h.2 r hr).1
 unfold vR at hv
 unfold mvR trR
 rw [Ko (by omega) (by omega),Ko (by omega) (by omega),aR (by omega) (by omega),aR (by omega) (by omega)]
theorem AJ {x:aU} (hx:bB x=some 0) (n:Nat) (hn:n≤3):tD x ⟨0,0,0,0,(n:Int)⟩=some (⟨x.Name,x.bD,x.cE,x.bQ,trn n x.aD x.aD,trn n x.aD x.bN,trn n x.aD x.Forms⟩,0,x.Name,x.bD,x.cE,x.bQ)∧bB ⟨x.Name,x.bD,x.cE,x.bQ,trn n x.aD x.aD,trn n x.aD x.bN,trn n x.aD x.Forms⟩=some 0:=by
 obtain ⟨z,hz,_,hv⟩:=vH x
 have h:=hv (Option.some.inj (hz.symm.trans hx))
 obtain ⟨hn1,hn2,hn3,vg⟩:=Xi hx
 have g1:Good 0 0 x.aD:=⟨h.n1,h.v1⟩
 have g2:Good 0 0 x.bN:=⟨h.n2,h.v2⟩
 have g3:Good 0 0 x.Forms:=⟨h.n3,h.v3⟩
 obtain ⟨r,t,hc⟩:∃ r t,tq n x.aD=r::t:=by
  cases e:tq n x.aD with
  | nil=>exact absurd e (BZ n h.n0)
  | cons r t=>exact ⟨r,t,rfl⟩
 obtain ⟨⟨lx1,lx2,lx3,lx4⟩,ly1,ly2,ly3,ly4⟩:=Se (g1.tq n) hc
 have k1:=uL (g1.tq n) ⟨lx1,lx2⟩ ⟨ly1,ly2⟩ ⟨lx3,lx4⟩ ⟨ly3,ly4⟩
 have k2:=uL (g2.tq n) ⟨lx1,lx2⟩ ⟨ly1,ly2⟩ ⟨lx3,lx4⟩ ⟨ly3,ly4⟩
 have k3:=uL (g3.tq n) ⟨lx1,lx2⟩ ⟨ly1,ly2⟩ ⟨lx3,lx4⟩ ⟨ly3,ly4⟩
 have hlo:lo (tq n x.aD)=(nE (tq n x.aD) r.X,nF (tq n x.aD) r.Y):=by
  rw [show lo (tq n x.aD)=lo (r::t) by rw [hc],lo,hc]
 have hQ:=Lu h n hn hc
 rw [Lp (g1.tq n) ⟨lx3,lx4⟩ ⟨ly3,ly4⟩,Lp (g2.tq n) ⟨lx3,lx4⟩ ⟨ly3,ly4⟩,Lp (g3.tq n) ⟨lx3,lx4⟩ ⟨ly3,ly4⟩] at hQ
 rw [Lp (g1.tq n) ⟨lx3,lx4⟩ ⟨ly3,ly4⟩] at k1
 rw [Lp (g2.tq n) ⟨lx3,lx4⟩ ⟨ly3,ly4⟩] at k2
 rw [Lp (g3.tq n) ⟨lx3,lx4⟩ ⟨ly3,ly4⟩] at k3
 have e1:trn n x.aD x.aD=(tq n x.aD).map (trR (-(nE (tq n x.aD) r.X)) (-(nF (tq n x.aD) r.Y))):=by unfold trn nrm;rw [hlo]
 have e2:trn n x.aD x.bN=(tq n x.bN).map (trR (-(nE (tq n x.aD) r.X)) (-(nF (tq n x.aD) r.Y))):=by unfold trn nrm;rw [hlo]
 have e3:trn n x.aD x.Forms=(tq n x.Forms).map (trR (-(nE (tq n x.aD) r.X)) (-(nF (tq n x.aD) r.Y))):=by unfold trn nrm;rw [hlo]
 rw [← e1,← e2,← e3] at hQ
 rw [← e1] at k1
 rw [← e2] at k2
 rw [← e3] at k3
 have any0:∀ {a b:Int} {l:List aF},Good a b l→(l.any fun x=>!decide (vR x))=false:=fun {a b l} hl=>by
  rw [List.any_eq_false];intro y hy;simp [(hl.2 y hy).1]
 have n1:=k1.1;have n2:=k2.1;have n3:=k3.1
 refine ⟨?_, ?_⟩
 ·unfold tD
  simp only [hx,Option.bind_some,bne_self_eq_false,Bool.false_eq_true,if_false,yG,show (0≤(n:Int)∧(n:Int)≤3) by omega,show ((-1048576:Int)≤0∧(0:Int)≤1048576) by omega,and_self,decide_true,Bool.not_true,if_true]
  unfold tH
  simp only [hQ,Option.bind_some,bne_self_eq_false,Bool.false_eq_true,if_false,Ah k1.1,Ah k2.1,Ah k3.1,mv0 k1,mv0 k2,mv0 k3,gE _ (show (trn n x.aD x.aD).length≤9223372036854775806 by omega),gE _ (show (trn n x.aD x.bN).length≤9223372036854775806 by omega),gE _ (show (trn n x.aD x.Forms).length≤9223372036854775806 by omega),any0 k1,any0 k2,any0 k3,Bool.not_false,Bool.not_true,if_true]
 ·have hvg:VG (trn n x.aD x.aD) (trn n x.aD x.bN) (trn n x.aD x.Forms):=by
   rw [e1,e2,e3]
   refine (VG.tq vg n).map (OO _ _ fun a ha=>⟨(VG.tq vg n).v a ha, ?_⟩)
   rcases List.mem_append.1 ha with ha | ha
   ·exact (k1.2 _ (by rw [e1];exact List.mem_map_of_mem ha)).1
   ·rcases List.mem_append.1 ha with ha | ha
    ·exact (k2.2 _ (by rw [e2];exact List.mem_map_of_mem ha)).1
    ·exact (k3.2 _ (by rw [e3];exact List.mem_map_of_mem ha)).1
  have hl0:=NC (BZ n h.n0:tq n x.aD≠[])
  have hl0':lo (trn n x.aD x.aD)=(0,0):=hl0
  cases hA:trn n x.aD x.aD with
  | nil=>have:=hvg.n0;rw [hA] at this;simp at this
  | cons r' t' =>
    rw [hA] at hl0'
    have q1:nE (r'::t') r'.X=0:=congrArg Prod.fst hl0'
    have q2:nF (r'::t') r'.Y=0:=congrArg Prod.snd hl0'
    exact JG (x:=⟨x.Name,x.bD,x.cE,x.bQ,r'::t',trn n x.aD x.bN,trn n x.aD x.Forms⟩) hn1 hn2 hn3 (by rw [← hA];exact hvg) (r:=r') rfl q1 q2
def fX (sheets:(List bI)):Int→Option (Int ⊕ (Int ⊕ Unit)):=fun a0 =>
 if (decide (a0<(sheets.length:Int))) then ((idx sheets a0).bind fun a2=>(bO a2).bind fun a1=>if (a1 != 0) then (some (.inr (.inl a1))) else (some (.inl (aJ a0 1)))) else (some (.inr (.inr (()))))
def fY (pieces:(List aU)):Int→Option (Int ⊕ (Int ⊕ Unit)):=fun a1 =>
 if (decide (a1<(pieces.length:Int))) then ((idx pieces a1).bind fun a2=>(bB a2).bind fun a0=>if (a0 != 0) then (some (.inr (.inl a0))) else (some (.inl (aJ a1 1)))) else (some (.inr (.inr (()))))
def vX (sheets:(List bI)) (pieces:(List aU)):Option (Int):=
 (if (decide ((sheets.length:Int)>4)) then (some true) else (some (decide ((pieces.length:Int)>8)))).bind fun j2=>if j2 then (some 4) else ((aM (fX sheets) 0).bind fun a4=>match a4 with | .inl a3=>some a3 | .inr a5=>(aM (fY pieces) 0).bind fun a1=>match a1 with | .inl a0=>some a0 | .inr a2=>some 0)
def sJ (sheets:(List bI)):Int→Option (Int ⊕ (Int ⊕ Unit)):=fun a0 =>
 if (decide (a0<(sheets.length:Int))) then ((idx sheets a0).bind fun a2=>(dF a2).bind fun a1=>if (a1 != 0) then (some (.inr (.inl a1))) else (some (.inl (aJ a0 1)))) else (some (.inr (.inr (()))))
def sK (pieces:(List aU)):Int→Option (Int ⊕ (Int ⊕ Unit)):=fun a1 =>
 if (decide (a1<(pieces.length:Int))) then ((idx pieces a1).bind fun a2=>(cO a2).bind fun a0=>if (a0 != 0) then (some (.inr (.inl a0))) else (some (.inl (aJ a1 1)))) else (some (.inr (.inr (()))))
def mO (sheets:(List bI)) (pieces:(List aU)):Option (Int):=
 (if (decide ((sheets.length:Int)>4)) then (some true) else (some (decide ((pieces.length:Int)>8)))).bind fun j2=>if j2 then (some 4) else ((aM (sJ sheets) 0).bind fun a4=>match a4 with | .inl a3=>some a3 | .inr a5=>(aM (sK pieces) 0).bind fun a1=>match a1 with | .inl a0=>some a0 | .inr a2=>some 0)
def tE (x0:aU) (r2:aF×Bool):Int→Option (Int ⊕ (Unit ⊕ Unit)):=fun a0 =>
 if (decide (a0<(x0.aD.length:Int))) then ((idx x0.aD a0).bind fun a2=>(Ch a2 r2.1).bind fun a1=>if (!a1) then (some (.inr (.inl ()))) else (some (.inl (aJ a0 1)))) else (some (.inr (.inr (()))))
def uM (x0:aU) (s1:bI) (set2:bA) (turn:Int):Option (Bool):=
 (oL s1 set2.aS).bind fun r2=>(if r2.2 then ((eJ x0 s1 turn).bind fun r8=>some (!r8)) else (some true)).bind fun j7=>if j7 then (some false) else ((aM (tE x0 r2) 0).bind fun a3=>match a3 with | .inl a4=>some false | .inr a5=>((xP x0.aD s1.bG).bind fun a1=>if a1 then (some false) else ((xP x0.aD s1.Used).bind fun a2=>some (!a2))).bind fun a0=>some a0)
def xK (a2:aN) (a1:(List aN)):Int→Option (Int ⊕ (Unit ⊕ Unit)):=fun a0 =>
 if (decide (a0<(a1.length:Int))) then ((idx a1 a0).bind fun a3=>if (a3.aU==a2.aU) then (some (.inr (.inl ()))) else (some (.inl (aJ a0 1)))) else (some (.inr (.inr (()))))
def xL (set2:bA) (a5:Int×(List aU)) (a6:aN) (a3:aU×Int×ByteArray×ByteArray×Int×Int) (a1:(List aN)):Int→Option (Int ⊕ (Unit ⊕ Unit)):=fun a0 =>
 if (decide (a0<(a1.length:Int))) then ((idx a1 a0).bind fun a7=>(if (a7.bI==a6.bI) then ((idx a5.2 a0).bind fun a8=>(Il a3.1.aD a8.aD set2).bind fun a4=>some (!a4)) else (some false)).bind fun a2=>if a2 then (some (.inr (.inl ()))) else (some (.inl (aJ a0 1)))) else (some (.inr (.inr (()))))
def jP (sheets:(List bI)) (pieces:(List aU)) (set2:bA) (l:(List aN)):Int×(List aU)→Option (Int×(List aU) ⊕ ((Int×Int) ⊕ Unit)):=fun a1 =>
 if (decide (a1.1<(l.length:Int))) then ((idx l a1.1).bind fun a2=>((lM a2.aU 0 (aI (pieces.length:Int) 1)).bind fun a7=>if a7 then ((lM a2.bI 0 (aI (sheets.length:Int) 1)).bind fun a8=>some (!a8)) else (some true)).bind fun a3=>if a3 then (some (.inr (.inl (a1.1,1)))) else ((idx pieces a2.aU).bind fun b0=>(tD b0 a2).bind fun a0=>if (a0.2.1 != 0) then (some (.inr (.inl (a1.1,1)))) else ((slc l 0 a1.1).bind fun a4=>(aM (xK a2 a4) 0).bind fun b1=>match b1 with | .inl b4=>some (.inr (.inl (a1.1,12))) | .inr b5=>(idx sheets a2.bI).bind fun b2=>(uM (aU.mk a0.1.Name a0.1.bD a0.1.cE a0.1.bQ a0.1.aD a0.1.bN a0.1.Forms) b2 set2 a2.tZ).bind fun a9=>if (!a9) then (some (.inr (.inl (a1.1,13)))) else ((slc l 0 a1.1).bind fun a5=>(aM (xL set2 a1 a2 a0 a5) 0).bind fun b3=>match b3 with | .inl b6=>some (.inr (.inl (a1.1,7))) | .inr b7=>(app a1.2 [(aU.mk a0.1.Name a0.1.bD a0.1.cE a0.1.bQ a0.1.aD a0.1.bN a0.1.Forms)]).bind fun a6=>some (.inl ((aJ a1.1 1),a6)))))) else (some (.inr (.inr (()))))
def Bf (sheets:(List bI)) (pieces:(List aU)) (set2:bA) (l:(List aN)):Option (Int×Int):=
 (vX sheets pieces).bind fun r4=>if (r4 != 0) then (some (0,r4)) else ((cX set2).bind fun r8=>if (!r8) then (some (0,1)) else ((aM (jP sheets pieces set2 l) (0,[])).bind fun a1=>match a1 with | .inl a0=>some (a0.1,a0.2) | .inr a2=>some (0,0)))
def kI (l:(List aF)) (s1:bI) (set2:bA):Int→Option (Int ⊕ (Unit ⊕ Unit)):=fun a0 =>
 if (decide (a0<(l.length:Int))) then (((idx l a0).bind fun a5=>(iT a5 (aF.mk set2.aS set2.aS (aI s1.cM (eS 2 set2.aS)) (aI s1.bP (eS 2 set2.aS)))).bind fun a2=>if a2 then ((idx l a0).bind fun a6=>(jL a6 s1.bG).bind fun a3=>if a3 then (some true) else ((idx l a0).bind fun a7=>(jL a7 s1.Used).bind fun a4=>some a4)) else (some true)).bind fun a1=>if a1 then (some (.inr (.inl ()))) else (some (.inl (aJ a0 1)))) else (some (.inr (.inr (()))))
def wD (l:(List aF)) (s1:bI) (set2:bA):Option (Bool):=
 (aM (kI l s1 set2) 0).bind fun a0=>match a0 with | .inl a1=>some false | .inr a2=>some true
def lB (l:(List aN)) (at4:aN):Int→Option (Int ⊕ (Unit ⊕ Unit)):=fun a0 =>
 if (decide (a0<(l.length:Int))) then ((idx l a0).bind fun a1=>if (a1.aU==at4.aU) then (some (.inr (.inl ()))) else (some (.inl (aJ a0 1)))) else (some (.inr (.inr (()))))
def lC (pieces:(List aU)) (set2:bA) (l:(List aN)) (at4:aN) (r8:aU×Int×ByteArray×ByteArray×Int×Int):Int→Option (Int ⊕ (Unit ⊕ Unit)):=fun a0 =>
 if (decide (a0<(l.length:Int))) then ((idx l a0).bind fun a4=>(idx pieces a4.aU).bind fun a5=>(idx l a0).bind fun a6=>(gU a5 a6).bind fun a2=>((idx l a0).bind fun a7=>if (a7.bI==at4.bI) then ((uS r8.1.aD a2.1.aD set2).bind fun a3=>some (!a3)) else (some false)).bind fun a1=>if a1 then (some (.inr (.inl ()))) else (some (.inl (aJ a0 1)))) else (some (.inr (.inr (()))))
def wZ (sheets:(List bI)) (pieces:(List aU)) (set2:bA) (l:(List aN)) (at4:aN):Option (Int):=
 (if (decide (at4.aU<0)) then (some true) else (if (decide (at4.aU ≥ (pieces.length:Int))) then (some true) else (if (decide (at4.bI<0)) then (some true) else (some (decide (at4.bI ≥ (sheets.length:Int))))))).bind fun j2=>if j2 then (some 1) else ((idx pieces at4.aU).bind fun x7=>(gU x7 at4).bind fun r8=>if (r8.2.1 != 0) then (some 1) else ((aM (lB l at4) 0).bind fun a7=>match a7 with | .inl a8=>some 12 | .inr a9=>(idx sheets at4.bI).bind fun a1=>((iE (aU.mk r8.1.Name r8.1.bD r8.1.cE r8.1.bQ r8.1.aD r8.1.bN r8.1.Forms) a1 at4.tZ).bind fun a5=>if a5 then ((wD r8.1.aD a1 set2).bind fun a6=>some (!a6)) else (some true)).bind fun a4=>if a4 then (some 13) else ((aM (lC pieces set2 l at4 r8) 0).bind fun a0=>match a0 with | .inl a2=>some 7 | .inr a3=>some 0)))
def gS (sheets:(List bI)) (pieces:(List aU)) (set2:bA) (l:(List aN)):Int→Option (Int ⊕ ((Int×Int) ⊕ Unit)):=fun a1 =>
 if (decide (a1<(l.length:Int))) then ((slc l 0 a1).bind fun a2=>(idx l a1).bind fun a3=>(wZ sheets pieces set2 a2 a3).bind fun a0=>if (a0 != 0) then (some (.inr (.inl (a1,a0)))) else (some (.inl (aJ a1 1)))) else (some (.inr (.inr (()))))
def Av (sheets:(List bI)) (pieces:(List aU)) (set2:bA) (l:(List aN)):Option (Int×Int):=
 (mO sheets pieces).bind fun r2=>if (r2 != 0) then (some (0,r2)) else ((dD set2).bind fun r6=>if (!r6) then (some (0,1)) else ((aM (gS sheets pieces set2 l) 0).bind fun a1=>match a1 with | .inl a0=>some (a0.1,a0.2) | .inr a2=>some (0,0)))
theorem Pg {a b:List aF} (ha:a.length≤1000) (hb:b.length≤1000):xP a b=some (a.any fun x=>b.any (oG x)):=by
 have inner:∀ x,aM (tF b x) 0=some (if b.any (oG x) then .inl () else .inr ()):=by
  intro x
  refine dB b (tF b x) (fun k=>(k:Int)) _ _ _ rfl (fun k y hy=>?_) ?_
  ·have hk:=(List.getElem?_eq_some_iff.1 hy).1
   unfold tF
   have h1:decide ((k:Int)<(b.length:Int))=true:=by simp;omega
   simp only [h1,if_true,bE hy,Option.bind_some,Ls]
   rw [aR (a:=(k:Int)) (by omega) (by omega)]
   rfl
  ·simp [tF]
 have key:aM (tG a b) 0=some (if (a.any fun x=>b.any (oG x)) then .inl () else .inr ()):=by
  refine dB a (tG a b) (fun k=>(k:Int)) _ _ _ rfl (fun k x hx=>?_) ?_
  ·have hk:=(List.getElem?_eq_some_iff.1 hx).1
   unfold tG
   have h1:decide ((k:Int)<(a.length:Int))=true:=by simp;omega
   simp only [h1,if_true,bE hx,Option.bind_some,inner]
   rw [aR (a:=(k:Int)) (by omega) (by omega)]
   cases b.any (oG x) <;> rfl
  ·simp [tG]
 unfold xP
 rw [key]
 cases (a.any fun x=>b.any (oG x)) <;> rfl
theorem Xz (sheets:List bI):sJ sheets=fX sheets:=by
 funext s
 unfold sJ fX
 cases idx sheets s with
 | none=>rfl
 | some x =>
   obtain ⟨b,h1,h2⟩:=Re x
   simp only [Option.bind_some,h1,h2]
theorem Xn (pieces:List aU):sK pieces=fY pieces:=by
 funext s
 unfold sK fY
 cases idx pieces s with
 | none=>rfl
 | some x =>
   obtain ⟨b,h1,h2⟩:=Ra x
   simp only [Option.bind_some,h1,h2]
theorem Yk {s:bI} (h:bO s=some 0):s.bG.length≤4∧s.Used.length≤48:=by
 obtain ⟨a,ha,_⟩:=rF s.Name
 obtain ⟨b,hb,_⟩:=rF s.bD
 unfold bO at h
 rw [ha,hb] at h
 cases a with
 | false=>exact absurd (Option.some.inj h) (by decide)
 | true =>
 cases b with
 | false=>exact absurd (Option.some.inj h) (by decide)
 | true =>
 simp only [Option.bind_some,Ep,yG,if_true,Bool.not_true,Bool.false_eq_true,if_false] at h
 generalize decide ((1≤s.cE∧s.cE≤60)∧0≤s.bQ∧s.bQ≤2)=g1 at h
 generalize decide (1≤s.cM∧s.cM≤1048576)=g2 at h
 generalize decide (1≤s.bP∧s.bP≤1048576)=g3 at h
 by_cases h4:(s.bG.length:Int)>4
 ·simp only [h4,decide_true,if_true,Option.bind_some] at h
  cases g1 <;> cases g2 <;> cases g3 <;> exact absurd (Option.some.inj h) (by decide)
 by_cases h5:(s.Used.length:Int)>48
 ·simp only [h4,h5,decide_false,decide_true,if_true,Bool.false_eq_true,if_false,Option.bind_some] at h
  cases g1 <;> cases g2 <;> cases g3 <;> exact absurd (Option.some.inj h) (by decide)
 omega
theorem Kx {α:Type} {l:List α} {k:Nat} (h:k≤l.length):slc l 0 (k:Int)=some (l.take k):=by
 unfold slc;rw [if_pos (by omega)];simp
theorem Mi (sheets:List bI) (pieces:List aU):∃ b,vX sheets pieces=some b∧mO sheets pieces=some b∧(b=0→sheets.length≤4∧pieces.length≤8∧(∀ s ∈ sheets,bO s=some 0)∧∀ x ∈ pieces,bB x=some 0):=by
 unfold vX mO
 rw [Xz,Xn]
 by_cases h1:(sheets.length:Int)>4
 ·exact ⟨4,by simp [h1],by simp [h1],fun h=>absurd h (by decide)⟩
 by_cases h2:(pieces.length:Int)>8
 ·exact ⟨4,by simp [h1,h2],by simp [h1,h2],fun h=>absurd h (by decide)⟩
 simp only [h1,h2,decide_false,Bool.false_eq_true,if_false,Option.bind_some]
 have k1 : (∃ c,aM (fX sheets) 0=some (.inl c)∧c≠0)∨(aM (fX sheets) 0=some (.inr ())∧∀ s ∈ sheets,bO s=some 0):=by
  have key:∀ (m k:Nat),k+m=sheets.length→(∀ s ∈ sheets.take k,bO s=some 0)→(∃ c,aM (fX sheets) (k:Int)=some (.inl c)∧c≠0)∨(aM (fX sheets) (k:Int)=some (.inr ())∧∀ s ∈ sheets,bO s=some 0):=by
   intro m
   induction m with
   | zero =>
     intro k h hb;obtain rfl:k=sheets.length:=by omega
     rw [List.take_length] at hb
     exact .inr ⟨cF (by simp [fX]),hb⟩
   | succ m ih =>
     intro k h hb
     have hx:sheets[k]?=some (sheets[k]'(by omega)):=by simp [show k<sheets.length by omega]
     obtain ⟨b,hv,_⟩:=Re (sheets[k]'(by omega))
     have hd:decide ((k:Int)<(sheets.length:Int))=true:=by simp;omega
     by_cases hb0:b=0
     ·subst hb0
      rw [eI (s':=((k+1:Nat):Int))]
      ·refine ih (k+1) (by omega) fun s hs=>?_
       rw [List.take_add_one,hx] at hs
       rcases List.mem_append.1 hs with hs | hs
       ·exact hb s hs
       ·simp at hs;rw [hs];exact hv
      ·unfold fX
       simp only [hd,if_true,bE hx,Option.bind_some,hv,bne_self_eq_false,Bool.false_eq_true,if_false]
       rw [aR (by omega) (by omega)];rfl
     ·refine .inl ⟨b,cF ?_,hb0⟩
      have hb':(b != 0)=true:=by rw [bne_iff_ne];exact hb0
      unfold fX
      simp only [hd,if_true,bE hx,Option.bind_some,hv,hb']
  exact key sheets.length 0 (by omega) (by simp)
 have k2 : (∃ c,aM (fY pieces) 0=some (.inl c)∧c≠0)∨(aM (fY pieces) 0=some (.inr ())∧∀ s ∈ pieces,bB s=some 0):=by
  have key:∀ (m k:Nat),k+m=pieces.length→(∀ s ∈ pieces.take k,bB s=some 0)→(∃ c,aM (fY pieces) (k:Int)=some (.inl c)∧c≠0)∨(aM (fY pieces) (k:Int)=some (.inr ())∧∀ s ∈ pieces,bB s=some 0):=by
   intro m
   induction m with
   | zero =>
     intro k h hb;obtain rfl:k=pieces.length:=by omega
     rw [List.take_length] at hb
     exact .inr ⟨cF (by simp [fY]),hb⟩
   | succ m ih =>
     intro k h hb
     have hx:pieces[k]?=some (pieces[k]'(by omega)):=by simp [show k<pieces.length by omega]
     obtain ⟨b,hv,_⟩:=Ra (pieces[k]'(by omega))
     have hd:decide ((k:Int)<(pieces.length:Int))=true:=by simp;omega
     by_cases hb0:b=0
     ·subst hb0
      rw [eI (s':=((k+1:Nat):Int))]
      ·refine ih (k+1) (by omega) fun s hs=>?_
       rw [List.take_add_one,hx] at hs
       rcases List.mem_append.1 hs with hs | hs
       ·exact hb s hs
       ·simp at hs;rw [hs];exact hv
      ·unfold fY
       simp only [hd,if_true,bE hx,Option.bind_some,hv,bne_self_eq_false,Bool.false_eq_true,if_false]
       rw [aR (by omega) (by omega)];rfl
     ·refine .inl ⟨b,cF ?_,hb0⟩
      have hb':(b != 0)=true:=by rw [bne_iff_ne];exact hb0
      unfold fY
      simp only [hd,if_true,bE hx,Option.bind_some,hv,hb']
  exact key pieces.length 0 (by omega) (by simp)
 rcases k1 with ⟨c,e1,hc⟩ | ⟨e1,g1⟩
 ·rw [e1];exact ⟨c,rfl,rfl,fun h=>absurd h hc⟩
 ·rw [e1]
  rcases k2 with ⟨c,e2,hc⟩ | ⟨e2,g2⟩
  ·simp only [Option.bind_some,e2];exact ⟨c,rfl,rfl,fun h=>absurd h hc⟩
  ·simp only [Option.bind_some,e2];exact ⟨0,rfl,rfl,fun _=>⟨by omega,by omega,g1,g2⟩⟩
def lies (l:List aF) (s:bI) (r:aF):Bool:=!(l.any fun x=>!(decide (tW x r)) || (s.bG.any (oG x) || s.Used.any (oG x)))
def Bd (s:bI) (m:Int):aF:=⟨m,m,aI s.cM (eS 2 m),aI s.bP (eS 2 m)⟩
theorem LR {l:List aF} {s:bI} (t:bA) (hl:l.length≤1000) (h1:s.bG.length≤1000) (h2:s.Used.length≤1000):wD l s t=some (lies l s (Bd s t.aS)):=by
 have key:aM (kI l s t) 0=some (if (l.any fun x=>!(decide (tW x (Bd s t.aS))) || (s.bG.any (oG x) || s.Used.any (oG x))) then .inl () else .inr ()):=by
  refine dB l (kI l s t) (fun k=>(k:Int)) _ _ _ rfl (fun k x hx=>?_) ?_
  ·have hk:=(List.getElem?_eq_some_iff.1 hx).1
   unfold kI
   have hd:decide ((k:Int)<(l.length:Int))=true:=by simp;omega
   have e:iT x ⟨t.aS,t.aS,aI s.cM (eS 2 t.aS),aI s.bP (eS 2 t.aS)⟩=some (decide (tW x (Bd s t.aS))):=Tv _ _
   simp only [hd,if_true,bE hx,Option.bind_some,e,Qz x _ h1,Qz x _ h2]
   rw [aR (a:=(k:Int)) (by omega) (by omega)]
   cases decide (tW x (Bd s t.aS)) <;> cases s.bG.any (oG x) <;> cases s.Used.any (oG x) <;> rfl
  ·simp [kI]
 unfold wD
 rw [key]
 unfold lies
 cases (l.any fun x=>!(decide (tW x (Bd s t.aS))) || (s.bG.any (oG x) || s.Used.any (oG x))) <;> rfl
theorem Pd {x:aU} {s:bI} (t:bA) (turn:Int) {al:Bool} (hal:eJ x s turn=some al) (hl:x.aD.length≤1000) (h0:0<x.aD.length) (h1:s.bG.length≤1000) (h2:s.Used.length≤1000):uM x s t turn=some (al&&lies x.aD s (Bd s t.aS)):=by
 have hi:oL s t.aS=some (Bd s t.aS,decide (vR (Bd s t.aS))):=by
  unfold oL Bd
  rw [nB];rfl
 have key:aM (tE x (Bd s t.aS,decide (vR (Bd s t.aS)))) 0=some (if (x.aD.any fun y=>!(decide (tW y (Bd s t.aS)))) then .inl () else .inr ()):=by
  refine dB x.aD (tE x (Bd s t.aS,decide (vR (Bd s t.aS)))) (fun k=>(k:Int)) _ _ _ rfl (fun k y hx=>?_) ?_
  ·have hk:=(List.getElem?_eq_some_iff.1 hx).1
   unfold tE
   have hd:decide ((k:Int)<(x.aD.length:Int))=true:=by simp;omega
   simp only [hd,if_true,bE hx,Option.bind_some,Tt]
   rw [aR (a:=(k:Int)) (by omega) (by omega)]
   rfl
  ·simp [tE]
 unfold uM
 simp only [hi,Option.bind_some,hal,key,Pg hl h1,Pg hl h2]
 have hz:lies x.aD s (Bd s t.aS)=(!(x.aD.any fun y=>!(decide (tW y (Bd s t.aS))))&&(!(x.aD.any fun y=>s.bG.any (oG y))&&!(x.aD.any fun y=>s.Used.any (oG y)))):=by
  unfold lies
  rw [Bool.eq_iff_iff]
  simp only [Bool.not_eq_true',Bool.and_eq_true,List.any_eq_false,Bool.or_eq_true,not_or]
  constructor
  ·intro h;exact ⟨fun y hy=>(h y hy).1,fun y hy=>(h y hy).2.1,fun y hy=>(h y hy).2.2⟩
  ·rintro ⟨a,b,c⟩ y hy;exact ⟨a y hy,b y hy,c y hy⟩
 by_cases hv:vR (Bd s t.aS)
 ·simp only [hv,decide_true,if_true,Option.bind_some,hz]
  cases al
  ·rfl
  ·cases (x.aD.any fun y=>!(decide (tW y (Bd s t.aS)))) <;> cases (x.aD.any fun y=>s.bG.any (oG y)) <;> cases (x.aD.any fun y=>s.Used.any (oG y)) <;> rfl
 ·have:(x.aD.any fun y=>!(decide (tW y (Bd s t.aS))))=true:=by
   rw [List.any_eq_true]
   refine ⟨x.aD[0],List.getElem_mem h0, ?_⟩
   have:¬ tW x.aD[0] (Bd s t.aS):=fun q=>hv q.2.1
   simp [this]
  rw [hz,this]
  simp only [hv,decide_false,Bool.false_eq_true,if_false,Option.bind_some,if_true,Bool.not_true,Bool.false_and,Bool.and_false]
def Oe (pieces:List aU) (p:aN) (q:aU):Prop:=∃ x c n m g h,idx pieces p.aU=some x∧tD x p=some (q,c,n,m,g,h)∧gU x p=some (q,c,n,m,g,h)∧q.aD.length≤12
def dup (l:List aN) (p:aN):Bool:=l.any fun q=>q.aU==p.aU
theorem Wr (l:List aN) (p:aN) (hl:l.length≤1000):aM (xK p l) 0=some (if dup l p then .inl () else .inr ()):=by
 refine dB l (xK p l) (fun k=>(k:Int)) _ _ _ rfl (fun k x hx=>?_) ?_
 ·have hk:=(List.getElem?_eq_some_iff.1 hx).1
  unfold xK
  have h1:decide ((k:Int)<(l.length:Int))=true:=by simp;omega
  simp only [h1,if_true,bE hx,Option.bind_some]
  rw [aR (a:=(k:Int)) (by omega) (by omega)]
  rfl
 ·simp [xK]
theorem DR (l:List aN) (p:aN) (hl:l.length≤1000):aM (lB l p) 0=some (if dup l p then .inl () else .inr ()):=by
 refine dB l (lB l p) (fun k=>(k:Int)) _ _ _ rfl (fun k x hx=>?_) ?_
 ·have hk:=(List.getElem?_eq_some_iff.1 hx).1
  unfold lB
  have h1:decide ((k:Int)<(l.length:Int))=true:=by simp;omega
  simp only [h1,if_true,bE hx,Option.bind_some]
  rw [aR (a:=(k:Int)) (by omega) (by omega)]
  rfl
 ·simp [lB]
def Pe (t:bA) (l:List aN) (placed:List aU) (p:aN) (q:aU) (k:Nat):Bool:=match l[k]?,placed[k]? with
 | some a,some b=>(a.bI==p.bI)&&!(clr t q.aD b.aD)
 | _,_=>false
theorem Up {pieces:List aU} (t:bA) {l:List aN} {placed:List aU} (p:aN) (q:aU×Int×ByteArray×ByteArray×Int×Int) (i:Int) (hl:l.length≤1000) (hp:placed.length=l.length) (hq:q.1.aD.length≤12) (inv:∀ (j:Nat) a b,l[j]?=some a→placed[j]?=some b→Oe pieces a b) :
  aM (xL t (i,placed) p q l) 0=some (if (List.range l.length).any (Pe t l placed p q.1) then .inl () else .inr ()):=by
 refine uD l.length (xL t (i,placed) p q l) (fun k=>(k:Int)) _ _ _ rfl (fun k hk=>?_) ?_
 ·have hx:l[k]?=some l[k]:=by simp
  have hy:placed[k]?=some (placed[k]'(by omega)):=by simp [hp,hk]
  obtain ⟨x,c,n,m,g,h,e1,e2,e3,e4⟩:=inv k _ _ hx hy
  unfold xL Pe
  have h1:decide ((k:Int)<(l.length:Int))=true:=by simp;omega
  simp only [h1,if_true,bE hx,bE hy,hx,hy,Option.bind_some,ER _ _ t (show q.1.aD.length≤_ by omega) (show (placed[k]'(by omega)).aD.length≤_ by omega)]
  rw [aR (a:=(k:Int)) (by omega) (by omega)]
  cases (l[k].bI==p.bI) <;> simp
 ·simp [xL]
theorem Zu {pieces:List aU} (t:bA) {l:List aN} {placed:List aU} (p:aN) (q:aU×Int×ByteArray×ByteArray×Int×Int) (hl:l.length≤1000) (hp:placed.length=l.length) (hq:q.1.aD.length≤12) (inv:∀ (j:Nat) a b,l[j]?=some a→placed[j]?=some b→Oe pieces a b) :
  aM (lC pieces t l p q) 0=some (if (List.range l.length).any (Pe t l placed p q.1) then .inl () else .inr ()):=by
 refine uD l.length (lC pieces t l p q) (fun k=>(k:Int)) _ _ _ rfl (fun k hk=>?_) ?_
 ·have hx:l[k]?=some l[k]:=by simp
  have hy:placed[k]?=some (placed[k]'(by omega)):=by simp [hp,hk]
  obtain ⟨x,c,n,m,g,h,e1,e2,e3,e4⟩:=inv k _ _ hx hy
  unfold lC Pe
  have h1:decide ((k:Int)<(l.length:Int))=true:=by simp;omega
  simp only [h1,if_true,bE hx,hx,hy,Option.bind_some,e1,e3,DQ _ _ t (show q.1.aD.length≤_ by omega) (show (placed[k]'(by omega)).aD.length≤_ by omega)]
  rw [aR (a:=(k:Int)) (by omega) (by omega)]
  cases (l[k].bI==p.bI) <;> simp
 ·simp [lC]
def OKp (sheets:List bI) (pieces:List aU) (t:bA) (l:List aN) (k:Nat) (placed:List aU) (p:aN) (q:aU):Prop:=∃ x n m g h s,idx pieces p.aU=some x∧tD x p=some (q,0,n,m,g,h)∧gU x p=some (q,0,n,m,g,h)∧idx sheets p.bI=some s∧dup (l.take k) p=false∧lies q.aD s (Bd s t.aS)=true∧(List.range (l.take k).length).any (Pe t (l.take k) placed p q)=false
theorem HC {sheets:List bI} {pieces:List aU} (t:bA) {l:List aN} (hl:l.length≤40) (hs:sheets.length≤4) (hp:pieces.length≤8) (gs:∀ s ∈ sheets,bO s=some 0) {k:Nat} {p:aN} (hk:l[k]?=some p) {placed:List aU} (hpl:placed.length=k) (inv:∀ (j:Nat) a b,(l.take k)[j]?=some a→placed[j]?=some b→Oe pieces a b) :
  ∃ e:Int,wZ sheets pieces t (l.take k) p=some e∧((e≠0∧jP sheets pieces t l ((k:Int),placed)=some (.inr (.inl ((k:Int),e))))∨(e=0∧∃ q,Oe pieces p q∧OKp sheets pieces t l k placed p q∧jP sheets pieces t l ((k:Int),placed)=some (.inl (((k+1:Nat):Int),placed++[q])))):=by
 have hkl:=(List.getElem?_eq_some_iff.1 hk).1
 have hd:decide ((k:Int)<(l.length:Int))=true:=by simp;omega
 have e0:aI (pieces.length:Int) 1=(pieces.length:Int)-1:=bF (by omega) (by omega)
 have e1:aI (sheets.length:Int) 1=(sheets.length:Int)-1:=bF (by omega) (by omega)
 unfold wZ jP
 simp only [hd,if_true,bE hk,Option.bind_some,yG,e0,e1]
 by_cases a1:p.aU<0
 ·exact ⟨1,by simp [a1],.inl ⟨by decide,by simp [show ¬ (0≤p.aU∧p.aU≤(pieces.length:Int)-1) by omega]⟩⟩
 by_cases a2:p.aU ≥ (pieces.length:Int)
 ·exact ⟨1,by simp [a1,a2],.inl ⟨by decide,by simp [show ¬ (0≤p.aU∧p.aU≤(pieces.length:Int)-1) by omega]⟩⟩
 by_cases a3:p.bI<0
 ·exact ⟨1,by simp [a1,a2,a3],.inl ⟨by decide,by simp [show (0≤p.aU∧p.aU≤(pieces.length:Int)-1) by omega,show ¬ (0≤p.bI∧p.bI≤(sheets.length:Int)-1) by omega]⟩⟩
 by_cases a4:p.bI ≥ (sheets.length:Int)
 ·exact ⟨1,by simp [a1,a2,a3,a4],.inl ⟨by decide,by simp [show (0≤p.aU∧p.aU≤(pieces.length:Int)-1) by omega,show ¬ (0≤p.bI∧p.bI≤(sheets.length:Int)-1) by omega]⟩⟩
 have b1:(0≤p.aU∧p.aU≤(pieces.length:Int)-1):=by omega
 have b2:(0≤p.bI∧p.bI≤(sheets.length:Int)-1):=by omega
 have hx:idx pieces p.aU=some (pieces[p.aU.toNat]'(by omega)):=by
  unfold idx;rw [if_pos b1.1];simp [show p.aU.toNat<pieces.length by omega]
 have hy:idx sheets p.bI=some (sheets[p.bI.toNat]'(by omega)):=by
  unfold idx;rw [if_pos b2.1];simp [show p.bI.toNat<sheets.length by omega]
 have gy:=Yk (gs _ (List.getElem_mem (show p.bI.toNat<sheets.length by omega)))
 generalize pieces[p.aU.toNat]'(by omega)=x at hx
 generalize sheets[p.bI.toNat]'(by omega)=s at hy gy
 obtain ⟨q,c,n,m,g,h,p1,p2,q1,q2,q3,q4⟩:=Rb x p
 have hlaid:Oe pieces p q:=⟨x,c,n,m,g,h,hx,p1,p2,q1⟩
 simp only [a1,a2,a3,a4,b1,b2,and_self,decide_true,decide_false,if_true,Bool.false_eq_true,if_false,Bool.not_true,Option.bind_some,hx,p1,p2]
 by_cases hc:c=0
 ·subst hc
  have q5:=q4 rfl
  have hlt:(l.take k).length=k:=by rw [List.length_take];omega
  obtain ⟨al,al1,al2⟩:=wJ q s p.tZ
  have hw:=LR (l:=q.aD) (s:=s) t (by omega) (by omega) (by omega)
  have hlw:=Pd (x:=q) (s:=s) t p.tZ al1 (by omega) q5 (by omega) (by omega)
  have al2':iE (aU.mk q.Name q.bD q.cE q.bQ q.aD q.bN q.Forms) s p.tZ=some al:=al2
  have hlw':uM (aU.mk q.Name q.bD q.cE q.bQ q.aD q.bN q.Forms) s t p.tZ=some (al&&lies q.aD s (Bd s t.aS)):=hlw
  have n1:=Up (pieces:=pieces) t (l:=l.take k) (placed:=placed) p (q,0,n,m,g,h) (k:Int) (by omega) (by omega) q1 inv
  have n2:=Zu (pieces:=pieces) t (l:=l.take k) (placed:=placed) p (q,0,n,m,g,h) (by omega) (by omega) q1 inv
  simp only [bne_self_eq_false,Bool.false_eq_true,if_false,Wr (l.take k) p (by omega),DR (l.take k) p (by omega),Kx (Nat.le_of_lt hkl),Option.bind_some]
  cases hdup:dup (l.take k) p with
  | true=>exact ⟨12,rfl,.inl ⟨by decide,rfl⟩⟩
  | false =>
  simp only [Bool.false_eq_true,if_false,hy,Option.bind_some,al2',hlw',hw]
  cases al with
  | false=>exact ⟨13,rfl,.inl ⟨by decide,rfl⟩⟩
  | true =>
  simp only [if_true,Option.bind_some,Bool.true_and]
  cases hlies:lies q.aD s (Bd s t.aS) with
  | false=>exact ⟨13,rfl,.inl ⟨by decide,rfl⟩⟩
  | true =>
  simp only [Bool.not_true,Bool.false_eq_true,if_false,n1,n2,Option.bind_some]
  cases hnear:(List.range (l.take k).length).any (Pe t (l.take k) placed p (q,(0:Int),n,m,g,h).1) with
  | true=>exact ⟨7,rfl,.inl ⟨by decide,rfl⟩⟩
  | false =>
    refine ⟨0,rfl,.inr ⟨rfl,q,hlaid,⟨x,n,m,g,h,s,hx,p1,p2,hy,hdup,hlies,hnear⟩, ?_⟩⟩
    simp only [Bool.false_eq_true,if_false]
    rw [jZ (by unfold LIM;simp;omega),aR (by omega) (by omega)]
    rfl
 ·have hc':(c != 0)=true:=by rw [bne_iff_ne];exact hc
  exact ⟨1,by simp [hc'],.inl ⟨by decide,by simp [hc']⟩⟩
theorem Yo {sheets:List bI} {pieces:List aU} (t:bA) {l:List aN} (hl:l.length≤40) (hs:sheets.length≤4) (hp:pieces.length≤8) (gs:∀ s ∈ sheets,bO s=some 0) :
  ∃ r,aM (jP sheets pieces t l) (0,[])=some r∧aM (gS sheets pieces t l) 0=some r∧(∀ j,r=.inl j→j.2≠0)∧(r=.inr ()→∃ placed:List aU,placed.length=l.length∧∀ (j:Nat) a b,l[j]?=some a→placed[j]?=some b→OKp sheets pieces t l j (placed.take j) a b):=by
 have key:∀ (m k:Nat) (placed:List aU),k+m=l.length→placed.length=k→(∀ (j:Nat) a b,(l.take k)[j]?=some a→placed[j]?=some b→Oe pieces a b)→(∀ (j:Nat) a b,(l.take k)[j]?=some a→placed[j]?=some b→OKp sheets pieces t l j (placed.take j) a b) →
   ∃ r,aM (jP sheets pieces t l) ((k:Int),placed)=some r∧aM (gS sheets pieces t l) (k:Int)=some r∧(∀ j,r=.inl j→j.2≠0)∧(r=.inr ()→∃ placed:List aU,placed.length=l.length∧∀ (j:Nat) a b,l[j]?=some a→placed[j]?=some b→OKp sheets pieces t l j (placed.take j) a b):=by
  intro m
  induction m with
  | zero =>
    intro k placed h hpl inv inv2
    obtain rfl:k=l.length:=by omega
    rw [List.take_length] at inv2
    exact ⟨.inr (),cF (by simp [jP]),cF (by simp [gS]),fun j hj=>(by cases hj),fun _=>⟨placed,hpl,inv2⟩⟩
  | succ m ih =>
    intro k placed h hpl inv inv2
    have hk:l[k]?=some (l[k]'(by omega)):=by simp [show k<l.length by omega]
    have hd:decide ((k:Int)<(l.length:Int))=true:=by simp;omega
    obtain ⟨e,h1,h2⟩:=HC t hl hs hp gs hk hpl inv
    rcases h2 with ⟨he,h2⟩ | ⟨he,q,hq,hok,h2⟩
    ·refine ⟨.inl ((k:Int),e),cF h2,cF ?_,fun j hj=>(by injection hj with hj;rw [← hj];exact he),fun hj=>(by cases hj)⟩
     have he':(e != 0)=true:=by rw [bne_iff_ne];exact he
     unfold gS
     simp only [hd,if_true,Kx (show k≤l.length by omega),bE hk,Option.bind_some,h1,he']
    ·subst he
     have hlt:(l.take k).length=k:=by rw [List.length_take];omega
     obtain ⟨r,r1,r2,r3⟩:=ih (k+1) (placed++[q]) (by omega) (by simp;omega) (fun j a b ha hb=>by
      rw [List.take_add_one,hk] at ha
      have hlt:(l.take k).length=k:=by rw [List.length_take];omega
      by_cases hj:j<k
      ·rw [List.getElem?_append_left (by omega)] at ha hb
       exact inv j a b ha hb
      ·rw [List.getElem?_append_right (by omega)] at ha hb
       rw [hlt] at ha;rw [hpl] at hb
       by_cases hj0:j-k=0
       ·rw [hj0] at ha hb
        simp at ha hb
        rw [← ha,← hb];exact hq
       ·have:1≤j-k:=by omega
        rw [List.getElem?_eq_none (by simp;omega)] at hb
        cases hb) (fun j a b ha hb=>by
      rw [List.take_add_one,hk] at ha
      by_cases hj:j<k
      ·rw [List.getElem?_append_left (by omega)] at ha hb
       rw [List.take_append_of_le_length (by omega)]
       exact inv2 j a b ha hb
      ·rw [List.getElem?_append_right (by omega)] at ha hb
       rw [hlt] at ha;rw [hpl] at hb
       by_cases hj0:j-k=0
       ·obtain rfl:j=k:=by omega
        rw [hj0] at ha hb
        simp at ha hb
        rw [← ha,← hb,List.take_append_of_le_length (by omega),List.take_of_length_le (by omega)];exact hok
       ·have:1≤j-k:=by omega
        rw [List.getElem?_eq_none (by simp;omega)] at hb
        cases hb)
     refine ⟨r,by rw [eI h2];exact r1, ?_,r3⟩
     rw [eI (s':=((k+1:Nat):Int))]
     ·exact r2
     ·unfold gS
      simp only [hd,if_true,Kx (show k≤l.length by omega),bE hk,Option.bind_some,h1,bne_self_eq_false,Bool.false_eq_true,if_false]
      rw [aR (by omega) (by omega)];rfl
 exact key l.length 0 [] (by omega) rfl (fun j a b _ hb=>by simp at hb) (fun j a b _ hb=>by simp at hb)
theorem Yf (sheets:List bI) (pieces:List aU) (t:bA) (l:List aN) (hl:l.length≤40):∃ r,Bf sheets pieces t l=some r∧Av sheets pieces t l=some r∧(r.2=0→sheets.length≤4∧pieces.length≤8∧(∀ s ∈ sheets,bO s=some 0)∧(∀ x ∈ pieces,bB x=some 0)∧cX t=some true∧∃ placed:List aU,placed.length=l.length∧∀ (j:Nat) a b,l[j]?=some a→placed[j]?=some b→OKp sheets pieces t l j (placed.take j) a b):=by
 obtain ⟨b,b1,b2,b3⟩:=Mi sheets pieces
 obtain ⟨c,c1,c2⟩:=Gh t
 unfold Bf Av
 rw [b1,b2,c1,c2]
 simp only [Option.bind_some]
 by_cases hb:b=0
 ·obtain ⟨g1,g2,g3,g4⟩:=b3 hb
  subst hb
  simp only [bne_self_eq_false,Bool.false_eq_true,if_false]
  cases c with
  | false=>exact ⟨_,rfl,rfl,fun h=>absurd h (by decide)⟩
  | true =>
    obtain ⟨r,r1,r2,r3,r4⟩:=Yo t hl g1 g2 g3
    simp only [Bool.not_true,Bool.false_eq_true,if_false,r1,r2,Option.bind_some]
    cases r with
    | inl j=>exact ⟨_,rfl,rfl,fun h=>absurd h (r3 j rfl)⟩
    | inr j=>exact ⟨_,rfl,rfl,fun _=>⟨g1,g2,g3,g4,trivial,r4 rfl⟩⟩
 ·have hb':(b != 0)=true:=by rw [bne_iff_ne];exact hb
  simp only [hb',if_true]
  exact ⟨_,rfl,rfl,fun h=>absurd h hb⟩
end Go.SM
namespace Go.SM
open Go Go.VI Go.Cells
def lay (base:Nat→List aF) (items:List (Nat×List aF)) (k:Nat):List aF:=items.flatMap (fun it=>if it.1=k then it.2 else [])++base k
structure VS (s:bI):Prop where
 w:1≤s.cM∧s.cM≤1048576
 h:1≤s.bP∧s.bP≤1048576
 v:MK (s.bG++s.Used)
 i:∀ r ∈ s.bG++s.Used,0≤r.X∧r.X+r.W≤s.cM∧0≤r.Y∧r.Y+r.H≤s.bP
 n1:s.bG.length≤4
 n2:s.Used.length≤48
end Go.SM
namespace Go.SM
open Go Go.VI
end Go.SM
namespace Go.SM
open Go Go.VI Go.Cells
theorem PM {s:bI} (h2:1≤s.cM∧s.cM≤1048576) (h3:1≤s.bP∧s.bP≤1048576) (n1:s.bG.length≤4) (n2:s.Used.length≤48) (v1:(s.bG.any fun x=>!decide (vR x))=false) (v2:(s.Used.any fun x=>!decide (vR x))=false) (o1:outs ⟨0,0,s.cM,s.bP⟩ s.bG=false) (o2:outs ⟨0,0,s.cM,s.bP⟩ s.Used=false):VS s:=by
 have hv:∀ {l:List aF},(l.any fun x=>!decide (vR x))=false→MK l:=fun {l} h r hr=>by
  have:=List.any_eq_false.1 h r hr
  simpa using this
 have hi:∀ {l:List aF},outs ⟨0,0,s.cM,s.bP⟩ l=false→∀ r ∈ l,0≤r.X∧r.X+r.W≤s.cM∧0≤r.Y∧r.Y+r.H≤s.bP:=fun {l} h r hr=>by
  have:=List.any_eq_false.1 h r hr
  have h2:tW r ⟨0,0,s.cM,s.bP⟩:=by simpa using this
  obtain ⟨_,_,a,b,c,d⟩:=h2
  simp only at a b c d
  omega
 refine ⟨h2,h3,fun r hr=>?_,fun r hr=>?_,n1,n2⟩
 ·rcases List.mem_append.1 hr with h | h
  ·exact hv v1 r h
  ·exact hv v2 r h
 ·rcases List.mem_append.1 hr with h | h
  ·exact hi o1 r h
  ·exact hi o2 r h
theorem Jk (s:bI):∃ b,bO s=some b∧dF s=some b∧(b=0→VS s):=by
 obtain ⟨a,ha,ha'⟩:=rF s.Name
 obtain ⟨b,hb,hb'⟩:=rF s.bD
 unfold bO dF
 rw [ha,hb,Nz ha' hb']
 cases a with
 | false=>exact ⟨2,rfl,rfl,fun h=>absurd h (by decide)⟩
 | true =>
 cases b with
 | false=>exact ⟨2,rfl,rfl,fun h=>absurd h (by decide)⟩
 | true =>
 simp only [Option.bind_some,Ep,yG,Bool.and_self,if_true,Bool.not_true,Bool.false_eq_true,if_false]
 by_cases h1:(1≤s.cE∧s.cE≤60)∧0≤s.bQ∧s.bQ≤2
 ·simp only [h1,and_self,decide_true,if_true,Option.bind_some]
  by_cases h2:1≤s.cM∧s.cM≤1048576
  ·by_cases h3:1≤s.bP∧s.bP≤1048576
   ·have q1:¬ s.cM<1:=by omega
    have q2:¬ s.cM>1048576:=by omega
    have q3:¬ s.bP<1:=by omega
    have q4:¬ s.bP>1048576:=by omega
    simp only [h2,h3,q1,q2,q3,q4,and_self,decide_true,decide_false,if_true,Option.bind_some,Bool.not_true,Bool.false_eq_true,if_false,bne_self_eq_false]
    by_cases h4:(s.bG.length:Int)>4
    ·exact ⟨4,by simp [h4],by simp [h4],fun h=>absurd h (by decide)⟩
    by_cases h5:(s.Used.length:Int)>48
    ·exact ⟨4,by simp [h5],by simp [h5],fun h=>absurd h (by decide)⟩
    simp only [h4,h5,decide_false,Bool.false_eq_true,if_false,Option.bind_some,gE s.bG (by omega),gE s.Used (by omega),mQ s.bG (by omega),mQ s.Used (by omega),Kq s s.bG (by omega),Kq s s.Used (by omega)]
    cases v1:(s.bG.any fun x=>!decide (vR x)) with
    | true=>exact ⟨1,rfl,rfl,fun h=>absurd h (by decide)⟩
    | false =>
    cases v2:(s.Used.any fun x=>!decide (vR x)) with
    | true=>exact ⟨1,rfl,rfl,fun h=>absurd h (by decide)⟩
    | false =>
    have hi:oL s 0=some (⟨0,0,s.cM,s.bP⟩,decide (vR ⟨0,0,s.cM,s.bP⟩)):=by
     unfold oL
     rw [nB]
     have e0:eS 2 0=0:=by rw [De (by omega) (by omega)];rfl
     rw [e0,bF (by omega) (by omega),bF (by omega) (by omega),Int.sub_zero,Int.sub_zero]
     rfl
    simp only [hi,Option.bind_some,Xd s _ (show s.bG.length≤_ by omega) (show s.Used.length≤_ by omega),Bool.not_false,if_true,Bool.not_true,Bool.false_eq_true,if_false]
    cases o1:outs ⟨0,0,s.cM,s.bP⟩ s.bG with
    | true=>exact ⟨13,rfl,rfl,fun h=>absurd h (by decide)⟩
    | false =>
    cases o2:outs ⟨0,0,s.cM,s.bP⟩ s.Used with
    | true=>exact ⟨13,rfl,rfl,fun h=>absurd h (by decide)⟩
    | false=>exact ⟨0,rfl,rfl,fun _=>PM h2 h3 (by omega) (by omega) v1 v2 o1 o2⟩
   ·refine ⟨1,by simp [h2,h3], ?_,fun h=>absurd h (by decide)⟩
    by_cases q3:s.bP<1
    ·simp [q3]
    ·have q4:s.bP>1048576:=by omega
     simp [q3,q4]
  ·refine ⟨1,by simp [h2], ?_,fun h=>absurd h (by decide)⟩
   by_cases q3:s.cM<1
   ·simp [q3]
   ·have q4:s.cM>1048576:=by omega
    simp [q3,q4]
 ·exact ⟨1,by simp only [h1,decide_false];rfl,by simp only [h1,if_false];rfl,fun h=>absurd h (by decide)⟩
end Go.SM
namespace Go.SM
open Go Go.VI
set_option maxRecDepth 10000
theorem Tf (h:List Int):tL h=Mf (fun x y=>x==y) 0 h:=by kernel_rfl
def ltI (x y:Int):Bool:=decide (x<y)
theorem MJ:Ob ltI where
 asymm x y h:=by unfold ltI at *;simp at *;omega
 neg x y z h:=by unfold ltI at *;simp at *;omega
theorem PR (x y:Int):uA x y=some (if x<y then -1 else if y<x then 1 else 0):=by
 unfold uA sD
 have e:∀ z:Int,(z != z)=false:=fun z=>by simp
 simp only [e,Option.bind_some,Bool.false_eq_true,if_false]
 by_cases h1:x<y
 ·simp [h1]
 ·by_cases h2:x>y
  ·have:y<x:=h2
   simp [h1,h2,this]
  ·have:¬ y<x:=h2
   simp [h1,h2,this]
end Go.SM
end
