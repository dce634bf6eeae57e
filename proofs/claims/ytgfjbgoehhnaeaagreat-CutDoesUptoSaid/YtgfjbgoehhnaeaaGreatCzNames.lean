/- Names: both say the same of each. -/
import Derived.Test.YtgfjbgoehhnaeaaGreatCzClear
import Derived.Test.YtgfjbgoehhnaeaaGreatCzMV
import Derived.Lib.IndexMore
set_option linter.unusedVariables false
set_option linter.unusedSimpArgs false
set_option linter.unusedSectionVars false
namespace Go.SM
open Go Go.VI
theorem VB {s sub:List UInt8} {i:Nat} (hne:sub≠[]) (h:Go.Lib.occAt s sub i=true):i+sub.length≤s.length:=by
  rcases Go.Lib.occAt_room h with h' | h'
  · omega
  · exact absurd h' hne
theorem Zl {s sub:List UInt8} (hne:sub≠[]):Go.Lib.contains s sub=(List.range (s.length+1-sub.length)).any (Go.Lib.occAt s sub):=by
  unfold Go.Lib.contains
  rcases Go.Lib.index_spec s sub with ⟨h1,h2⟩ | ⟨i,h1,h2,h3,h4⟩
  · rw [h1]
    have:(List.range (s.length+1-sub.length)).any (Go.Lib.occAt s sub)=false:=by
      rw [List.any_eq_false];intro j hj
      rw [h2 j (by have:=List.mem_range.1 hj;omega)];simp
    rw [this];rfl
  · rw [h1]
    have:(List.range (s.length+1-sub.length)).any (Go.Lib.occAt s sub)=true:=List.any_eq_true.2 ⟨i,List.mem_range.2 (by have:=VB hne h3;omega),h3⟩
    rw [this];simp
theorem Yv {a b:ByteArray} (h:a.size+b.size≤9223372036854775807):Ye a b=some (a++b):=by unfold Ye;rw [if_pos h]
theorem QD (T s1:ByteArray) (hT:T.size<4294967281) (hs:s1.size≤8):oK T s1=some (Go.Lib.contains T.data.toList ((ByteArray.mk #[32]++s1)++ByteArray.mk #[32]).data.toList):=by
  have hsz:((ByteArray.mk #[32]++s1)++ByteArray.mk #[32]).size=s1.size+2:=by
    rw [ByteArray.size_append,ByteArray.size_append];show 1+s1.size+1=_;omega
  have hsub:s1.size+2=((ByteArray.mk #[32]++s1)++ByteArray.mk #[32]).data.toList.length:=by rw [← hsz];rfl
  have hne:((ByteArray.mk #[32]++s1)++ByteArray.mk #[32]).data.toList≠[]:=by
    intro h;rw [h] at hsub;simp at hsub
  have e1:Ye (ByteArray.mk #[32]) s1=some (ByteArray.mk #[32]++s1):=Yv (by show 1+s1.size≤_;omega)
  have e2:Ye (ByteArray.mk #[32]++s1) (ByteArray.mk #[32])=some ((ByteArray.mk #[32]++s1)++ByteArray.mk #[32]):=Yv (by rw [ByteArray.size_append];show 1+s1.size+1≤_;omega)
  generalize (ByteArray.mk #[32]++s1)++ByteArray.mk #[32]=W at hsz hsub hne e2 ⊢
  rw [Zl hne]
  have hTl:T.data.toList.length=T.size:=rfl
  have key:aM (iU T s1) 0=some (if (List.range (T.data.toList.length+1-W.data.toList.length)).any (Go.Lib.occAt T.data.toList W.data.toList) then .inl () else .inr ()):=by
    refine kD _ (iU T s1) (fun k=>(k:Int)) _ _ _ rfl (fun k hk=>?_) ?_
    · unfold iU
      rw [hTl,← hsub] at hk
      rw [aS (a:=(k:Int)) (by omega) (by omega),aS (b:=2) (by omega) (by omega)]
      have h1:decide ((k:Int)+(s1.size:Int)+2≤(T.size:Int))=true:=by simp;omega
      simp only [h1,if_true]
      have e3:WM T k ((k:Int)+(s1.size:Int)+2)=some (T.extract k (k+W.size)):=by
        unfold WM
        rw [if_pos (by omega)]
        have:((k:Int)+(s1.size:Int)+2).toNat=k+W.size:=by omega
        rw [this];simp
      rw [e3]
      simp only [Option.bind_some,e1,e2]
      rw [Go.Lib.occ_of_piece T W k (by omega),aS (a:=(k:Int)) (by omega) (by omega)]
      cases (T.extract k (k+W.size)).toList==W.toList <;> simp
    · unfold iU
      rw [hTl,← hsub]
      rw [aS (b:=(s1.size:Int)) (by omega) (by omega),aS (b:=2) (by omega) (by omega)]
      have h1:decide (((T.size+1-(s1.size+2):Nat):Int)+(s1.size:Int)+2≤(T.size:Int))=false:=by simp;omega
      simp only [h1];rfl
  unfold oK
  rw [key]
  cases (List.range (T.data.toList.length+1-W.data.toList.length)).any (Go.Lib.occAt T.data.toList W.data.toList) <;> rfl
def A8 (x:Int):Bool:=decide (¬ (97≤x∧x≤122)∧(x<48∨x>57))
theorem FV {s:ByteArray} {k:Nat} (h:k<s.size):Qd s (k:Int)=some ((s[k].toNat:Nat):Int):=by
  unfold Qd
  rw [if_pos (Int.natCast_nonneg k),Int.toNat_natCast]
  simp [h]
def A9 (s:ByteArray):Bool:=(List.range s.size).any fun k=>if h:k<s.size then A8 s[k].toNat else false
theorem QO (s:ByteArray) (hs:s.size≤8):aM (sH s) 0=some (if A9 s then .inl () else .inr ()):=by
  refine kD s.size (sH s) (fun k=>(k:Int)) _ _ _ rfl (fun k hk=>?_) ?_
  · unfold sH
    have h1:decide ((k:Int)<(s.size:Int))=true:=by simp;omega
    simp only [h1,if_true,FV hk,Option.bind_some,dif_pos hk]
    rw [aS (a:=(k:Int)) (by omega) (by omega)]
    generalize ((s[k].toNat:Nat):Int)=x
    unfold A8
    by_cases q1:x<97
    · have:¬ (97≤x∧x≤122):=by omega
      by_cases q2:x<48
      · simp [q1,q2]
      · by_cases q3:x>57 <;> simp [q1,q2,q3]
    · by_cases q4:x>122
      · have q5:¬ x<48:=by omega
        have q6:x>57:=by omega
        simp [q1,q4,q5,q6]
      · simp [q1,q4]
  · simp [sH]
theorem MK (s:ByteArray) (hs:s.size≤8):aM (gG s) 0=some (if A9 s then .inl () else .inr ()):=by
  refine kD s.size (gG s) (fun k=>(k:Int)) _ _ _ rfl (fun k hk=>?_) ?_
  · unfold gG
    have h1:decide ((k:Int)<(s.size:Int))=true:=by simp;omega
    simp only [h1,if_true,FV hk,Option.bind_some,dif_pos hk]
    rw [aS (a:=(k:Int)) (by omega) (by omega)]
    generalize ((s[k].toNat:Nat):Int)=x
    unfold A8
    by_cases q1:x ≥ 97
    · by_cases q4:x≤122
      · simp [q1,q4]
      · have q5:¬ x<48:=by omega
        have q6:x>57:=by omega
        simp [q1,q4,q5,q6]
    · by_cases q2:x<48
      · simp [q1,q2]
      · by_cases q3:x>57 <;> simp [q1,q2,q3]
  · simp [gG]
theorem Name_same (s:ByteArray):∃ b,lC s=some b∧dY s=some b:=by
  unfold lC dY uY tO
  by_cases h1:(s.size:Int)<1
  · exact ⟨false,by simp [h1],by simp [show ¬ (s.size:Int) ≥ 1 by omega]⟩
  by_cases h2:(s.size:Int)>8
  · exact ⟨false,by simp [h1,h2],by simp [show (s.size:Int) ≥ 1 by omega,show ¬ (s.size:Int)≤8 by omega]⟩
  have g1:(s.size:Int) ≥ 1:=by omega
  have g2:(s.size:Int)≤8:=by omega
  have e0:Qd s 0=some ((s[0]'(by omega)).toNat:Int):=FV (k:=0) (by omega)
  generalize ((s[0]'(by omega)).toNat:Int)=x at e0
  by_cases h3:x<97
  · exact ⟨false,by simp [h1,h2,e0,h3],by simp only [g1,g2,decide_true,if_true,Option.bind_some,e0,h3]⟩
  by_cases h4:x>122
  · exact ⟨false,by simp [h1,h2,e0,h3,h4],by simp only [g1,g2,decide_true,if_true,Option.bind_some,e0,h3,h4,decide_false,Bool.false_eq_true,if_false]⟩
  simp only [g1,g2,h1,h2,h3,h4,decide_true,decide_false,if_true,Bool.false_eq_true,if_false,Option.bind_some,e0,QO s (by omega),MK s (by omega)]
  cases A9 s with
  | true=>exact ⟨false,rfl,rfl⟩
  | false =>
    have e1:Ye (ByteArray.mk #[32]) s=some (ByteArray.mk #[32]++s):=Yv (by show 1+s.size≤_;omega)
    have e2:Ye (ByteArray.mk #[32]++s) (ByteArray.mk #[32])=some ((ByteArray.mk #[32]++s)++ByteArray.mk #[32]):=Yv (by rw [ByteArray.size_append];show 1+s.size+1≤_;omega)
    simp only [Bool.false_eq_true,if_false,e1,e2,Option.bind_some]
    unfold strings_Contains
    rw [QD _ s (by decide +kernel) (by omega),if_pos (by decide +kernel)]
    exact ⟨_,rfl,rfl⟩
end Go.SM
