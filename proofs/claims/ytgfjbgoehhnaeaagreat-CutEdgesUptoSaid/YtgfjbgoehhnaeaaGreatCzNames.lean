/- Names: both say the same of each. -/
import Derived.Test.YtgfjbgoehhnaeaaGreatCzClear
import Derived.Test.YtgfjbgoehhnaeaaGreatCzMV
import Derived.Lib.IndexMore
set_option linter.unusedVariables false
set_option linter.unusedSimpArgs false
set_option linter.unusedSectionVars false
namespace Go.SM
open Go Go.VI
theorem occ_room {s sub : List UInt8} {i : Nat} (hne : sub≠[]) (h : Go.Lib.occAt s sub i=true) : i+sub.length≤s.length:=by
  rcases Go.Lib.occAt_room h with h' | h'
  · omega
  · exact absurd h' hne
theorem contains_range {s sub : List UInt8} (hne : sub≠[]) : Go.Lib.contains s sub=(List.range (s.length+1 - sub.length)).any (Go.Lib.occAt s sub):=by
  unfold Go.Lib.contains
  rcases Go.Lib.index_spec s sub with ⟨h1,h2⟩ | ⟨i,h1,h2,h3,h4⟩
  · rw [h1]
    have : (List.range (s.length+1 - sub.length)).any (Go.Lib.occAt s sub)=false:=by
      rw [List.any_eq_false]; intro j hj
      rw [h2 j (by have:=List.mem_range.1 hj; omega)]; simp
    rw [this]; rfl
  · rw [h1]
    have : (List.range (s.length+1 - sub.length)).any (Go.Lib.occAt s sub)=true:=List.any_eq_true.2 ⟨i,List.mem_range.2 (by have:=occ_room hne h3; omega),h3⟩
    rw [this]; simp
theorem scat_eq {a b : ByteArray} (h : a.size+b.size≤9223372036854775807) : scat a b=some (a++b):=by unfold scat; rw [if_pos h]
theorem isWord_eq (T s1 : ByteArray) (hT : T.size < 4294967281) (hs : s1.size≤8) : sheetmetalref02_isWord T s1=some (Go.Lib.contains T.data.toList ((ByteArray.mk #[32]++s1)++ByteArray.mk #[32]).data.toList):=by
  have hsz : ((ByteArray.mk #[32]++s1)++ByteArray.mk #[32]).size=s1.size+2:=by
    rw [ByteArray.size_append,ByteArray.size_append]; show 1+s1.size+1=_; omega
  have hsub : s1.size+2=((ByteArray.mk #[32]++s1)++ByteArray.mk #[32]).data.toList.length:=by rw [← hsz]; rfl
  have hne : ((ByteArray.mk #[32]++s1)++ByteArray.mk #[32]).data.toList≠[]:=by
    intro h; rw [h] at hsub; simp at hsub
  have e1 : scat (ByteArray.mk #[32]) s1=some (ByteArray.mk #[32]++s1):=scat_eq (by show 1+s1.size≤_; omega)
  have e2 : scat (ByteArray.mk #[32]++s1) (ByteArray.mk #[32])=some ((ByteArray.mk #[32]++s1)++ByteArray.mk #[32]):=scat_eq (by rw [ByteArray.size_append]; show 1+s1.size+1≤_; omega)
  generalize (ByteArray.mk #[32]++s1)++ByteArray.mk #[32]=W at hsz hsub hne e2 ⊢
  rw [contains_range hne]
  have hTl : T.data.toList.length=T.size:=rfl
  have key : loopT (sheetmetalref02_isWord_l1 T s1) 0=some (if (List.range (T.data.toList.length+1 - W.data.toList.length)).any (Go.Lib.occAt T.data.toList W.data.toList) then .inl () else .inr ()):=by
    refine loop_rng _ (sheetmetalref02_isWord_l1 T s1) (fun k=>(k : Int)) _ _ _ rfl (fun k hk=>?_) ?_
    · unfold sheetmetalref02_isWord_l1
      rw [hTl,← hsub] at hk
      rw [iadd_eq (a:=(k : Int)) (by omega) (by omega),iadd_eq (b:=2) (by omega) (by omega)]
      have h1 : decide ((k : Int)+(s1.size : Int)+2≤(T.size : Int))=true:=by simp; omega
      simp only [h1,if_true]
      have e3 : sslc T k ((k : Int)+(s1.size : Int)+2)=some (T.extract k (k+W.size)):=by
        unfold sslc
        rw [if_pos (by omega)]
        have : ((k : Int)+(s1.size : Int)+2).toNat=k+W.size:=by omega
        rw [this]; simp
      rw [e3]
      simp only [Option.bind_some,e1,e2]
      rw [Go.Lib.occ_of_piece T W k (by omega),iadd_eq (a:=(k : Int)) (by omega) (by omega)]
      cases (T.extract k (k+W.size)).toList==W.toList <;> simp
    · unfold sheetmetalref02_isWord_l1
      rw [hTl,← hsub]
      rw [iadd_eq (b:=(s1.size : Int)) (by omega) (by omega),iadd_eq (b:=2) (by omega) (by omega)]
      have h1 : decide (((T.size+1 - (s1.size+2) : Nat) : Int)+(s1.size : Int)+2≤(T.size : Int))=false:=by simp; omega
      simp only [h1]; rfl
  unfold sheetmetalref02_isWord
  rw [key]
  cases (List.range (T.data.toList.length+1 - W.data.toList.length)).any (Go.Lib.occAt T.data.toList W.data.toList) <;> rfl
def badc (x : Int) : Bool:=decide (¬ (97≤x∧x≤122)∧(x < 48∨x > 57))
theorem sidx_of {s : ByteArray} {k : Nat} (h : k < s.size) : sidx s (k : Int)=some ((s[k].toNat : Nat) : Int):=by
  unfold sidx
  rw [if_pos (Int.natCast_nonneg k),Int.toNat_natCast]
  simp [h]
def badn (s : ByteArray) : Bool:=(List.range s.size).any fun k=>if h : k < s.size then badc s[k].toNat else false
theorem name_loop (s : ByteArray) (hs : s.size≤8) : loopT (part_ValidName_l1 s) 0=some (if badn s then .inl () else .inr ()):=by
  refine loop_rng s.size (part_ValidName_l1 s) (fun k=>(k : Int)) _ _ _ rfl (fun k hk=>?_) ?_
  · unfold part_ValidName_l1
    have h1 : decide ((k : Int) < (s.size : Int))=true:=by simp; omega
    simp only [h1,if_true,sidx_of hk,Option.bind_some,dif_pos hk]
    rw [iadd_eq (a:=(k : Int)) (by omega) (by omega)]
    generalize ((s[k].toNat : Nat) : Int)=x
    unfold badc
    by_cases q1 : x < 97
    · have : ¬ (97≤x∧x≤122):=by omega
      by_cases q2 : x < 48
      · simp [q1,q2]
      · by_cases q3 : x > 57 <;> simp [q1,q2,q3]
    · by_cases q4 : x > 122
      · have q5 : ¬ x < 48:=by omega
        have q6 : x > 57:=by omega
        simp [q1,q4,q5,q6]
      · simp [q1,q4]
  · simp [part_ValidName_l1]
theorem rname_loop (s : ByteArray) (hs : s.size≤8) : loopT (sheetmetalref02_ValidName_l1 s) 0=some (if badn s then .inl () else .inr ()):=by
  refine loop_rng s.size (sheetmetalref02_ValidName_l1 s) (fun k=>(k : Int)) _ _ _ rfl (fun k hk=>?_) ?_
  · unfold sheetmetalref02_ValidName_l1
    have h1 : decide ((k : Int) < (s.size : Int))=true:=by simp; omega
    simp only [h1,if_true,sidx_of hk,Option.bind_some,dif_pos hk]
    rw [iadd_eq (a:=(k : Int)) (by omega) (by omega)]
    generalize ((s[k].toNat : Nat) : Int)=x
    unfold badc
    by_cases q1 : x ≥ 97
    · by_cases q4 : x≤122
      · simp [q1,q4]
      · have q5 : ¬ x < 48:=by omega
        have q6 : x > 57:=by omega
        simp [q1,q4,q5,q6]
    · by_cases q2 : x < 48
      · simp [q1,q2]
      · by_cases q3 : x > 57 <;> simp [q1,q2,q3]
  · simp [sheetmetalref02_ValidName_l1]
theorem Name_same (s : ByteArray) : ∃ b,part_ValidName s=some b∧sheetmetalref02_ValidName s=some b:=by
  unfold part_ValidName sheetmetalref02_ValidName sheetmetalref02_within sheetmetalref02_reserved
  by_cases h1 : (s.size : Int) < 1
  · exact ⟨false,by simp [h1],by simp [show ¬ (s.size : Int) ≥ 1 by omega]⟩
  by_cases h2 : (s.size : Int) > 8
  · exact ⟨false,by simp [h1,h2],by simp [show (s.size : Int) ≥ 1 by omega,show ¬ (s.size : Int)≤8 by omega]⟩
  have g1 : (s.size : Int) ≥ 1:=by omega
  have g2 : (s.size : Int)≤8:=by omega
  have e0 : sidx s 0=some ((s[0]'(by omega)).toNat : Int):=sidx_of (k:=0) (by omega)
  generalize ((s[0]'(by omega)).toNat : Int)=x at e0
  by_cases h3 : x < 97
  · exact ⟨false,by simp [h1,h2,e0,h3],by simp only [g1,g2,decide_true,if_true,Option.bind_some,e0,h3]⟩
  by_cases h4 : x > 122
  · exact ⟨false,by simp [h1,h2,e0,h3,h4],by simp only [g1,g2,decide_true,if_true,Option.bind_some,e0,h3,h4,decide_false,Bool.false_eq_true,if_false]⟩
  simp only [g1,g2,h1,h2,h3,h4,decide_true,decide_false,if_true,Bool.false_eq_true,if_false,Option.bind_some,e0,name_loop s (by omega),rname_loop s (by omega)]
  cases badn s with
  | true=>exact ⟨false,rfl,rfl⟩
  | false =>
    have e1 : scat (ByteArray.mk #[32]) s=some (ByteArray.mk #[32]++s):=scat_eq (by show 1+s.size≤_; omega)
    have e2 : scat (ByteArray.mk #[32]++s) (ByteArray.mk #[32])=some ((ByteArray.mk #[32]++s)++ByteArray.mk #[32]):=scat_eq (by rw [ByteArray.size_append]; show 1+s.size+1≤_; omega)
    simp only [Bool.false_eq_true,if_false,e1,e2,Option.bind_some]
    unfold strings_Contains
    rw [isWord_eq _ s (by decide +kernel) (by omega),if_pos (by decide +kernel)]
    exact ⟨_,rfl,rfl⟩
end Go.SM
