/- The gaps of rectangles; loops that look for a first one. -/
import Derived.Test.YtgfjbgoehhnaeaaGreatCzK
import Derived.Test.YtgfjbgoehhnaeaaGreatCzRect
set_option linter.unusedVariables false
set_option linter.unusedSimpArgs false
set_option linter.unusedSectionVars false
namespace Go.SM
open Go Go.VI
theorem kD {S R:Type} (n:Nat) (body:S→Option (S ⊕ R)) (st:Nat→S) (q:Nat→Bool) (no yes:R) {s0:S} (h0:st 0=s0) (step:∀ k:Nat,k<n→body (st k)=if q k then some (.inr yes) else some (.inl (st (k+1)))) (fin:body (st n)=some (.inr no)) :
    aM body s0=some (if (List.range n).any q then yes else no):=by
  have key:∀ (m k:Nat),k+m=n→(∀ j,j<k→q j=false)→aM body (st k)=some (if (List.range n).any q then yes else no):=by
    intro m
    induction m with
    | zero =>
      intro k h hb
      obtain rfl:k=n:=by omega
      have:(List.range k).any q=false:=by
        rw [List.any_eq_false];intro j hj;rw [hb j (List.mem_range.1 hj)];simp
      rw [fU fin,this];rfl
    | succ m ih =>
      intro k h hb
      have hs:=step k (by omega)
      by_cases hq:q k=true
      · rw [if_pos hq] at hs
        have:(List.range n).any q=true:=List.any_eq_true.2 ⟨k,List.mem_range.2 (by omega),hq⟩
        rw [fU hs,this];rfl
      · rw [if_neg hq] at hs
        rw [lQ hs]
        refine ih (k+1) (by omega) fun j hj=>?_
        by_cases hjk:j=k
        · subst hjk;simpa using hq
        · exact hb j (by omega)
  rw [← h0]
  exact key n 0 (by omega) (fun j hj=>absurd hj (by omega))
theorem OY {α:Type} (l:List α) (q:α→Bool) (p:Nat→Bool) (h:∀ k x,l[k]?=some x→p k=q x):(List.range l.length).any p=l.any q:=by
  rw [Bool.eq_iff_iff,List.any_eq_true,List.any_eq_true]
  constructor
  · rintro ⟨k,hk,hp⟩
    have hk':=List.mem_range.1 hk
    have hx:l[k]?=some l[k]:=by simp
    exact ⟨l[k],List.getElem_mem hk',by rw [← h k _ hx];exact hp⟩
  · rintro ⟨x,hx,hq⟩
    obtain ⟨k,hk⟩:=List.mem_iff_getElem?.1 hx
    exact ⟨k,List.mem_range.2 (List.getElem?_eq_some_iff.1 hk).1,by rw [h k _ hk];exact hq⟩
theorem gI {α S R:Type} (l:List α) (body:S→Option (S ⊕ R)) (st:Nat→S) (q:α→Bool) (no yes:R) {s0:S} (h0:st 0=s0) (step:∀ (k:Nat) (x:α),l[k]?=some x→body (st k)=if q x then some (.inr yes) else some (.inl (st (k+1)))) (fin:body (st l.length)=some (.inr no)) :
    aM body s0=some (if l.any q then yes else no):=by
  rw [kD l.length body st (fun k=>match l[k]? with | some x=>q x | none=>false) no yes h0 (fun k hk=>?_) fin]
  · rw [OY l q _ (fun k x h=>by rw [h])]
  · have hx:l[k]?=some l[k]:=by simp
    rw [step k _ hx,hx]
def ovR (a b:Rect):Prop:=vR a∧vR b∧a.X<b.X+b.W∧b.X<a.X+a.W∧a.Y<b.Y+b.H∧b.Y<a.Y+a.H
instance (a b:Rect):Decidable (ovR a b):=by unfold ovR;infer_instance
theorem Yy (a b:Rect):zX a b=some (decide (ovR a b)):=by
  unfold zX ovR
  simp only [uU,Option.bind_some]
  by_cases h1:vR a
  · by_cases h2:vR b
    · have h1':=h1;have h2':=h2
      unfold vR at h1' h2'
      rw [aS (by omega) (by omega),aS (by omega) (by omega),aS (by omega) (by omega),aS (by omega) (by omega)]
      by_cases h3:a.X<b.X+b.W <;> by_cases h4:b.X<a.X+a.W <;> by_cases h5:a.Y<b.Y+b.H <;> simp [h1,h2,h3,h4,h5]
    · simp [h1,h2]
  · simp [h1]
theorem GL (a b:Rect):nD a b=some (decide (ovR a b)):=by
  unfold nD ovR
  simp only [Ou,Option.bind_some]
  by_cases h1:vR a
  · by_cases h2:vR b
    · have h1':=h1;have h2':=h2
      unfold vR at h1' h2'
      rw [aS (by omega) (by omega),aS (by omega) (by omega),aS (by omega) (by omega),aS (by omega) (by omega)]
      by_cases h3:a.X<b.X+b.W <;> by_cases h4:b.X<a.X+a.W <;> by_cases h5:a.Y<b.Y+b.H <;> simp [h1,h2,h3,h4,h5]
    · simp [h1,h2]
  · simp [h1]
def IG (a b:Rect):Int:=if vR a∧vR b then max 0 (max (max (b.X-(a.X+a.W)) (a.X-(b.X+b.W))) (max (b.Y-(a.Y+a.H)) (a.Y-(b.Y+b.H)))) else 0
theorem Uw (a b:Int):eU a b=max a b:=by unfold eU;split <;> omega
theorem Ei (a b:Int):mY a b=min a b:=by unfold mY;split <;> omega
theorem GI (a b:Rect):Cm a b=some (IG a b):=by
  unfold Cm IG
  simp only [uU,Option.bind_some]
  by_cases h1:vR a
  · by_cases h2:vR b
    · have h1':=h1;have h2':=h2
      unfold vR at h1' h2'
      rw [aY (a:=b.X) (by omega) (by omega),aY (a:=a.X) (by omega) (by omega),aY (a:=b.Y) (by omega) (by omega),aY (a:=a.Y) (by omega) (by omega),aY (by omega) (by omega),aY (by omega) (by omega),aY (by omega) (by omega),aY (by omega) (by omega)]
      simp only [h1,h2,Uw,decide_true,and_self,if_true,Bool.not_true,Option.bind_some,Bool.false_eq_true,if_false]
      congr 1
      omega
    · simp [h1,h2]
  · simp [h1]
theorem RX (a b:Rect):qE a b=some (IG a b):=by
  unfold qE IG
  simp only [Ou,Option.bind_some]
  by_cases h1:vR a
  · by_cases h2:vR b
    · have h1':=h1;have h2':=h2
      unfold vR at h1' h2'
      rw [aY (a:=b.X) (by omega) (by omega),aY (a:=a.X) (by omega) (by omega),aY (a:=b.Y) (by omega) (by omega),aY (a:=a.Y) (by omega) (by omega),aY (by omega) (by omega),aY (by omega) (by omega),aY (by omega) (by omega),aY (by omega) (by omega)]
      simp only [h1,h2,Uw,decide_true,and_self,if_true,Bool.not_true,Option.bind_some,Bool.false_eq_true,if_false]
      congr 1
      omega
    · simp [h1,h2]
  · simp [h1]
end Go.SM
