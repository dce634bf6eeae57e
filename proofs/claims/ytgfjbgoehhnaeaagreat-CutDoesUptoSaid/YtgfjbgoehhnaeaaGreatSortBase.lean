/- Lists seen by integer places, exchanges, loops that end. -/
import Derived.Test.YtgfjbgoehhnaeaaGreatVHC3
import Derived.Test.YtgfjbgoehhnaeaaGreatVHC4
set_option linter.unusedVariables false
set_option linter.unusedSimpArgs false
set_option linter.unusedSectionVars false
namespace Go.VI
theorem nA {S R:Type} (μ:S→Nat) (I:S→Prop) (Q:R→Prop) (body:S→Option (S ⊕ R))
    (step:∀ s,I s→(∃ s',body s=some (.inl s')∧I s'∧μ s'<μ s)∨(∃ r,body s=some (.inr r)∧Q r)):∀ s,I s→∃ r,aM body s=some r∧Q r:=by
  have key:∀ (n:Nat) s,μ s<n→I s→∃ r,aM body s=some r∧Q r:=by
    intro n
    induction n with
    | zero=>intro s h;exact absurd h (Nat.not_lt_zero _)
    | succ n ih =>
      intro s h hs
      rcases step s hs with ⟨s',e,hs',hm⟩ | ⟨r,e,hr⟩
      · rw [lQ e];exact ih s' (by omega) hs'
      · exact ⟨r,fU e,hr⟩
  exact fun s hs=>key (μ s+1) s (Nat.lt_succ_self _) hs
section
variable {α:Type} (d:α)
def gz (l:List α) (i:Int):α:=l.getD i.toNat d
theorem jD {l:List α} {i:Int} (h:0≤i) (h2:i<l.length):idx l i=some (gz d l i):=by
  unfold idx gz
  rw [if_pos h,List.getD_eq_getElem?_getD,List.getElem?_eq_getElem (by omega)]
  rfl
theorem UE {l:List α} {i k:Int} (hi:0≤i) (hk:0≤k) (h:i<l.length) (v:α):gz d (l.set i.toNat v) k=if k=i then v else gz d l k:=by
  unfold gz
  rw [List.getD_eq_getElem?_getD,List.getD_eq_getElem?_getD,List.getElem?_set]
  by_cases e:k=i
  · subst e
    rw [if_pos rfl,if_pos (by omega),if_pos rfl];rfl
  · rw [if_neg (by omega),if_neg e]
def sw (l:List α) (i j:Int):List α:=(l.set i.toNat (gz d l j)).set j.toNat (gz d l i)
theorem BU (l:List α) (i j:Int):(sw d l i j).length=l.length:=by simp [sw]
theorem sD {l:List α} {i j k:Int} (hi:0≤i) (hj:0≤j) (hk:0≤k) (h1:i<l.length) (h2:j<l.length):gz d (sw d l i j) k=if k=j then gz d l i else if k=i then gz d l j else gz d l k:=by
  unfold sw
  rw [UE d hj hk (by rw [List.length_set];exact h2),UE d hi hk h1]
inductive On (a b:Int):List α→List α→Prop
  | refl (l:List α):On a b l l
  | step {l l':List α} (h:On a b l l') (i j:Int) (hi:a≤i) (hi':i<b) (hj:a≤j) (hj':j<b) (ha:0≤a) (hb:b≤l'.length):On a b l (sw d l' i j)
theorem On.len {a b:Int} {l l':List α} (h:On d a b l l'):l'.length=l.length:=by
  induction h with
  | refl=>rfl
  | step h i j _ _ _ _ _ _ ih=>rw [BU,ih]
theorem On.trans {a b:Int} {l l' l'':List α} (h:On d a b l l') (h':On d a b l' l''):On d a b l l'':=by
  induction h' with
  | refl=>exact h
  | step _ i j hi hi' hj hj' ha hb ih=>exact .step ih i j hi hi' hj hj' ha hb
theorem On.mono {a b a' b':Int} {l l':List α} (h:On d a b l l') (h0:0≤a') (h1:a'≤a) (h2:b≤b') (h3:b'≤l.length):On d a' b' l l':=by
  induction h with
  | refl=>exact .refl _
  | step h i j hi hi' hj hj' ha hb ih=>exact .step ih i j (by omega) (by omega) (by omega) (by omega) h0 (by rw [h.len];exact h3)
theorem On.out {a b:Int} {l l':List α} (h:On d a b l l') {k:Int} (hk:0≤k) (hk':k<a∨b≤k):gz d l' k=gz d l k:=by
  induction h with
  | refl=>rfl
  | step h i j hi hi' hj hj' ha hb ih =>
    rw [sD d (by omega) (by omega) hk (by omega) (by omega),if_neg (by omega),if_neg (by omega),ih]
theorem On.all {a b:Int} {l l':List α} (h:On d a b l l') (Q:α→Prop) (hq:∀ k,a≤k→k<b→Q (gz d l k)):∀ k,a≤k→k<b→Q (gz d l' k):=by
  induction h with
  | refl=>exact hq
  | step h i j hi hi' hj hj' ha hb ih =>
    intro k h1 h2
    rw [sD d (by omega) (by omega) (by omega) (by omega) (by omega)]
    split
    · exact ih i hi hi'
    · split
      · exact ih j hj hj'
      · exact ih k h1 h2
theorem YT {l:List α} {i j:Int} (hi:0≤i) (hj:0≤j) (h1:i<l.length) (h2:j<l.length):(sw d l i j).Perm l:=by
  unfold sw gz
  have e1:l.getD i.toNat d=l[i.toNat]'(by omega):=by rw [List.getD_eq_getElem?_getD,List.getElem?_eq_getElem (by omega)];rfl
  have e2:l.getD j.toNat d=l[j.toNat]'(by omega):=by rw [List.getD_eq_getElem?_getD,List.getElem?_eq_getElem (by omega)];rfl
  rw [e1,e2]
  exact List.set_set_perm (by omega) (by omega)
theorem On.perm {a b:Int} {l l':List α} (h:On d a b l l'):l'.Perm l:=by
  induction h with
  | refl=>exact .refl _
  | step h i j hi hi' hj hj' ha hb ih=>exact (YT d (by omega) (by omega) (by omega) (by omega)).trans ih
def Asc (lt:α→α→Bool) (a b:Int) (l:List α):Prop:=∀ i j,a≤i→i<j→j<b→lt (gz d l j) (gz d l i)=false
structure Xv (lt:α→α→Bool):Prop where
  asymm:∀ x y,lt x y=true→lt y x=false
  neg:∀ x y z,lt x z=true→lt x y=true∨lt y z=true
theorem Xv.le_trans {lt:α→α→Bool} (w:Xv lt) {x y z:α} (h1:lt y x=false) (h2:lt z y=false):lt z x=false:=by
  cases h:lt z x with
  | false=>rfl
  | true=>rcases w.neg z y x h with q | q <;> simp_all
theorem Xv.irrefl {lt:α→α→Bool} (w:Xv lt) (x:α):lt x x=false:=by
  cases h:lt x x with
  | false=>rfl
  | true=>have:=w.asymm x x h;simp_all
end
end Go.VI
