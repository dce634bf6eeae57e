/- Insertion sort and heap sort, over any comparison. -/
import Derived.Test.YtgfjbgoehhnaeaaGreatGSort
set_option linter.unusedVariables false
set_option linter.unusedSimpArgs false
set_option linter.unusedSectionVars false
namespace Go.SM
open Go Go.VI
structure Fine {α:Type} (P:α→Prop) (d:α) (l:List α):Prop where
  len:(l.length:Int)≤1073741824
  all:∀ k:Int,0≤k→k<l.length→P (gz d l k)
theorem Fine.on {α:Type} {P:α→Prop} {d:α} {a b:Int} {l l':List α} (h:Fine P d l) (ho:On d a b l l'):Fine P d l':=by
  induction ho with
  | refl=>exact h
  | step ho i j hi hi' hj hj' ha hb ih =>
    refine ⟨by rw [BU];exact ih.len,fun k h1 h2=>?_⟩
    rw [BU] at h2
    rw [sD d (by omega) (by omega) h1 (by omega) (by omega)]
    split
    · exact ih.all _ (by omega) (by omega)
    · split
      · exact ih.all _ (by omega) (by omega)
      · exact ih.all _ h1 h2
section
variable {α:Type} {br:Br α} {lt:α→α→Bool} {P:α→Prop} {d:α} (hbr:∀ (β:Type) (x y:α) (k:Bool→Option β),P x→P y→br β x y k=k (lt x y)) (w:Xv lt)
include hbr w
theorem QC {a i:Int} {l0:List α} (ha:0≤a) (hi:a<i) (hil:i<l0.length) (hf0:Fine P d l0) (h0:Asc d lt a i l0) :
    ∃ l',aM (uE br a) (i,l0)=some l'∧On d a (i+1) l0 l'∧Asc d lt a (i+1) l':=by
  refine nA (fun s=>(s.1-a).toNat) (fun s=>a≤s.1∧s.1≤i∧On d a (i+1) l0 s.2∧∀ p q:Int,a≤p→p<q→q≤i→q≠s.1→lt (gz d s.2 q) (gz d s.2 p)=false)
    (fun l'=>On d a (i+1) l0 l'∧Asc d lt a (i+1) l') (uE br a) ?_ (i,l0) ⟨by omega,Int.le_refl _,.refl _,fun p q h1 h2 h3 h4=>h0 p q h1 h2 (by simp only at h4;omega)⟩
  rintro ⟨j,l⟩ ⟨h1,h2,hon,hI⟩
  simp only at h1 h2 hon hI ⊢
  have hf:=hf0.on hon
  have hl:=hon.len
  have hL:=hf.len
  unfold uE
  by_cases hja:j>a
  · cases hc:lt (gz d l j) (gz d l (j-1)) with
    | true =>
      left
      refine ⟨(j-1,sw d l j (j-1)), ?_,⟨by simp only;omega,by simp only;omega,.step hon j (j-1) (by omega) (by omega) (by omega) (by omega) ha (by omega), ?_⟩,by simp only;omega⟩
      · simp (disch:=first | omega | (simp only [List.length_set];omega) | (refine hf.all _ ?_ ?_ <;> omega)) only [hja,decide_true,if_true,aY,jD d,Option.bind_some,hbr,hc]
        rfl
      · simp only
        intro p q p1 p2 p3 p4
        rw [sD d (by omega) (by omega) (by omega) (by omega) (by omega),sD d (by omega) (by omega) (by omega) (by omega) (by omega)]
        rw [if_neg p4]
        by_cases e1:q=j
        · rw [if_pos e1]
          by_cases e2:p=j-1
          · rw [if_pos e2];exact w.asymm _ _ hc
          · rw [if_neg e2,if_neg (by omega)]
            exact hI p (j-1) (by omega) (by omega) (by omega) (by omega)
        · rw [if_neg e1]
          by_cases e2:p=j-1
          · rw [if_pos e2];exact hI j q (by omega) (by omega) p3 e1
          · rw [if_neg e2]
            by_cases e3:p=j
            · rw [if_pos e3];exact hI (j-1) q (by omega) (by omega) p3 e1
            · rw [if_neg e3];exact hI p q p1 p2 p3 e1
    | false =>
      right
      refine ⟨l, ?_,hon, ?_⟩
      · simp (disch:=first | omega | (simp only [List.length_set];omega) | (refine hf.all _ ?_ ?_ <;> omega)) only [hja,decide_true,if_true,aY,jD d,Option.bind_some,hbr,hc,Bool.false_eq_true,if_false]
      · intro p q p1 p2 p3
        by_cases e1:q=j
        · subst e1
          by_cases e2:p=q-1
          · subst e2;exact hc
          · exact w.le_trans (hI p (q-1) p1 (by omega) (by omega) (by omega)) hc
        · exact hI p q p1 p2 (by omega) e1
  · right
    refine ⟨l, ?_,hon, ?_⟩
    · simp only [hja,decide_false,Bool.false_eq_true,if_false,Option.bind_some]
    · intro p q p1 p2 p3
      exact hI p q p1 p2 (by omega) (by omega)
theorem Wm {a b:Int} {l0:List α} (ha:0≤a) (hab:a≤b) (hb:b≤l0.length) (hf0:Fine P d l0) :
    ∃ l',Bi br a b l0=some l'∧On d a b l0 l'∧Asc d lt a b l':=by
  have hL:=hf0.len
  obtain ⟨l',h1,h2,h3⟩:=nA (fun s=>(b-s.1).toNat) (fun s=>a<s.1∧On d a b l0 s.2∧Asc d lt a (min s.1 b) s.2)
    (fun l'=>On d a b l0 l'∧Asc d lt a b l') (xM br a b) (by
      rintro ⟨i,l⟩ ⟨h1,hon,hI⟩
      simp only at h1 hon hI ⊢
      have hf:=hf0.on hon
      have hl:=hon.len
      unfold xM
      by_cases hib:i<b
      · left
        obtain ⟨l',q1,q2,q3⟩:=QC hbr w ha h1 (by omega) hf (by rwa [Int.min_eq_left (by omega)] at hI)
        refine ⟨(i+1,l'), ?_,⟨by simp only;omega,hon.trans d (q2.mono d ha (Int.le_refl _) (by omega) (by omega)), ?_⟩,by simp only;omega⟩
        · simp (disch:=omega) only [hib,decide_true,if_true,q1,Option.bind_some,aS]
        · simp only
          rw [Int.min_eq_left (by omega)];exact q3
      · right
        refine ⟨l, ?_,hon, ?_⟩
        · simp only [hib,decide_false,Bool.false_eq_true,if_false]
        · rwa [Int.min_eq_right (by omega)] at hI) (a+1,l0) ⟨by simp only;omega,.refl _,fun p q p1 p2 p3=>by simp only at p3;omega⟩
  refine ⟨l', ?_,h2,h3⟩
  unfold Bi
  simp (disch:=omega) only [aS,h1,Option.bind_some]
end
end Go.SM
