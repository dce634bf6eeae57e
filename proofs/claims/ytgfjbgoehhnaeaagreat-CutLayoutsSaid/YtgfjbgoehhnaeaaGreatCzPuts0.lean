/- Pieces that are turned and moved: both say the same of each. The law NestPuts, on the models. -/
import Derived.Test.YtgfjbgoehhnaeaaGreatCzValid2
import Derived.Test.YtgfjbgoehhnaeaaGreatCzClear2
set_option linter.unusedVariables false
set_option linter.unusedSimpArgs false
set_option linter.unusedSectionVars false
namespace Go.SM
open Go Go.VI
def inB (a b : Int) (r : Rect) : Prop:=a≤r.X∧r.X+r.W≤a+1048576∧b≤r.Y∧r.Y+r.H≤b+1048576
structure VP (x : Piece) : Prop where
  n1 : x.Rects.length≤12
  n0 : 0 < x.Rects.length
  n2 : x.Cuts.length≤12
  n3 : x.Forms.length≤12
  v1 : ∀ r ∈ x.Rects,vR r∧inB 0 0 r
  v2 : ∀ r ∈ x.Cuts,vR r∧inB 0 0 r
  v3 : ∀ r ∈ x.Forms,vR r∧inB 0 0 r
theorem all_vR {l : List Rect} (h : (l.any fun x=>!decide (vR x))=false) : ∀ r ∈ l,vR r:=by
  intro r hr
  have:=List.any_eq_false.1 h r hr
  simpa using this
theorem vp_of {x : Piece} {r0 : Rect} (k1 : x.Rects.length≤12) (k0 : 0 < x.Rects.length) (k2 : x.Cuts.length≤12) (k3 : x.Forms.length≤12) (v1 : (x.Rects.any fun x=>!decide (vR x))=false) (v2 : (x.Cuts.any fun x=>!decide (vR x))=false) (v3 : (x.Forms.any fun x=>!decide (vR x))=false)
    (v4 : (List.range (x.Cuts++x.Forms).length).any (badHole x (x.Cuts++x.Forms))=false) (hr : x.Rects[0]?=some r0) (m1 : lowX x.Rects r0.X=0) (m2 : lowY x.Rects r0.Y=0) : VP x:=by
  have b1 : ∀ r ∈ x.Rects,inB 0 0 r:=fun r hr=>by
    have q:=all_vR v1 r hr
    have h1:=(foldl_le (l:=x.Rects) (g:=fun r=>r.X) (a:=r0.X)).2 r hr
    have h2:=(foldl_le (l:=x.Rects) (g:=fun r=>r.Y) (a:=r0.Y)).2 r hr
    have e1 : x.Rects.foldl (fun s r=>min s r.X) r0.X=0:=m1
    have e2 : x.Rects.foldl (fun s r=>min s r.Y) r0.Y=0:=m2
    rw [e1] at h1; rw [e2] at h2
    unfold vR at q; unfold inB; omega
  have b4 : ∀ c ∈ x.Cuts++x.Forms,vR c→inB 0 0 c:=fun c hc hv=>by
    obtain ⟨k,hk⟩:=List.mem_iff_getElem?.1 hc
    have hkl:=(List.getElem?_eq_some_iff.1 hk).1
    have h:=List.any_eq_false.1 v4 k (List.mem_range.2 hkl)
    unfold badHole at h
    rw [hk] at h
    simp only [Bool.or_eq_true,not_or] at h
    have h' : x.Rects.any (deepB c)=true:=by simpa using h.1
    obtain ⟨r,hr,hd⟩:=List.any_eq_true.1 h'
    have q:=all_vR v1 r hr
    have q2:=b1 r hr
    unfold deepB at hd
    unfold vR at q hv
    rw [iadd_eq (by omega) (by omega),iadd_eq (by omega) (by omega),iadd_eq (by omega) (by omega),iadd_eq (by omega) (by omega)] at hd
    unfold inB at q2 ⊢
    by_cases t1 : c.X > r.X
    · by_cases t2 : c.Y > r.Y
      · by_cases t3 : c.X+c.W < r.X+r.W
        · simp only [t1,t2,t3,if_true,decide_eq_true_eq] at hd
          omega
        · simp [t1,t2,t3] at hd
      · simp [t1,t2] at hd
    · simp [t1] at hd
  exact ⟨k1,k0,k2,k3,fun r hr=>⟨all_vR v1 r hr,b1 r hr⟩,fun r hr=>⟨all_vR v2 r hr,b4 r (List.mem_append.2 (.inl hr)) (all_vR v2 r hr)⟩,fun r hr=>⟨all_vR v3 r hr,b4 r (List.mem_append.2 (.inr hr)) (all_vR v3 r hr)⟩⟩
theorem Piece_facts (x : Piece) : ∃ b,nest_ValidatePiece x=some b∧sheetmetalref06_ValidatePiece x=some b∧(b=0→VP x):=by
  obtain ⟨a,ha,ha'⟩:=Name_same x.Name
  obtain ⟨b,hb,hb'⟩:=Name_same x.Material
  unfold nest_ValidatePiece sheetmetalref06_ValidatePiece
  rw [ha,hb,stuff_eq ha' hb']
  cases a with
  | false=>exact ⟨2,rfl,rfl,fun h=>absurd h (by decide)⟩
  | true =>
  cases b with
  | false=>exact ⟨2,rfl,rfl,fun h=>absurd h (by decide)⟩
  | true =>
  simp only [Option.bind_some,plain_eq,Bool.and_self,if_true,Bool.not_true,Bool.false_eq_true,if_false]
  by_cases h1 : (1≤x.Gauge∧x.Gauge≤60)∧0≤x.Grain∧x.Grain≤2
  · simp only [h1,and_self,decide_true,if_true,Option.bind_some,Bool.not_true,Bool.false_eq_true,if_false,bne_self_eq_false]
    by_cases l1 : (x.Rects.length : Int) > 12
    · exact ⟨4,by simp [l1],by simp [l1],fun h=>absurd h (by decide)⟩
    by_cases l2 : (x.Cuts.length : Int) > 12
    · exact ⟨4,by simp [l2],by simp [l2],fun h=>absurd h (by decide)⟩
    by_cases l3 : (x.Forms.length : Int) > 12
    · exact ⟨4,by simp [l3],by simp [l3],fun h=>absurd h (by decide)⟩
    have k1 : x.Rects.length≤12:=by omega
    have k2 : x.Cuts.length≤12:=by omega
    have k3 : x.Forms.length≤12:=by omega
    simp only [l1,l2,l3,decide_false,Bool.false_eq_true,if_false,Option.bind_some]
    by_cases h0 : (x.Rects.length : Int)=0
    · exact ⟨1,by simp [h0],by simp [h0],fun h=>absurd h (by decide)⟩
    have h0' : ((x.Rects.length : Int)==0)=false:=by rw [beq_eq_false_iff_ne]; exact h0
    simp only [h0',Bool.false_eq_true,if_false,valid_eq x.Rects (by omega),valid_eq x.Cuts (by omega),valid_eq x.Forms (by omega),Rights_eq x.Rects (by omega),Rights_eq x.Cuts (by omega),Rights_eq x.Forms (by omega),Option.bind_some]
    cases v1 : (x.Rects.any fun x=>!decide (vR x)) with
    | true=>exact ⟨1,rfl,rfl,fun h=>absurd h (by decide)⟩
    | false =>
    cases v2 : (x.Cuts.any fun x=>!decide (vR x)) with
    | true=>exact ⟨1,rfl,rfl,fun h=>absurd h (by decide)⟩
    | false =>
    cases v3 : (x.Forms.any fun x=>!decide (vR x)) with
    | true=>exact ⟨1,rfl,rfl,fun h=>absurd h (by decide)⟩
    | false =>
    have hr : x.Rects[0]?=some (x.Rects[0]'(by omega)):=by simp [show 0 < x.Rects.length by omega]
    have i0 : idx x.Rects 0=some (x.Rects[0]'(by omega)):=idx_of (k:=0) hr
    obtain ⟨cn,c1,c2⟩:=connected_same (l:=x.Rects) (by omega) (by omega)
    have ap1 : app [] x.Cuts=some x.Cuts:=by rw [app_eq (by unfold LIM; simp; omega)]; rfl
    have ap2 : app x.Cuts x.Forms=some (x.Cuts++x.Forms):=app_eq (by unfold LIM; omega)
    have k4 : (x.Cuts++x.Forms).length≤1000:=by simp; omega
    simp only [Bool.not_false,Bool.not_true,if_true,Bool.false_eq_true,if_false,Option.bind_some,i0,low_loop x (by omega),least_eq x (by omega) hr,ov3 x (by omega),rov3 x (by omega),c1,c2]
    generalize x.Rects[0]'(by omega)=r0 at hr i0 ⊢
    by_cases m1 : lowX x.Rects r0.X=0
    · by_cases m2 : lowY x.Rects r0.Y=0
      · simp only [m1,m2,bne_self_eq_false,Bool.false_eq_true,if_false,Option.bind_some]
        cases (List.range x.Rects.length).any (pairB overl x.Rects) with
        | true=>exact ⟨7,rfl,rfl,fun h=>absurd h (by decide)⟩
        | false =>
        cases cn with
        | false=>exact ⟨6,rfl,rfl,fun h=>absurd h (by decide)⟩
        | true =>
        simp only [Bool.not_true,Bool.false_eq_true,if_false,Option.bind_some]
        unfold nest_inside
        simp only [ap1,ap2,Option.bind_some,hole_loop x _ k4 (show x.Rects.length≤1000 by omega),rhole_loop x _ k4 (show x.Rects.length≤1000 by omega),in3 _ k4,rin3 _ k4]
        cases v4 : (List.range (x.Cuts++x.Forms).length).any (badHole x (x.Cuts++x.Forms)) with
        | true=>exact ⟨13,rfl,rfl,fun h=>absurd h (by decide)⟩
        | false =>
        cases (List.range (x.Cuts++x.Forms).length).any (pairB zeroD (x.Cuts++x.Forms)) with
        | true=>exact ⟨7,rfl,rfl,fun h=>absurd h (by decide)⟩
        | false=>exact ⟨0,rfl,rfl,fun _=>vp_of k1 (by omega) k2 k3 v1 v2 v3 v4 hr m1 m2⟩
      · have m2' : (lowY x.Rects r0.Y != 0)=true:=by rw [bne_iff_ne]; exact m2
        simp only [m1,m2',bne_self_eq_false,Bool.false_eq_true,if_false,Option.bind_some,if_true]
        exact ⟨1,rfl,rfl,fun h=>absurd h (by decide)⟩
    · have m1' : (lowX x.Rects r0.X != 0)=true:=by rw [bne_iff_ne]; exact m1
      simp only [m1',Option.bind_some,if_true]
      exact ⟨1,rfl,rfl,fun h=>absurd h (by decide)⟩
  · exact ⟨1,by simp only [h1,decide_false]; rfl,by simp only [h1,if_false]; rfl,fun h=>absurd h (by decide)⟩
end Go.SM
