/- Pieces: both say the same of each. -/
import Derived.Test.YtgfjbgoehhnaeaaGreatCzTouch
set_option linter.unusedVariables false
set_option linter.unusedSimpArgs false
set_option linter.unusedSectionVars false
namespace Go.SM
open Go Go.VI
def deepB (h x : Rect) : Bool:=if h.X > x.X then (if h.Y > x.Y then (if iadd h.X h.W < iadd x.X x.W then decide (iadd h.Y h.H < iadd x.Y x.H) else false) else false) else false
theorem strictly_eq (h : Rect) (l : List Rect) (hl : l.length≤1000) : nest_strictly h l=some (l.any (deepB h)):=by
  have key : loopT (nest_strictly_l1 h l) 0=some (if l.any (deepB h) then .inl () else .inr ()):=by
    refine loop_anyS l (nest_strictly_l1 h l) (fun k=>(k : Int)) _ _ _ rfl (fun k x hx=>?_) ?_
    · have hk:=(List.getElem?_eq_some_iff.1 hx).1
      unfold nest_strictly_l1
      have h1 : decide ((k : Int) < (l.length : Int))=true:=by simp; omega
      simp only [h1,if_true,idx_of hx,Option.bind_some]
      rw [iadd_eq (a:=(k : Int)) (by omega) (by omega)]
      unfold deepB
      by_cases q1 : h.X > x.X
      · by_cases q2 : h.Y > x.Y
        · by_cases q3 : iadd h.X h.W < iadd x.X x.W
          · by_cases q4 : iadd h.Y h.H < iadd x.Y x.H <;> simp [q1,q2,q3,q4]
          · simp [q1,q2,q3]
        · simp [q1,q2]
      · simp [q1]
    · simp [nest_strictly_l1]
  unfold nest_strictly
  rw [key]
  cases l.any (deepB h) <;> rfl
theorem deep_eq (h : Rect) (l : List Rect) (hl : l.length≤1000) : sheetmetalref06_deep h l=some (l.any (deepB h)):=by
  have key : loopT (sheetmetalref06_deep_l1 h l) 0=some (if l.any (deepB h) then .inl () else .inr ()):=by
    refine loop_anyS l (sheetmetalref06_deep_l1 h l) (fun k=>(k : Int)) _ _ _ rfl (fun k x hx=>?_) ?_
    · have hk:=(List.getElem?_eq_some_iff.1 hx).1
      unfold sheetmetalref06_deep_l1
      have h1 : decide ((k : Int) < (l.length : Int))=true:=by simp; omega
      simp only [h1,if_true,idx_of hx,Option.bind_some]
      rw [iadd_eq (a:=(k : Int)) (by omega) (by omega)]
      unfold deepB
      by_cases q1 : h.X > x.X
      · by_cases q2 : h.Y > x.Y
        · by_cases q3 : iadd h.X h.W < iadd x.X x.W
          · by_cases q4 : iadd h.Y h.H < iadd x.Y x.H <;> simp [q1,q2,q3,q4]
          · simp [q1,q2,q3]
        · simp [q1,q2]
      · simp [q1]
    · simp [sheetmetalref06_deep_l1]
  unfold sheetmetalref06_deep
  rw [key]
  cases l.any (deepB h) <;> rfl
def badHole (x0 : Piece) (l : List Rect) (k : Nat) : Bool:=match l[k]? with
  | some x=>!(x0.Rects.any (deepB x)) || (decide ((k : Int) < (x0.Cuts.length : Int))&&((x.W==1) || (x.H==1)))
  | none=>false
theorem hole_loop (x0 : Piece) (l : List Rect) (hl : l.length≤1000) (hr : x0.Rects.length≤1000) : loopT (nest_inside_l1 x0 l) 0=some (if (List.range l.length).any (badHole x0 l) then .inl () else .inr ()):=by
  refine loop_rng l.length (nest_inside_l1 x0 l) (fun k=>(k : Int)) _ _ _ rfl (fun k hk=>?_) ?_
  · have hx : l[k]?=some l[k]:=by simp
    unfold nest_inside_l1 badHole
    have h1 : decide ((k : Int) < (l.length : Int))=true:=by simp; omega
    simp only [h1,if_true,idx_of hx,hx,Option.bind_some,strictly_eq _ _ hr]
    rw [iadd_eq (a:=(k : Int)) (by omega) (by omega)]
    by_cases q1 : (k : Int) < (x0.Cuts.length : Int)
    · cases q2 : (l[k].W==1)
      · cases q3 : (l[k].H==1)
        · cases x0.Rects.any (deepB l[k]) <;> simp [q1,q2,q3]
        · cases x0.Rects.any (deepB l[k]) <;> simp [q1,q2,q3]
      · cases x0.Rects.any (deepB l[k]) <;> simp [q1,q2]
    · cases x0.Rects.any (deepB l[k]) <;> simp [q1]
  · simp [nest_inside_l1]
theorem rhole_loop (x0 : Piece) (l : List Rect) (hl : l.length≤1000) (hr : x0.Rects.length≤1000) : loopT (sheetmetalref06_ValidatePiece_l2 x0 l) 0=some (if (List.range l.length).any (badHole x0 l) then .inl () else .inr ()):=by
  refine loop_rng l.length (sheetmetalref06_ValidatePiece_l2 x0 l) (fun k=>(k : Int)) _ _ _ rfl (fun k hk=>?_) ?_
  · have hx : l[k]?=some l[k]:=by simp
    unfold sheetmetalref06_ValidatePiece_l2 badHole
    have h1 : decide ((k : Int) < (l.length : Int))=true:=by simp; omega
    simp only [h1,if_true,idx_of hx,hx,Option.bind_some,deep_eq _ _ hr]
    rw [iadd_eq (a:=(k : Int)) (by omega) (by omega)]
    by_cases q1 : (k : Int) < (x0.Cuts.length : Int)
    · cases q2 : (l[k].W==1)
      · cases q3 : (l[k].H==1)
        · cases x0.Rects.any (deepB l[k]) <;> simp [q1,q2,q3]
        · cases x0.Rects.any (deepB l[k]) <;> simp [q1,q2,q3]
      · cases x0.Rects.any (deepB l[k]) <;> simp [q1,q2]
    · cases x0.Rects.any (deepB l[k]) <;> simp [q1]
  · simp [sheetmetalref06_ValidatePiece_l2]
def pairB (p : Rect→Rect→Bool) (l : List Rect) (k : Nat) : Bool:=match l[k]? with
  | some x=>(l.take k).any (p x)
  | none=>false
def zeroD (x y : Rect) : Bool:=distR x y==0
def overl (x y : Rect) : Bool:=decide (ovR x y)
theorem slc_take {l : List Rect} {k : Nat} (h : k≤l.length) : slc l 0 (k : Int)=some (l.take k):=by
  unfold slc; rw [if_pos (by omega)]; simp
theorem in2 (x : Rect) (l : List Rect) (hl : l.length≤1000) : loopT (nest_inside_l2 x l) 0=some (if l.any (zeroD x) then .inl () else .inr ()):=by
  refine loop_anyS l (nest_inside_l2 x l) (fun k=>(k : Int)) _ _ _ rfl (fun k y hy=>?_) ?_
  · have hk:=(List.getElem?_eq_some_iff.1 hy).1
    unfold nest_inside_l2
    have h1 : decide ((k : Int) < (l.length : Int))=true:=by simp; omega
    simp only [h1,if_true,idx_of hy,Option.bind_some,Distance_eq]
    rw [iadd_eq (a:=(k : Int)) (by omega) (by omega)]
    rfl
  · simp [nest_inside_l2]
theorem in3 (l : List Rect) (hl : l.length≤1000) : loopT (nest_inside_l3 l) 0=some (if (List.range l.length).any (pairB zeroD l) then .inl () else .inr ()):=by
  refine loop_rng l.length (nest_inside_l3 l) (fun k=>(k : Int)) _ _ _ rfl (fun k hk=>?_) ?_
  · have hx : l[k]?=some l[k]:=by simp
    unfold nest_inside_l3 pairB
    have h1 : decide ((k : Int) < (l.length : Int))=true:=by simp; omega
    simp only [h1,if_true,idx_of hx,hx,Option.bind_some,slc_take (Nat.le_of_lt hk),in2 _ (l.take k) (by simp; omega)]
    rw [iadd_eq (a:=(k : Int)) (by omega) (by omega)]
    cases (l.take k).any (zeroD l[k]) <;> simp
  · simp [nest_inside_l3]
theorem rin3 (l : List Rect) (hl : l.length≤1000) : loopT (sheetmetalref06_ValidatePiece_l4 l) 0=some (if (List.range l.length).any (pairB zeroD l) then .inl () else .inr ()):=by
  have inner : ∀ (k : Nat) (hk : k < l.length),loopT (sheetmetalref06_ValidatePiece_l3 l (k : Int)) 0=some (if (l.take k).any (zeroD l[k]) then .inl () else .inr ()):=by
    intro k hk
    have hx : l[k]?=some l[k]:=by simp
    refine loop_anyS (l.take k) (sheetmetalref06_ValidatePiece_l3 l (k : Int)) (fun k=>(k : Int)) _ _ _ rfl (fun j y hy=>?_) ?_
    · have hj:=(List.getElem?_eq_some_iff.1 hy).1
      rw [List.length_take] at hj
      have hy' : l[j]?=some y:=by rw [List.getElem?_take] at hy; simpa [show j < k by omega] using hy
      unfold sheetmetalref06_ValidatePiece_l3
      have h1 : decide ((j : Int) < (k : Int))=true:=by simp; omega
      simp only [h1,if_true,idx_of hx,idx_of hy',Option.bind_some,Apart_eq]
      rw [iadd_eq (a:=(j : Int)) (by omega) (by omega)]
      rfl
    · have : (l.take k).length=k:=by simp; omega
      simp [sheetmetalref06_ValidatePiece_l3,this]
  refine loop_rng l.length (sheetmetalref06_ValidatePiece_l4 l) (fun k=>(k : Int)) _ _ _ rfl (fun k hk=>?_) ?_
  · have hx : l[k]?=some l[k]:=by simp
    unfold sheetmetalref06_ValidatePiece_l4 pairB
    have h1 : decide ((k : Int) < (l.length : Int))=true:=by simp; omega
    simp only [h1,if_true,hx,Option.bind_some,inner k hk]
    rw [iadd_eq (a:=(k : Int)) (by omega) (by omega)]
    cases (l.take k).any (zeroD l[k]) <;> simp
  · simp [sheetmetalref06_ValidatePiece_l4]
theorem ov2 (x : Rect) (l : List Rect) (hl : l.length≤1000) : loopT (nest_ValidatePiece_l2 x l) 0=some (if l.any (overl x) then .inl () else .inr ()):=by
  refine loop_anyS l (nest_ValidatePiece_l2 x l) (fun k=>(k : Int)) _ _ _ rfl (fun k y hy=>?_) ?_
  · have hk:=(List.getElem?_eq_some_iff.1 hy).1
    unfold nest_ValidatePiece_l2
    have h1 : decide ((k : Int) < (l.length : Int))=true:=by simp; omega
    simp only [h1,if_true,idx_of hy,Option.bind_some,Overlap_eq]
    rw [iadd_eq (a:=(k : Int)) (by omega) (by omega)]
    rfl
  · simp [nest_ValidatePiece_l2]
theorem ov3 (x0 : Piece) (hl : x0.Rects.length≤1000) : loopT (nest_ValidatePiece_l3 x0) 0=some (if (List.range x0.Rects.length).any (pairB overl x0.Rects) then .inl () else .inr ()):=by
  refine loop_rng x0.Rects.length (nest_ValidatePiece_l3 x0) (fun k=>(k : Int)) _ _ _ rfl (fun k hk=>?_) ?_
  · have hx : x0.Rects[k]?=some x0.Rects[k]:=by simp
    unfold nest_ValidatePiece_l3 pairB
    have h1 : decide ((k : Int) < (x0.Rects.length : Int))=true:=by simp; omega
    simp only [h1,if_true,idx_of hx,hx,Option.bind_some,slc_take (Nat.le_of_lt hk),ov2 _ (x0.Rects.take k) (by simp; omega)]
    rw [iadd_eq (a:=(k : Int)) (by omega) (by omega)]
    cases (x0.Rects.take k).any (overl x0.Rects[k]) <;> simp
  · simp [nest_ValidatePiece_l3]
theorem Meets_eq (x : Rect) (l : List Rect) (hl : l.length≤1000) : sheetmetalref06_Meets x l=some (l.any (overl x)):=by
  have key : loopT (sheetmetalref06_Meets_l1 x l) 0=some (if l.any (overl x) then .inl () else .inr ()):=by
    refine loop_anyS l (sheetmetalref06_Meets_l1 x l) (fun k=>(k : Int)) _ _ _ rfl (fun k y hy=>?_) ?_
    · have hk:=(List.getElem?_eq_some_iff.1 hy).1
      unfold sheetmetalref06_Meets_l1
      have h1 : decide ((k : Int) < (l.length : Int))=true:=by simp; omega
      simp only [h1,if_true,idx_of hy,Option.bind_some,Overlaps_eq]
      rw [iadd_eq (a:=(k : Int)) (by omega) (by omega)]
      rfl
    · simp [sheetmetalref06_Meets_l1]
  unfold sheetmetalref06_Meets
  rw [key]
  cases l.any (overl x) <;> rfl
theorem rov3 (x0 : Piece) (hl : x0.Rects.length≤1000) : loopT (sheetmetalref06_ValidatePiece_l1 x0) 0=some (if (List.range x0.Rects.length).any (pairB overl x0.Rects) then .inl () else .inr ()):=by
  refine loop_rng x0.Rects.length (sheetmetalref06_ValidatePiece_l1 x0) (fun k=>(k : Int)) _ _ _ rfl (fun k hk=>?_) ?_
  · have hx : x0.Rects[k]?=some x0.Rects[k]:=by simp
    unfold sheetmetalref06_ValidatePiece_l1 pairB
    have h1 : decide ((k : Int) < (x0.Rects.length : Int))=true:=by simp; omega
    simp only [h1,if_true,idx_of hx,hx,Option.bind_some,slc_take (Nat.le_of_lt hk),Meets_eq _ (x0.Rects.take k) (by simp; omega)]
    rw [iadd_eq (a:=(k : Int)) (by omega) (by omega)]
    rfl
  · simp [sheetmetalref06_ValidatePiece_l1]
def lowX (l : List Rect) (a : Int) : Int:=l.foldl (fun s r=>min s r.X) a
def lowY (l : List Rect) (a : Int) : Int:=l.foldl (fun s r=>min s r.Y) a
theorem low_loop (x0 : Piece) (hl : x0.Rects.length≤1000) (a b : Int) : loopT (nest_ValidatePiece_l1 x0) (a,b,0)=some (lowX x0.Rects a,lowY x0.Rects b):=by
  refine loop_fold x0.Rects (nest_ValidatePiece_l1 x0) (fun k=>(lowX (x0.Rects.take k) a,lowY (x0.Rects.take k) b,(k : Int))) _ (fun k r hr=>?_) ?_
  · have hk:=(List.getElem?_eq_some_iff.1 hr).1
    unfold nest_ValidatePiece_l1
    have h1 : decide ((k : Int) < (x0.Rects.length : Int))=true:=by simp; omega
    have e : x0.Rects.take (k+1)=x0.Rects.take k++[r]:=by rw [List.take_add_one,hr]; rfl
    simp only [h1,if_true,idx_of hr,Option.bind_some,e,imin_eq]
    rw [iadd_eq (a:=(k : Int)) (by omega) (by omega)]
    unfold lowX lowY
    rw [List.foldl_append,List.foldl_append]
    rfl
  · simp [nest_ValidatePiece_l1]
theorem least_body (x0 : Piece) : sheetmetalref06_least_l1 x0.Rects=nest_ValidatePiece_l1 x0:=by
  funext s
  unfold sheetmetalref06_least_l1 nest_ValidatePiece_l1
  cases idx x0.Rects s.2.2 <;> rfl
theorem least_eq (x0 : Piece) (hl : x0.Rects.length≤1000) {r : Rect} (hr : x0.Rects[0]?=some r) : sheetmetalref06_least x0.Rects=some (lowX x0.Rects r.X,lowY x0.Rects r.Y):=by
  unfold sheetmetalref06_least
  have i0 : idx x0.Rects 0=some r:=idx_of (k:=0) hr
  have hk:=(List.getElem?_eq_some_iff.1 hr).1
  have h1 : loopT (nest_ValidatePiece_l1 x0) (r.X,r.Y,0)=loopT (nest_ValidatePiece_l1 x0) (r.X,r.Y,1):=by
    refine loop_in ?_
    unfold nest_ValidatePiece_l1
    have hd : decide ((0 : Int) < (x0.Rects.length : Int))=true:=by simp; omega
    simp only [hd,if_true,i0,Option.bind_some,imin_eq,Int.min_self]
    rfl
  rw [i0,least_body]
  simp only [Option.bind_some]
  rw [← h1,low_loop x0 hl]
  rfl
theorem Piece_same (x : Piece) : ∃ b,nest_ValidatePiece x=some b∧sheetmetalref06_ValidatePiece x=some b:=by
  obtain ⟨a,ha,ha'⟩:=Name_same x.Name
  obtain ⟨b,hb,hb'⟩:=Name_same x.Material
  unfold nest_ValidatePiece sheetmetalref06_ValidatePiece
  rw [ha,hb,stuff_eq ha' hb']
  cases a with
  | false=>exact ⟨2,rfl,rfl⟩
  | true =>
  cases b with
  | false=>exact ⟨2,rfl,rfl⟩
  | true =>
  simp only [Option.bind_some,plain_eq,Bool.and_self,if_true,Bool.not_true,Bool.false_eq_true,if_false]
  by_cases h1 : (1≤x.Gauge∧x.Gauge≤60)∧0≤x.Grain∧x.Grain≤2
  · simp only [h1,and_self,decide_true,if_true,Option.bind_some,Bool.not_true,Bool.false_eq_true,if_false,bne_self_eq_false]
    by_cases l1 : (x.Rects.length : Int) > 12
    · exact ⟨4,by simp [l1],by simp [l1]⟩
    by_cases l2 : (x.Cuts.length : Int) > 12
    · exact ⟨4,by simp [l2],by simp [l2]⟩
    by_cases l3 : (x.Forms.length : Int) > 12
    · exact ⟨4,by simp [l3],by simp [l3]⟩
    have k1 : x.Rects.length≤12:=by omega
    have k2 : x.Cuts.length≤12:=by omega
    have k3 : x.Forms.length≤12:=by omega
    simp only [l1,l2,l3,decide_false,Bool.false_eq_true,if_false,Option.bind_some]
    by_cases h0 : (x.Rects.length : Int)=0
    · exact ⟨1,by simp [h0],by simp [h0]⟩
    have h0' : ((x.Rects.length : Int)==0)=false:=by rw [beq_eq_false_iff_ne]; exact h0
    simp only [h0',Bool.false_eq_true,if_false,valid_eq x.Rects (by omega),valid_eq x.Cuts (by omega),valid_eq x.Forms (by omega),Rights_eq x.Rects (by omega),Rights_eq x.Cuts (by omega),Rights_eq x.Forms (by omega),Option.bind_some]
    cases (x.Rects.any fun x=>!decide (vR x)) with
    | true=>exact ⟨1,rfl,rfl⟩
    | false =>
    cases (x.Cuts.any fun x=>!decide (vR x)) with
    | true=>exact ⟨1,rfl,rfl⟩
    | false =>
    cases (x.Forms.any fun x=>!decide (vR x)) with
    | true=>exact ⟨1,rfl,rfl⟩
    | false =>
    have hr : x.Rects[0]?=some (x.Rects[0]'(by omega)):=by simp [show 0 < x.Rects.length by omega]
    have i0 : idx x.Rects 0=some (x.Rects[0]'(by omega)):=idx_of (k:=0) hr
    obtain ⟨cn,c1,c2⟩:=connected_same (l:=x.Rects) (by omega) (by omega)
    have ap1 : app [] x.Cuts=some x.Cuts:=by rw [app_eq (by unfold LIM; simp; omega)]; rfl
    have ap2 : app x.Cuts x.Forms=some (x.Cuts++x.Forms):=app_eq (by unfold LIM; omega)
    have k4 : (x.Cuts++x.Forms).length≤1000:=by simp; omega
    simp only [Bool.not_false,Bool.not_true,if_true,Bool.false_eq_true,if_false,Option.bind_some,i0,low_loop x (by omega),least_eq x (by omega) hr,ov3 x (by omega),rov3 x (by omega),c1,c2]
    generalize x.Rects[0]'(by omega)=r0
    by_cases m1 : lowX x.Rects r0.X=0
    · by_cases m2 : lowY x.Rects r0.Y=0
      · simp only [m1,m2,bne_self_eq_false,Bool.false_eq_true,if_false,Option.bind_some]
        cases (List.range x.Rects.length).any (pairB overl x.Rects) with
        | true=>exact ⟨7,rfl,rfl⟩
        | false =>
        cases cn with
        | false=>exact ⟨6,rfl,rfl⟩
        | true =>
        simp only [Bool.not_true,Bool.false_eq_true,if_false,Option.bind_some]
        unfold nest_inside
        simp only [ap1,ap2,Option.bind_some,hole_loop x _ k4 (show x.Rects.length≤1000 by omega),rhole_loop x _ k4 (show x.Rects.length≤1000 by omega),in3 _ k4,rin3 _ k4]
        cases (List.range (x.Cuts++x.Forms).length).any (badHole x (x.Cuts++x.Forms)) with
        | true=>exact ⟨13,rfl,rfl⟩
        | false =>
        cases (List.range (x.Cuts++x.Forms).length).any (pairB zeroD (x.Cuts++x.Forms)) with
        | true=>exact ⟨7,rfl,rfl⟩
        | false=>exact ⟨0,rfl,rfl⟩
      · have m2' : (lowY x.Rects r0.Y != 0)=true:=by rw [bne_iff_ne]; exact m2
        simp only [m1,m2',bne_self_eq_false,Bool.false_eq_true,if_false,Option.bind_some,if_true]
        exact ⟨1,rfl,rfl⟩
    · have m1' : (lowX x.Rects r0.X != 0)=true:=by rw [bne_iff_ne]; exact m1
      simp only [m1',Option.bind_some,if_true]
      exact ⟨1,rfl,rfl⟩
  · exact ⟨1,by simp only [h1,decide_false]; rfl,by simp only [h1,if_false]; rfl⟩
end Go.SM
