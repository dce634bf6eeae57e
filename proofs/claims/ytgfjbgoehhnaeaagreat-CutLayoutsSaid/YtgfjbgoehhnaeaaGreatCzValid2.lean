/- Layouts: both say the same of each. The law CutValidates, on the models. -/
import Derived.Test.YtgfjbgoehhnaeaaGreatCzPiece
import Derived.Test.YtgfjbgoehhnaeaaGreatCzK
set_option linter.unusedVariables false
set_option linter.unusedSimpArgs false
set_option linter.unusedSectionVars false
namespace Go.SM
open Go Go.VI
theorem Sheet_lens {s : Sheet} (h : nest_ValidateSheet s=some 0) : s.Clamps.length≤4∧s.Used.length≤48:=by
  obtain ⟨a,ha,_⟩:=Name_same s.Name
  obtain ⟨b,hb,_⟩:=Name_same s.Material
  unfold nest_ValidateSheet at h
  rw [ha,hb] at h
  cases a with
  | false=>exact absurd (Option.some.inj h) (by decide)
  | true =>
  cases b with
  | false=>exact absurd (Option.some.inj h) (by decide)
  | true =>
  simp only [Option.bind_some,plain_eq,from_eq,if_true,Bool.not_true,Bool.false_eq_true,if_false] at h
  generalize decide ((1≤s.Gauge∧s.Gauge≤60)∧0≤s.Grain∧s.Grain≤2)=g1 at h
  generalize decide (1≤s.Width∧s.Width≤1048576)=g2 at h
  generalize decide (1≤s.Height∧s.Height≤1048576)=g3 at h
  by_cases h4 : (s.Clamps.length : Int) > 4
  · simp only [h4,decide_true,if_true,Option.bind_some] at h
    cases g1 <;> cases g2 <;> cases g3 <;> exact absurd (Option.some.inj h) (by decide)
  by_cases h5 : (s.Used.length : Int) > 48
  · simp only [h4,h5,decide_false,decide_true,if_true,Bool.false_eq_true,if_false,Option.bind_some] at h
    cases g1 <;> cases g2 <;> cases g3 <;> exact absurd (Option.some.inj h) (by decide)
  omega
theorem slc_takeA {α : Type} {l : List α} {k : Nat} (h : k≤l.length) : slc l 0 (k : Int)=some (l.take k):=by
  unfold slc; rw [if_pos (by omega)]; simp
theorem foldl_le {l : List Rect} {g : Rect→Int} : ∀ {a : Int},l.foldl (fun s r=>min s (g r)) a≤a∧∀ r ∈ l,l.foldl (fun s r=>min s (g r)) a≤g r:=by
  induction l with
  | nil=>intro a; exact ⟨Int.le_refl _,fun r hr=>absurd hr (by simp)⟩
  | cons x l ih =>
    intro a
    obtain ⟨h1,h2⟩:=ih (a:=min a (g x))
    refine ⟨by simp only [List.foldl_cons]; omega,fun r hr=>?_⟩
    simp only [List.foldl_cons]
    rcases List.mem_cons.1 hr with rfl | hr
    · omega
    · exact h2 r hr
theorem foldl_mem {l : List Rect} {g : Rect→Int} : ∀ {a : Int},l.foldl (fun s r=>min s (g r)) a=a∨∃ r ∈ l,l.foldl (fun s r=>min s (g r)) a=g r:=by
  induction l with
  | nil=>intro a; exact .inl rfl
  | cons x l ih =>
    intro a
    simp only [List.foldl_cons]
    rcases ih (a:=min a (g x)) with h | ⟨r,hr,h⟩
    · rw [h]
      by_cases hx : a≤g x
      · left; omega
      · right; exact ⟨x,by simp,by omega⟩
    · exact .inr ⟨r,by simp [hr],h⟩
def bkR (x y : Int) (r : Rect) : Rect:=if r.X < -4194304∨r.X > 4194304∨r.Y < -4194304∨r.Y > 4194304 then ⟨r.X,r.Y,0,r.H⟩ else ⟨isub r.X x,isub r.Y y,r.W,r.H⟩
theorem back_eq {l : List Rect} (hl : l.length≤1048576) (x y : Int) : cut_back l x y=some (l.map (bkR x y)):=by
  unfold cut_back slices_Clone_Lapi_Rect_api_Rect
  rw [app_eq (by unfold LIM; simp; omega)]
  simp only [List.nil_append,Option.bind_some]
  have key : loopT (cut_back_l2 x y l) (0,l)=some (l.map (bkR x y)):=by
    refine loop_fold l (cut_back_l2 x y l) (fun k=>((k : Int),(l.take k).map (bkR x y)++l.drop k)) _ (fun k r hr=>?_) ?_
    · have hk:=(List.getElem?_eq_some_iff.1 hr).1
      have h1 : decide ((k : Int) < (l.length : Int))=true:=by simp; omega
      have ht : ((l.take k).map (bkR x y)).length=k:=by simp; omega
      have ed : l.drop k=r::l.drop (k+1):=by rw [List.drop_eq_getElem_cons hk]; congr 1; exact (List.getElem?_eq_some_iff.1 hr).2
      have g1 : ∀ z : Rect,((l.take k).map (bkR x y)++z::l.drop (k+1))[k]?=some z:=fun z=>by rw [List.getElem?_append_right (by omega),ht]; simp
      have i1 : ∀ z : Rect,idx ((l.take k).map (bkR x y)++z::l.drop (k+1)) (k : Int)=some z:=fun z=>idx_of (g1 z)
      have s1 : ∀ z z' : Rect,List.set ((l.take k).map (bkR x y)++z::l.drop (k+1)) k z'=(l.take k).map (bkR x y)++z'::l.drop (k+1):=fun z z'=>by rw [List.set_append_right _ _ (by omega),ht]; simp
      have e : l.take (k+1)=l.take k++[r]:=by rw [List.take_add_one,hr]; rfl
      unfold cut_back_l2 cut_back_k1
      simp only [h1,if_true,ed,i1,g1,s1,Option.bind_some,Int.toNat_natCast]
      rw [iadd_eq (a:=(k : Int)) (by omega) (by omega),e,List.map_append,List.append_assoc]
      by_cases q1 : r.X < -4194304
      · simp [q1,bkR]
      · by_cases q2 : r.X > 4194304
        · simp [q1,q2,bkR]
        · by_cases q3 : r.Y < -4194304
          · simp [q1,q2,q3,bkR]
          · by_cases q4 : r.Y > 4194304
            · simp [q1,q2,q3,q4,bkR]
            · simp [q1,q2,q3,q4,bkR]
    · simp [cut_back_l2]
  rw [key]
  rfl
theorem base_loop (x0 : Piece) (hl : x0.Rects.length≤1048576) (a b : Int) : loopT (cut_pieceError_l2 x0) (a,b,0)=some (lowX x0.Rects a,lowY x0.Rects b):=by
  refine loop_fold x0.Rects (cut_pieceError_l2 x0) (fun k=>(lowX (x0.Rects.take k) a,lowY (x0.Rects.take k) b,(k : Int))) _ (fun k r hr=>?_) ?_
  · have hk:=(List.getElem?_eq_some_iff.1 hr).1
    unfold cut_pieceError_l2
    have h1 : decide ((k : Int) < (x0.Rects.length : Int))=true:=by simp; omega
    have e : x0.Rects.take (k+1)=x0.Rects.take k++[r]:=by rw [List.take_add_one,hr]; rfl
    simp only [h1,if_true,idx_of hr,Option.bind_some,e,imin_eq]
    rw [iadd_eq (a:=(k : Int)) (by omega) (by omega)]
    unfold lowX lowY
    rw [List.foldl_append,List.foldl_append]
    rfl
  · simp [cut_pieceError_l2]
theorem meets_eq (r : Rect) {l : List Rect} (hl : l.length≤1000) : cut_meets r l=some (l.any (overl r)):=by
  have key : ∃ z,loopT (slices_IndexFunc_Lapi_Rect_api_Rect__cut_meets_1_l1 l r.X r.Y r.W r.H) 0=some z∧((∃ k : Nat,z=.inl (k : Int))∧l.any (overl r)=true∨z=.inr ()∧l.any (overl r)=false):=by
    have go : ∀ (m k : Nat),k+m=l.length→(∀ y ∈ l.take k,overl r y=false)→∃ z,loopT (slices_IndexFunc_Lapi_Rect_api_Rect__cut_meets_1_l1 l r.X r.Y r.W r.H) (k : Int)=some z∧((∃ k : Nat,z=.inl (k : Int))∧l.any (overl r)=true∨z=.inr ()∧l.any (overl r)=false):=by
      intro m
      induction m with
      | zero =>
        intro k h hb
        obtain rfl : k=l.length:=by omega
        rw [List.take_length] at hb
        exact ⟨.inr (),loop_out (by simp [slices_IndexFunc_Lapi_Rect_api_Rect__cut_meets_1_l1]),.inr ⟨rfl,List.any_eq_false.2 fun y hy=>by simp [hb y hy]⟩⟩
      | succ m ih =>
        intro k h hb
        have hx : l[k]?=some (l[k]'(by omega)):=by simp [show k < l.length by omega]
        have hd : decide ((k : Int) < (l.length : Int))=true:=by simp; omega
        have hm : cut_meets_1 (l[k]'(by omega)) r.X r.Y r.W r.H=some (overl r (l[k]'(by omega))):=by
          unfold cut_meets_1
          rw [Overlap_eq]; rfl
        by_cases ho : overl r (l[k]'(by omega))=true
        · refine ⟨.inl (k : Int),loop_out ?_,.inl ⟨⟨k,rfl⟩,List.any_eq_true.2 ⟨_,List.mem_of_getElem? hx,ho⟩⟩⟩
          unfold slices_IndexFunc_Lapi_Rect_api_Rect__cut_meets_1_l1
          simp only [hd,if_true,idx_of hx,Option.bind_some,hm,ho]
        · have ho' : overl r (l[k]'(by omega))=false:=by simpa using ho
          rw [loop_in (s':=((k+1 : Nat) : Int))]
          · refine ih (k+1) (by omega) fun y hy=>?_
            rw [List.take_add_one,hx] at hy
            rcases List.mem_append.1 hy with hy | hy
            · exact hb y hy
            · simp at hy; rw [hy]; exact ho'
          · unfold slices_IndexFunc_Lapi_Rect_api_Rect__cut_meets_1_l1
            simp only [hd,if_true,idx_of hx,Option.bind_some,hm,ho',Bool.false_eq_true,if_false]
            rw [iadd_eq (by omega) (by omega)]; rfl
    exact go l.length 0 (by omega) (by simp)
  obtain ⟨z,hz,h⟩:=key
  unfold cut_meets slices_ContainsFunc_Lapi_Rect_api_Rect__cut_meets_1 slices_IndexFunc_Lapi_Rect_api_Rect__cut_meets_1
  rw [hz]
  rcases h with ⟨⟨k,rfl⟩,h⟩ | ⟨rfl,h⟩
  · rw [h]
    have : decide ((k : Int) ≥ 0)=true:=by simp
    simp only [Option.bind_some,this]
  · rw [h]; rfl
def offS (s : Sheet) (y : Rect) : Bool:=!(decide (inRect y ⟨0,0,s.Width,s.Height⟩)) || (s.Clamps.any (overl y) || s.Used.any (overl y))
theorem l2_eq (l : LayoutT) (x : Piece) (hx : x.Rects.length≤12) (h1 : l.Sheet.Clamps.length≤4) (h2 : l.Sheet.Used.length≤48) : loopT (cut_Validate_l2 l x) 0=some (if x.Rects.any (offS l.Sheet) then .inl () else .inr ()):=by
  refine loop_anyS x.Rects (cut_Validate_l2 l x) (fun k=>(k : Int)) _ _ _ rfl (fun k y hy=>?_) ?_
  · have hk:=(List.getElem?_eq_some_iff.1 hy).1
    unfold cut_Validate_l2 offS
    have hd : decide ((k : Int) < (x.Rects.length : Int))=true:=by simp; omega
    simp only [hd,if_true,idx_of hy,Option.bind_some,Inside_eq,meets_eq y (show l.Sheet.Clamps.length≤1000 by omega),meets_eq y (show l.Sheet.Used.length≤1000 by omega)]
    rw [iadd_eq (a:=(k : Int)) (by omega) (by omega)]
    cases decide (inRect y ⟨0,0,l.Sheet.Width,l.Sheet.Height⟩) <;> cases l.Sheet.Clamps.any (overl y) <;> cases l.Sheet.Used.any (overl y) <;> rfl
  · simp [cut_Validate_l2]
theorem l3_eq (l : LayoutT) (hp : l.Pieces.length≤8) (hx : ∀ x ∈ l.Pieces,x.Rects.length≤12) (h1 : l.Sheet.Clamps.length≤4) (h2 : l.Sheet.Used.length≤48) : loopT (cut_Validate_l3 l) 0=some (if l.Pieces.any (fun x=>x.Rects.any (offS l.Sheet)) then .inl () else .inr ()):=by
  refine loop_anyS l.Pieces (cut_Validate_l3 l) (fun k=>(k : Int)) _ _ _ rfl (fun k y hy=>?_) ?_
  · have hk:=(List.getElem?_eq_some_iff.1 hy).1
    unfold cut_Validate_l3
    have hd : decide ((k : Int) < (l.Pieces.length : Int))=true:=by simp; omega
    simp only [hd,if_true,idx_of hy,Option.bind_some,l2_eq l y (hx y (List.mem_of_getElem? hy)) h1 h2]
    rw [iadd_eq (a:=(k : Int)) (by omega) (by omega)]
    cases y.Rects.any (offS l.Sheet) <;> rfl
  · simp [cut_Validate_l3]
def hitP (x y : Piece) : Bool:=x.Rects.any fun r=>y.Rects.any (overl r)
def hitK (l : List Piece) (k : Nat) : Bool:=match l[k]? with
  | some x=>(l.take k).any (hitP x)
  | none=>false
theorem l4_eq (x y : Piece) (hx : x.Rects.length≤12) (hy : y.Rects.length≤12) : loopT (cut_Validate_l4 x y) 0=some (if hitP x y then .inl () else .inr ()):=by
  refine loop_anyS x.Rects (cut_Validate_l4 x y) (fun k=>(k : Int)) _ _ _ rfl (fun k r hr=>?_) ?_
  · have hk:=(List.getElem?_eq_some_iff.1 hr).1
    unfold cut_Validate_l4
    have hd : decide ((k : Int) < (x.Rects.length : Int))=true:=by simp; omega
    simp only [hd,if_true,idx_of hr,Option.bind_some,meets_eq r (show y.Rects.length≤1000 by omega)]
    rw [iadd_eq (a:=(k : Int)) (by omega) (by omega)]
    rfl
  · simp [cut_Validate_l4]
theorem l6_eq (l : LayoutT) (hp : l.Pieces.length≤8) (hx : ∀ x ∈ l.Pieces,x.Rects.length≤12) : loopT (cut_Validate_l6 l) 0=some (if (List.range l.Pieces.length).any (hitK l.Pieces) then .inl () else .inr ()):=by
  refine loop_rng l.Pieces.length (cut_Validate_l6 l) (fun k=>(k : Int)) _ _ _ rfl (fun k hk=>?_) ?_
  · have he : l.Pieces[k]?=some l.Pieces[k]:=by simp
    have hin : loopT (cut_Validate_l5 l.Pieces[k] (l.Pieces.take k)) 0=some (if (l.Pieces.take k).any (hitP l.Pieces[k]) then .inl () else .inr ()):=by
      refine loop_anyS (l.Pieces.take k) (cut_Validate_l5 l.Pieces[k] (l.Pieces.take k)) (fun k=>(k : Int)) _ _ _ rfl (fun j y hy=>?_) ?_
      · have hj:=(List.getElem?_eq_some_iff.1 hy).1
        have hjl : (l.Pieces.take k).length≤8:=by rw [List.length_take]; omega
        unfold cut_Validate_l5
        have hd : decide ((j : Int) < ((l.Pieces.take k).length : Int))=true:=by rw [decide_eq_true_eq]; omega
        simp only [hd,if_true,idx_of hy,Option.bind_some,l4_eq _ y (hx _ (List.getElem_mem hk)) (hx y (List.mem_of_mem_take (List.mem_of_getElem? hy)))]
        rw [iadd_eq (a:=(j : Int)) (by omega) (by omega)]
        cases hitP l.Pieces[k] y <;> rfl
      · simp [cut_Validate_l5]
    unfold cut_Validate_l6 hitK
    have hd : decide ((k : Int) < (l.Pieces.length : Int))=true:=by simp; omega
    simp only [hd,if_true,idx_of he,he,Option.bind_some,slc_takeA (Nat.le_of_lt hk),hin]
    rw [iadd_eq (a:=(k : Int)) (by omega) (by omega)]
    cases (l.Pieces.take k).any (hitP l.Pieces[k]) <;> rfl
  · simp [cut_Validate_l6]
end Go.SM
