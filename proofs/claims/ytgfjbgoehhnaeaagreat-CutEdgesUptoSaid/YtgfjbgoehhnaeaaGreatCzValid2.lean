/- Layouts: both say the same of each. The law CutValidates, on the models. -/
import Derived.Test.YtgfjbgoehhnaeaaGreatCzPiece
import Derived.Test.YtgfjbgoehhnaeaaGreatCzK
set_option linter.unusedVariables false
set_option linter.unusedSimpArgs false
set_option linter.unusedSectionVars false
namespace Go.SM
open Go Go.VI
theorem Sheet_lens {s : Sheet} (h : nest_ValidateSheet s=some 0) : s.Clamps.length≤4∧s.Used.length≤48:=by
  obtain ⟨a,ha,_⟩:=Name_same s.Name
  obtain ⟨b,hb,_⟩:=Name_same s.Material
  unfold nest_ValidateSheet at h
  rw [ha,hb] at h
  cases a with
  | false=>exact absurd (Option.some.inj h) (by decide)
  | true =>
  cases b with
  | false=>exact absurd (Option.some.inj h) (by decide)
  | true =>
  simp only [Option.bind_some,plain_eq,from_eq,if_true,Bool.not_true,Bool.false_eq_true,if_false] at h
  generalize decide ((1≤s.Gauge∧s.Gauge≤60)∧0≤s.Grain∧s.Grain≤2)=g1 at h
  generalize decide (1≤s.Width∧s.Width≤1048576)=g2 at h
  generalize decide (1≤s.Height∧s.Height≤1048576)=g3 at h
  by_cases h4 : (s.Clamps.length : Int) > 4
  · simp only [h4,decide_true,if_true,Option.bind_some] at h
    cases g1 <;> cases g2 <;> cases g3 <;> exact absurd (Option.some.inj h) (by decide)
  by_cases h5 : (s.Used.length : Int) > 48
  · simp only [h4,h5,decide_false,decide_true,if_true,Bool.false_eq_true,if_false,Option.bind_some] at h
    cases g1 <;> cases g2 <;> cases g3 <;> exact absurd (Option.some.inj h) (by decide)
  omega
theorem slc_takeA {α : Type} {l : List α} {k : Nat} (h : k≤l.length) : slc l 0 (k : Int)=some (l.take k):=by
  unfold slc; rw [if_pos (by omega)]; simp
theorem foldl_mem {l : List Rect} {g : Rect→Int} : ∀ {a : Int},l.foldl (fun s r=>min s (g r)) a=a∨∃ r ∈ l,l.foldl (fun s r=>min s (g r)) a=g r:=by
  induction l with
  | nil=>intro a; exact .inl rfl
  | cons x l ih =>
    intro a
    simp only [List.foldl_cons]
    rcases ih (a:=min a (g x)) with h | ⟨r,hr,h⟩
    · rw [h]
      by_cases hx : a≤g x
      · left; omega
      · right; exact ⟨x,by simp,by omega⟩
    · exact .inr ⟨r,by simp [hr],h⟩
theorem loop_mapN {α β : Type} (l : List α) (f : α→β) (body : Int×List β→Option ((Int×List β) ⊕ List β)) (hl : l.length≤1048576) (step : ∀ (k : Nat) x acc,l[k]?=some x→body ((k : Int),acc)=(app acc [f x]).bind fun l'=>some (.inl (((k+1 : Nat) : Int),l'))) (fin : ∀ acc,body ((l.length : Int),acc)=some (.inr acc)) :
    loopT body (0,[])=some (l.map f):=by
  refine loop_fold l body (fun k=>((k : Int),(l.take k).map f)) _ (fun k x hx=>?_) ?_
  · have hk:=(List.getElem?_eq_some_iff.1 hx).1
    rw [step k x _ hx,app_eq (by unfold LIM; simp; omega)]
    simp only [Option.bind_some]
    rw [List.take_add_one,hx]
    simp
  · rw [fin,List.take_length]
def bkR (x y : Int) (r : Rect) : Rect:=if r.X < -4194304∨r.X > 4194304∨r.Y < -4194304∨r.Y > 4194304 then ⟨r.X,r.Y,0,r.H⟩ else ⟨isub r.X x,isub r.Y y,r.W,r.H⟩
def shR (x y : Int) (r : Rect) : Rect:=if r.X > -2147483648∧r.X < 2147483648∧r.Y > -2147483648∧r.Y < 2147483648 then ⟨iadd r.X x,iadd r.Y y,r.W,r.H⟩ else r
theorem back_eq {l : List Rect} (hl : l.length≤1048576) (x y : Int) : cut_back l x y=some (l.map (bkR x y)):=by
  unfold cut_back slices_Clone_Lapi_Rect_api_Rect
  rw [app_eq (by unfold LIM; simp; omega)]
  simp only [List.nil_append,Option.bind_some]
  have key : loopT (cut_back_l2 x y l) (0,l)=some (l.map (bkR x y)):=by
    refine loop_fold l (cut_back_l2 x y l) (fun k=>((k : Int),(l.take k).map (bkR x y)++l.drop k)) _ (fun k r hr=>?_) ?_
    · have hk:=(List.getElem?_eq_some_iff.1 hr).1
      have h1 : decide ((k : Int) < (l.length : Int))=true:=by simp; omega
      have ht : ((l.take k).map (bkR x y)).length=k:=by simp; omega
      have ed : l.drop k=r::l.drop (k+1):=by rw [List.drop_eq_getElem_cons hk]; congr 1; exact (List.getElem?_eq_some_iff.1 hr).2
      have g1 : ∀ z : Rect,((l.take k).map (bkR x y)++z::l.drop (k+1))[k]?=some z:=fun z=>by rw [List.getElem?_append_right (by omega),ht]; simp
      have i1 : ∀ z : Rect,idx ((l.take k).map (bkR x y)++z::l.drop (k+1)) (k : Int)=some z:=fun z=>idx_of (g1 z)
      have s1 : ∀ z z' : Rect,List.set ((l.take k).map (bkR x y)++z::l.drop (k+1)) k z'=(l.take k).map (bkR x y)++z'::l.drop (k+1):=fun z z'=>by rw [List.set_append_right _ _ (by omega),ht]; simp
      have e : l.take (k+1)=l.take k++[r]:=by rw [List.take_add_one,hr]; rfl
      unfold cut_back_l2 cut_back_k1
      simp only [h1,if_true,ed,i1,g1,s1,Option.bind_some,Int.toNat_natCast]
      rw [iadd_eq (a:=(k : Int)) (by omega) (by omega),e,List.map_append,List.append_assoc]
      by_cases q1 : r.X < -4194304
      · simp [q1,bkR]
      · by_cases q2 : r.X > 4194304
        · simp [q1,q2,bkR]
        · by_cases q3 : r.Y < -4194304
          · simp [q1,q2,q3,bkR]
          · by_cases q4 : r.Y > 4194304
            · simp [q1,q2,q3,q4,bkR]
            · simp [q1,q2,q3,q4,bkR]
    · simp [cut_back_l2]
  rw [key]
  rfl
theorem shift_eq {l : List Rect} (hl : l.length≤1048576) (x y : Int) : sheetmetalref06_Shift l x y=some (l.map (shR x y)):=by
  unfold sheetmetalref06_Shift
  rw [loop_mapN l (shR x y) (sheetmetalref06_Shift_l2 l x y) hl (fun k r acc hx=>?_) (fun acc=>?_)]
  · rfl
  · have hk:=(List.getElem?_eq_some_iff.1 hx).1
    unfold sheetmetalref06_Shift_l2 sheetmetalref06_Shift_k1
    have h1 : decide ((k : Int) < (l.length : Int))=true:=by simp; omega
    simp only [h1,if_true,idx_of hx,Option.bind_some]
    rw [iadd_eq (a:=(k : Int)) (by omega) (by omega)]
    unfold shR
    by_cases g1 : r.X > -2147483648
    · by_cases g2 : r.X < 2147483648
      · by_cases g3 : r.Y > -2147483648
        · by_cases g4 : r.Y < 2147483648
          · simp [g1,g2,g3,g4]
          · simp [g1,g2,g3,g4]
        · simp [g1,g2,g3]
      · simp [g1,g2]
    · simp [g1]
  · simp [sheetmetalref06_Shift_l2]
theorem bk_sh {mx my : Int} (hx : -1048576≤mx∧mx≤1048576) (hy : -1048576≤my∧my≤1048576) (r : Rect) (hr : R_Rect r) : bkR mx my r=shR (ineg mx) (ineg my) r∨(¬ vR (bkR mx my r)∧¬ vR (shR (ineg mx) (ineg my) r)):=by
  obtain ⟨⟨a1,a2⟩,⟨b1,b2⟩,_,_⟩:=hr
  unfold bkR shR
  rw [ineg_eq (a:=mx) (by omega) (by omega),ineg_eq (a:=my) (by omega) (by omega)]
  by_cases h : r.X < -4194304∨r.X > 4194304∨r.Y < -4194304∨r.Y > 4194304
  · right
    rw [if_pos h]
    refine ⟨fun q=>?_,fun q=>?_⟩
    · have:=q.2.2.1; simp at this
    · by_cases g : r.X > -2147483648∧r.X < 2147483648∧r.Y > -2147483648∧r.Y < 2147483648
      · rw [if_pos g,iadd_eq (by omega) (by omega),iadd_eq (by omega) (by omega)] at q
        obtain ⟨q1,q2,_⟩:=q
        simp only at q1 q2
        omega
      · rw [if_neg g] at q
        obtain ⟨q1,q2,_⟩:=q
        omega
  · left
    rw [if_neg h,if_pos (by omega),isub_eq (by omega) (by omega),isub_eq (by omega) (by omega),iadd_eq (by omega) (by omega),iadd_eq (by omega) (by omega)]
    rfl
theorem VP_bad {x : Piece} {a b : Bool} (ha : part_ValidName x.Name=some a) (hb : part_ValidName x.Material=some b) (h : ∃ r ∈ x.Rects++(x.Cuts++x.Forms),¬ vR r) :
    nest_ValidatePiece x=some (if a&&b then (if (1≤x.Gauge∧x.Gauge≤60)∧0≤x.Grain∧x.Grain≤2 then (if x.Rects.length > 12∨x.Cuts.length > 12∨x.Forms.length > 12 then 4 else 1) else 1) else 2):=by
  unfold nest_ValidatePiece
  rw [ha,hb]
  cases a with
  | false=>rfl
  | true =>
  cases b with
  | false=>rfl
  | true =>
  simp only [Option.bind_some,plain_eq,Bool.and_self,if_true,Bool.not_true,Bool.false_eq_true,if_false]
  by_cases h1 : (1≤x.Gauge∧x.Gauge≤60)∧0≤x.Grain∧x.Grain≤2
  · simp only [h1,and_self,decide_true,Bool.not_true,Bool.false_eq_true,if_false,if_true]
    by_cases l1 : x.Rects.length > 12
    · simp [show (x.Rects.length : Int) > 12 by omega,l1]
    by_cases l2 : x.Cuts.length > 12
    · simp [show ¬ (x.Rects.length : Int) > 12 by omega,show (x.Cuts.length : Int) > 12 by omega,l1,l2]
    by_cases l3 : x.Forms.length > 12
    · simp [show ¬ (x.Rects.length : Int) > 12 by omega,show ¬ (x.Cuts.length : Int) > 12 by omega,show (x.Forms.length : Int) > 12 by omega,l1,l2,l3]
    have d1 : decide ((x.Rects.length : Int) > 12)=false:=by simp; omega
    have d2 : decide ((x.Cuts.length : Int) > 12)=false:=by simp; omega
    have d3 : decide ((x.Forms.length : Int) > 12)=false:=by simp; omega
    have hc : ¬ (x.Rects.length > 12∨x.Cuts.length > 12∨x.Forms.length > 12):=by omega
    simp only [d1,d2,d3,hc,Bool.false_eq_true,if_false,Option.bind_some,valid_eq x.Rects (by omega),valid_eq x.Cuts (by omega),valid_eq x.Forms (by omega)]
    have anyb : ∀ l : List Rect,(∃ r ∈ l,¬ vR r)→(l.any fun x=>!decide (vR x))=true:=fun l ⟨r,hr,hv⟩=>List.any_eq_true.2 ⟨r,hr,by simp [hv]⟩
    obtain ⟨r,hr,hv⟩:=h
    have hj : (if ((x.Rects.length : Int)==0)=true then some true else (if (!(x.Rects.any fun x=>!decide (vR x)))=true then (if (!(x.Cuts.any fun x=>!decide (vR x)))=true then some (!(!(x.Forms.any fun x=>!decide (vR x)))) else some true) else some true))=some true:=by
      cases (x.Rects.length : Int)==0 with
      | true=>rfl
      | false =>
        rcases List.mem_append.1 hr with hr | hr
        · rw [anyb _ ⟨r,hr,hv⟩]; rfl
        · rcases List.mem_append.1 hr with hr | hr
          · rw [anyb x.Cuts ⟨r,hr,hv⟩]; cases (x.Rects.any fun x=>!decide (vR x)) <;> rfl
          · rw [anyb x.Forms ⟨r,hr,hv⟩]; cases (x.Rects.any fun x=>!decide (vR x)) <;> cases (x.Cuts.any fun x=>!decide (vR x)) <;> rfl
    rw [hj]
    rfl
  · simp only [h1,decide_false,Bool.not_false,if_true,if_false]
theorem VP_len {x : Piece} (h : nest_ValidatePiece x=some 0) : x.Rects.length≤12:=by
  obtain ⟨a,ha,_⟩:=Name_same x.Name
  obtain ⟨b,hb,_⟩:=Name_same x.Material
  unfold nest_ValidatePiece at h
  rw [ha,hb] at h
  by_cases l1 : (x.Rects.length : Int) > 12
  · cases a with
    | false=>exact absurd (Option.some.inj h) (by decide)
    | true =>
    cases b with
    | false=>exact absurd (Option.some.inj h) (by decide)
    | true =>
    simp only [Option.bind_some,plain_eq,if_true,Bool.not_true,Bool.false_eq_true,if_false,l1,decide_true] at h
    generalize decide ((1≤x.Gauge∧x.Gauge≤60)∧0≤x.Grain∧x.Grain≤2)=g1 at h
    cases g1 <;> exact absurd (Option.some.inj h) (by decide)
  · omega
def Sm (x : Piece) : Prop:=(x.Rects.length≤1048576∧∀ r ∈ x.Rects,R_Rect r)∧(x.Cuts.length≤1048576∧∀ r ∈ x.Cuts,R_Rect r)∧(x.Forms.length≤1048576∧∀ r ∈ x.Forms,R_Rect r)
theorem base_loop (x0 : Piece) (hl : x0.Rects.length≤1048576) (a b : Int) : loopT (cut_pieceError_l2 x0) (a,b,0)=some (lowX x0.Rects a,lowY x0.Rects b):=by
  refine loop_fold x0.Rects (cut_pieceError_l2 x0) (fun k=>(lowX (x0.Rects.take k) a,lowY (x0.Rects.take k) b,(k : Int))) _ (fun k r hr=>?_) ?_
  · have hk:=(List.getElem?_eq_some_iff.1 hr).1
    unfold cut_pieceError_l2
    have h1 : decide ((k : Int) < (x0.Rects.length : Int))=true:=by simp; omega
    have e : x0.Rects.take (k+1)=x0.Rects.take k++[r]:=by rw [List.take_add_one,hr]; rfl
    simp only [h1,if_true,idx_of hr,Option.bind_some,e,imin_eq]
    rw [iadd_eq (a:=(k : Int)) (by omega) (by omega)]
    unfold lowX lowY
    rw [List.foldl_append,List.foldl_append]
    rfl
  · simp [cut_pieceError_l2]
theorem base_body (x0 : Piece) : sheetmetalref07_base_l1 x0=cut_pieceError_l2 x0:=by
  funext s
  unfold sheetmetalref07_base_l1 cut_pieceError_l2
  cases idx x0.Rects s.2.2 <;> rfl
theorem rbase_loop (x0 : Piece) (hl : x0.Rects.length≤1048576) {r : Rect} (hr : x0.Rects[0]?=some r) : loopT (sheetmetalref07_base_l1 x0) (r.X,r.Y,1)=some (lowX x0.Rects r.X,lowY x0.Rects r.Y):=by
  have i0 : idx x0.Rects 0=some r:=idx_of (k:=0) hr
  have hk:=(List.getElem?_eq_some_iff.1 hr).1
  have h1 : loopT (cut_pieceError_l2 x0) (r.X,r.Y,0)=loopT (cut_pieceError_l2 x0) (r.X,r.Y,1):=by
    refine loop_in ?_
    unfold cut_pieceError_l2
    have hd : decide ((0 : Int) < (x0.Rects.length : Int))=true:=by simp; omega
    simp only [hd,if_true,i0,Option.bind_some,imin_eq,Int.min_self]
    rfl
  rw [base_body,← h1,base_loop x0 hl]
theorem piece_same {x : Piece} (hs : Sm x) : ∃ e : Int,cut_pieceError x=some e∧(e=0→x.Rects.length≤12) ∧
    ∀ {S : Type} (k : S),((sheetmetalref07_base x).bind fun r79=>if (!r79.2.1) then (some (Sum.inr (Sum.inl (1 : Int)) : S ⊕ (Int ⊕ Unit))) else ((sheetmetalref06_ValidatePiece (Piece.mk r79.1.Name r79.1.Material r79.1.Gauge r79.1.Grain r79.1.Rects r79.1.Cuts r79.1.Forms)).bind fun r81=>if (r81 != 0) then (some (.inr (.inl r81))) else (some (.inl k))))=if e=0 then some (.inl k) else some (.inr (.inl e)):=by
  obtain ⟨⟨s1,t1⟩,⟨s2,t2⟩,s3,t3⟩:=hs
  have k1 : loopT (cut_pieceError_l1 x) 0=some (if (x.Rects.any fun x=>!decide (vR x)) then .inl () else .inr ()):=by
    refine loop_anyS x.Rects (cut_pieceError_l1 x) (fun k=>(k : Int)) _ _ _ rfl (fun k y hx=>?_) ?_
    · have hk:=(List.getElem?_eq_some_iff.1 hx).1
      unfold cut_pieceError_l1
      have h1 : decide ((k : Int) < (x.Rects.length : Int))=true:=by simp; omega
      simp only [h1,if_true,idx_of hx,Option.bind_some,ValidRect_eq]
      rw [iadd_eq (a:=(k : Int)) (by omega) (by omega)]
      rfl
    · simp [cut_pieceError_l1]
  unfold cut_pieceError sheetmetalref07_base
  rw [k1,Rights_eq _ (by omega)]
  cases hv : (x.Rects.any fun x=>!decide (vR x)) with
  | true=>exact ⟨1,rfl,fun h=>absurd h (by decide),fun k=>rfl⟩
  | false =>
  have av : ∀ r ∈ x.Rects,vR r:=fun r hr=>by have:=List.any_eq_false.1 hv r hr; simpa using this
  simp only [Bool.false_eq_true,if_false,Option.bind_some,Bool.not_false,Bool.not_true]
  by_cases h0 : (x.Rects.length : Int)=0
  · obtain ⟨e,e1,e2⟩:=Piece_same x
    refine ⟨e,by simp [h0,e1],fun _=>by omega,fun k=>?_⟩
    have e2' : sheetmetalref06_ValidatePiece (Piece.mk x.Name x.Material x.Gauge x.Grain x.Rects x.Cuts x.Forms)=some e:=e2
    simp only [h0,beq_self_eq_true,if_true,Option.bind_some,Bool.not_true,Bool.false_eq_true,if_false,e2']
    by_cases he : e=0
    · simp [he]
    · simp [he]
  · have h0' : ((x.Rects.length : Int)==0)=false:=by rw [beq_eq_false_iff_ne]; exact h0
    have hlt : 0 < x.Rects.length:=by omega
    have hr : x.Rects[0]?=some (x.Rects[0]'hlt):=by simp [hlt]
    have i0 : idx x.Rects 0=some (x.Rects[0]'hlt):=idx_of (k:=0) hr
    have hmem : x.Rects[0]'hlt ∈ x.Rects:=List.getElem_mem hlt
    have rb:=rbase_loop x s1 hr
    generalize x.Rects[0]'hlt=r0 at hr i0 hmem rb
    have bx : -1048576≤lowX x.Rects r0.X∧lowX x.Rects r0.X≤1048576:=by
      have : ∃ y ∈ x.Rects,lowX x.Rects r0.X=y.X:=by
        rcases foldl_mem (l:=x.Rects) (g:=fun r=>r.X) (a:=r0.X) with e | ⟨y,hy,e⟩
        · exact ⟨r0,hmem,e⟩
        · exact ⟨y,hy,e⟩
      obtain ⟨y,hy,e⟩:=this
      have:=av y hy; unfold vR at this; omega
    have by' : -1048576≤lowY x.Rects r0.Y∧lowY x.Rects r0.Y≤1048576:=by
      have : ∃ y ∈ x.Rects,lowY x.Rects r0.Y=y.Y:=by
        rcases foldl_mem (l:=x.Rects) (g:=fun r=>r.Y) (a:=r0.Y) with e | ⟨y,hy,e⟩
        · exact ⟨r0,hmem,e⟩
        · exact ⟨y,hy,e⟩
      obtain ⟨y,hy,e⟩:=this
      have:=av y hy; unfold vR at this; omega
    unfold sheetmetalref06_Move
    simp only [h0',Bool.false_eq_true,if_false,i0,Option.bind_some,base_loop x s1,rb,back_eq s1,back_eq s2,back_eq s3,shift_eq s1,shift_eq s2,shift_eq s3,Bool.not_true]
    generalize lowX x.Rects r0.X=mx at bx
    generalize lowY x.Rects r0.Y=my at by'
    have main : ∃ e,nest_ValidatePiece ⟨x.Name,x.Material,x.Gauge,x.Grain,x.Rects.map (bkR mx my),x.Cuts.map (bkR mx my),x.Forms.map (bkR mx my)⟩=some e∧sheetmetalref06_ValidatePiece ⟨x.Name,x.Material,x.Gauge,x.Grain,x.Rects.map (shR (ineg mx) (ineg my)),x.Cuts.map (shR (ineg mx) (ineg my)),x.Forms.map (shR (ineg mx) (ineg my))⟩=some e:=by
      have cmp:=bk_sh bx by'
      by_cases hall : ∀ r ∈ x.Rects++(x.Cuts++x.Forms),bkR mx my r=shR (ineg mx) (ineg my) r
      · have m1 : x.Rects.map (bkR mx my)=x.Rects.map (shR (ineg mx) (ineg my)):=List.map_congr_left fun r hr=>hall r (List.mem_append.2 (.inl hr))
        have m2 : x.Cuts.map (bkR mx my)=x.Cuts.map (shR (ineg mx) (ineg my)):=List.map_congr_left fun r hr=>hall r (List.mem_append.2 (.inr (List.mem_append.2 (.inl hr))))
        have m3 : x.Forms.map (bkR mx my)=x.Forms.map (shR (ineg mx) (ineg my)):=List.map_congr_left fun r hr=>hall r (List.mem_append.2 (.inr (List.mem_append.2 (.inr hr))))
        rw [m1,m2,m3]
        exact Piece_same _
      · have hex : ∃ r ∈ x.Rects++(x.Cuts++x.Forms),¬ vR (bkR mx my r)∧¬ vR (shR (ineg mx) (ineg my) r):=by
          apply Classical.byContradiction
          intro hno
          refine hall fun r hr=>?_
          have hR : R_Rect r:=by
            rcases List.mem_append.1 hr with h | h
            · exact t1 r h
            · rcases List.mem_append.1 h with h | h
              · exact t2 r h
              · exact t3 r h
          rcases cmp r hR with h | h
          · exact h
          · exact absurd ⟨r,hr,h⟩ hno
        obtain ⟨r,hr,v1,v2⟩:=hex
        obtain ⟨a,ha,_⟩:=Name_same x.Name
        obtain ⟨b,hb,_⟩:=Name_same x.Material
        have p1:=VP_bad (x:=⟨x.Name,x.Material,x.Gauge,x.Grain,x.Rects.map (bkR mx my),x.Cuts.map (bkR mx my),x.Forms.map (bkR mx my)⟩) ha hb ⟨bkR mx my r,by show _ ∈ x.Rects.map _++(x.Cuts.map _++x.Forms.map _); rw [← List.map_append,← List.map_append]; exact List.mem_map_of_mem hr,v1⟩
        have p2:=VP_bad (x:=⟨x.Name,x.Material,x.Gauge,x.Grain,x.Rects.map (shR (ineg mx) (ineg my)),x.Cuts.map (shR (ineg mx) (ineg my)),x.Forms.map (shR (ineg mx) (ineg my))⟩) ha hb ⟨shR (ineg mx) (ineg my) r,by show _ ∈ x.Rects.map _++(x.Cuts.map _++x.Forms.map _); rw [← List.map_append,← List.map_append]; exact List.mem_map_of_mem hr,v2⟩
        simp only [List.length_map] at p1 p2
        obtain ⟨e,e1,e2⟩:=Piece_same ⟨x.Name,x.Material,x.Gauge,x.Grain,x.Rects.map (shR (ineg mx) (ineg my)),x.Cuts.map (shR (ineg mx) (ineg my)),x.Forms.map (shR (ineg mx) (ineg my))⟩
        exact ⟨e,by rw [p1,← p2]; exact e1,e2⟩
    obtain ⟨e,e1,e2⟩:=main
    refine ⟨e,by rw [e1]; rfl,fun he=>?_,fun k=>?_⟩
    · subst he
      have:=VP_len e1
      simpa using this
    · simp only [e2,Option.bind_some]
      by_cases he : e=0
      · simp [he]
      · simp [he]
theorem meets_eq (r : Rect) {l : List Rect} (hl : l.length≤1000) : cut_meets r l=some (l.any (overl r)):=by
  have key : ∃ z,loopT (slices_IndexFunc_Lapi_Rect_api_Rect__cut_meets_1_l1 l r.X r.Y r.W r.H) 0=some z∧((∃ k : Nat,z=.inl (k : Int))∧l.any (overl r)=true∨z=.inr ()∧l.any (overl r)=false):=by
    have go : ∀ (m k : Nat),k+m=l.length→(∀ y ∈ l.take k,overl r y=false)→∃ z,loopT (slices_IndexFunc_Lapi_Rect_api_Rect__cut_meets_1_l1 l r.X r.Y r.W r.H) (k : Int)=some z∧((∃ k : Nat,z=.inl (k : Int))∧l.any (overl r)=true∨z=.inr ()∧l.any (overl r)=false):=by
      intro m
      induction m with
      | zero =>
        intro k h hb
        obtain rfl : k=l.length:=by omega
        rw [List.take_length] at hb
        exact ⟨.inr (),loop_out (by simp [slices_IndexFunc_Lapi_Rect_api_Rect__cut_meets_1_l1]),.inr ⟨rfl,List.any_eq_false.2 fun y hy=>by simp [hb y hy]⟩⟩
      | succ m ih =>
        intro k h hb
        have hx : l[k]?=some (l[k]'(by omega)):=by simp [show k < l.length by omega]
        have hd : decide ((k : Int) < (l.length : Int))=true:=by simp; omega
        have hm : cut_meets_1 (l[k]'(by omega)) r.X r.Y r.W r.H=some (overl r (l[k]'(by omega))):=by
          unfold cut_meets_1
          rw [Overlap_eq]; rfl
        by_cases ho : overl r (l[k]'(by omega))=true
        · refine ⟨.inl (k : Int),loop_out ?_,.inl ⟨⟨k,rfl⟩,List.any_eq_true.2 ⟨_,List.mem_of_getElem? hx,ho⟩⟩⟩
          unfold slices_IndexFunc_Lapi_Rect_api_Rect__cut_meets_1_l1
          simp only [hd,if_true,idx_of hx,Option.bind_some,hm,ho]
        · have ho' : overl r (l[k]'(by omega))=false:=by simpa using ho
          rw [loop_in (s':=((k+1 : Nat) : Int))]
          · refine ih (k+1) (by omega) fun y hy=>?_
            rw [List.take_add_one,hx] at hy
            rcases List.mem_append.1 hy with hy | hy
            · exact hb y hy
            · simp at hy; rw [hy]; exact ho'
          · unfold slices_IndexFunc_Lapi_Rect_api_Rect__cut_meets_1_l1
            simp only [hd,if_true,idx_of hx,Option.bind_some,hm,ho',Bool.false_eq_true,if_false]
            rw [iadd_eq (by omega) (by omega)]; rfl
    exact go l.length 0 (by omega) (by simp)
  obtain ⟨z,hz,h⟩:=key
  unfold cut_meets slices_ContainsFunc_Lapi_Rect_api_Rect__cut_meets_1 slices_IndexFunc_Lapi_Rect_api_Rect__cut_meets_1
  rw [hz]
  rcases h with ⟨⟨k,rfl⟩,h⟩ | ⟨rfl,h⟩
  · rw [h]
    have : decide ((k : Int) ≥ 0)=true:=by simp
    simp only [Option.bind_some,this]
  · rw [h]; rfl
def offS (s : Sheet) (y : Rect) : Bool:=!(decide (inRect y ⟨0,0,s.Width,s.Height⟩)) || (s.Clamps.any (overl y) || s.Used.any (overl y))
theorem l2_eq (l : LayoutT) (x : Piece) (hx : x.Rects.length≤12) (h1 : l.Sheet.Clamps.length≤4) (h2 : l.Sheet.Used.length≤48) : loopT (cut_Validate_l2 l x) 0=some (if x.Rects.any (offS l.Sheet) then .inl () else .inr ()):=by
  refine loop_anyS x.Rects (cut_Validate_l2 l x) (fun k=>(k : Int)) _ _ _ rfl (fun k y hy=>?_) ?_
  · have hk:=(List.getElem?_eq_some_iff.1 hy).1
    unfold cut_Validate_l2 offS
    have hd : decide ((k : Int) < (x.Rects.length : Int))=true:=by simp; omega
    simp only [hd,if_true,idx_of hy,Option.bind_some,Inside_eq,meets_eq y (show l.Sheet.Clamps.length≤1000 by omega),meets_eq y (show l.Sheet.Used.length≤1000 by omega)]
    rw [iadd_eq (a:=(k : Int)) (by omega) (by omega)]
    cases decide (inRect y ⟨0,0,l.Sheet.Width,l.Sheet.Height⟩) <;> cases l.Sheet.Clamps.any (overl y) <;> cases l.Sheet.Used.any (overl y) <;> rfl
  · simp [cut_Validate_l2]
theorem rl2_eq (l : LayoutT) (x : Piece) (hx : x.Rects.length≤12) (h1 : l.Sheet.Clamps.length≤4) (h2 : l.Sheet.Used.length≤48) : loopT (sheetmetalref07_Validate_l2 l x) 0=some (if x.Rects.any (offS l.Sheet) then .inl () else .inr ()):=by
  refine loop_anyS x.Rects (sheetmetalref07_Validate_l2 l x) (fun k=>(k : Int)) _ _ _ rfl (fun k y hy=>?_) ?_
  · have hk:=(List.getElem?_eq_some_iff.1 hy).1
    unfold sheetmetalref07_Validate_l2 offS
    have hd : decide ((k : Int) < (x.Rects.length : Int))=true:=by simp; omega
    simp only [hd,if_true,idx_of hy,Option.bind_some,Within_eq,Meets_eq y _ (show l.Sheet.Clamps.length≤1000 by omega),Meets_eq y _ (show l.Sheet.Used.length≤1000 by omega)]
    rw [iadd_eq (a:=(k : Int)) (by omega) (by omega)]
    cases decide (inRect y ⟨0,0,l.Sheet.Width,l.Sheet.Height⟩) <;> cases l.Sheet.Clamps.any (overl y) <;> cases l.Sheet.Used.any (overl y) <;> rfl
  · simp [sheetmetalref07_Validate_l2]
theorem l3_eq (l : LayoutT) (hp : l.Pieces.length≤8) (hx : ∀ x ∈ l.Pieces,x.Rects.length≤12) (h1 : l.Sheet.Clamps.length≤4) (h2 : l.Sheet.Used.length≤48) : loopT (cut_Validate_l3 l) 0=some (if l.Pieces.any (fun x=>x.Rects.any (offS l.Sheet)) then .inl () else .inr ()):=by
  refine loop_anyS l.Pieces (cut_Validate_l3 l) (fun k=>(k : Int)) _ _ _ rfl (fun k y hy=>?_) ?_
  · have hk:=(List.getElem?_eq_some_iff.1 hy).1
    unfold cut_Validate_l3
    have hd : decide ((k : Int) < (l.Pieces.length : Int))=true:=by simp; omega
    simp only [hd,if_true,idx_of hy,Option.bind_some,l2_eq l y (hx y (List.mem_of_getElem? hy)) h1 h2]
    rw [iadd_eq (a:=(k : Int)) (by omega) (by omega)]
    cases y.Rects.any (offS l.Sheet) <;> rfl
  · simp [cut_Validate_l3]
theorem rl3_eq (l : LayoutT) (hp : l.Pieces.length≤8) (hx : ∀ x ∈ l.Pieces,x.Rects.length≤12) (h1 : l.Sheet.Clamps.length≤4) (h2 : l.Sheet.Used.length≤48) : loopT (sheetmetalref07_Validate_l3 l) 0=some (if l.Pieces.any (fun x=>x.Rects.any (offS l.Sheet)) then .inl () else .inr ()):=by
  refine loop_anyS l.Pieces (sheetmetalref07_Validate_l3 l) (fun k=>(k : Int)) _ _ _ rfl (fun k y hy=>?_) ?_
  · have hk:=(List.getElem?_eq_some_iff.1 hy).1
    unfold sheetmetalref07_Validate_l3
    have hd : decide ((k : Int) < (l.Pieces.length : Int))=true:=by simp; omega
    simp only [hd,if_true,idx_of hy,Option.bind_some,rl2_eq l y (hx y (List.mem_of_getElem? hy)) h1 h2]
    rw [iadd_eq (a:=(k : Int)) (by omega) (by omega)]
    cases y.Rects.any (offS l.Sheet) <;> rfl
  · simp [sheetmetalref07_Validate_l3]
def hitP (x y : Piece) : Bool:=x.Rects.any fun r=>y.Rects.any (overl r)
def hitK (l : List Piece) (k : Nat) : Bool:=match l[k]? with
  | some x=>(l.take k).any (hitP x)
  | none=>false
theorem l4_eq (x y : Piece) (hx : x.Rects.length≤12) (hy : y.Rects.length≤12) : loopT (cut_Validate_l4 x y) 0=some (if hitP x y then .inl () else .inr ()):=by
  refine loop_anyS x.Rects (cut_Validate_l4 x y) (fun k=>(k : Int)) _ _ _ rfl (fun k r hr=>?_) ?_
  · have hk:=(List.getElem?_eq_some_iff.1 hr).1
    unfold cut_Validate_l4
    have hd : decide ((k : Int) < (x.Rects.length : Int))=true:=by simp; omega
    simp only [hd,if_true,idx_of hr,Option.bind_some,meets_eq r (show y.Rects.length≤1000 by omega)]
    rw [iadd_eq (a:=(k : Int)) (by omega) (by omega)]
    rfl
  · simp [cut_Validate_l4]
theorem l6_eq (l : LayoutT) (hp : l.Pieces.length≤8) (hx : ∀ x ∈ l.Pieces,x.Rects.length≤12) : loopT (cut_Validate_l6 l) 0=some (if (List.range l.Pieces.length).any (hitK l.Pieces) then .inl () else .inr ()):=by
  refine loop_rng l.Pieces.length (cut_Validate_l6 l) (fun k=>(k : Int)) _ _ _ rfl (fun k hk=>?_) ?_
  · have he : l.Pieces[k]?=some l.Pieces[k]:=by simp
    have hin : loopT (cut_Validate_l5 l.Pieces[k] (l.Pieces.take k)) 0=some (if (l.Pieces.take k).any (hitP l.Pieces[k]) then .inl () else .inr ()):=by
      refine loop_anyS (l.Pieces.take k) (cut_Validate_l5 l.Pieces[k] (l.Pieces.take k)) (fun k=>(k : Int)) _ _ _ rfl (fun j y hy=>?_) ?_
      · have hj:=(List.getElem?_eq_some_iff.1 hy).1
        have hjl : (l.Pieces.take k).length≤8:=by rw [List.length_take]; omega
        unfold cut_Validate_l5
        have hd : decide ((j : Int) < ((l.Pieces.take k).length : Int))=true:=by rw [decide_eq_true_eq]; omega
        simp only [hd,if_true,idx_of hy,Option.bind_some,l4_eq _ y (hx _ (List.getElem_mem hk)) (hx y (List.mem_of_mem_take (List.mem_of_getElem? hy)))]
        rw [iadd_eq (a:=(j : Int)) (by omega) (by omega)]
        cases hitP l.Pieces[k] y <;> rfl
      · simp [cut_Validate_l5]
    unfold cut_Validate_l6 hitK
    have hd : decide ((k : Int) < (l.Pieces.length : Int))=true:=by simp; omega
    simp only [hd,if_true,idx_of he,he,Option.bind_some,slc_takeA (Nat.le_of_lt hk),hin]
    rw [iadd_eq (a:=(k : Int)) (by omega) (by omega)]
    cases (l.Pieces.take k).any (hitP l.Pieces[k]) <;> rfl
  · simp [cut_Validate_l6]
theorem rl6_eq (l : LayoutT) (hp : l.Pieces.length≤8) (hx : ∀ x ∈ l.Pieces,x.Rects.length≤12) : loopT (sheetmetalref07_Validate_l6 l) 0=some (if (List.range l.Pieces.length).any (hitK l.Pieces) then .inl () else .inr ()):=by
  refine loop_rng l.Pieces.length (sheetmetalref07_Validate_l6 l) (fun k=>(k : Int)) _ _ _ rfl (fun k hk=>?_) ?_
  · have he : l.Pieces[k]?=some l.Pieces[k]:=by simp
    have hlt : (l.Pieces.take k).length=k:=by rw [List.length_take]; omega
    have hin : loopT (sheetmetalref07_Validate_l5 l (k : Int)) 0=some (if (l.Pieces.take k).any (hitP l.Pieces[k]) then .inl () else .inr ()):=by
      refine loop_anyS (l.Pieces.take k) (sheetmetalref07_Validate_l5 l (k : Int)) (fun k=>(k : Int)) _ _ _ rfl (fun j y hy=>?_) ?_
      · have hj:=(List.getElem?_eq_some_iff.1 hy).1
        rw [hlt] at hj
        have hy' : l.Pieces[j]?=some y:=by rw [List.getElem?_take] at hy; simpa [hj] using hy
        have h4 : loopT (sheetmetalref07_Validate_l4 l (k : Int) (j : Int)) 0=some (if hitP l.Pieces[k] y then .inl () else .inr ()):=by
          refine loop_anyS l.Pieces[k].Rects (sheetmetalref07_Validate_l4 l (k : Int) (j : Int)) (fun k=>(k : Int)) _ _ _ rfl (fun i r hr=>?_) ?_
          · have hi:=(List.getElem?_eq_some_iff.1 hr).1
            have hkl:=hx _ (List.getElem_mem hk)
            have hyl:=hx y (List.mem_of_getElem? hy')
            unfold sheetmetalref07_Validate_l4
            have hd : decide ((i : Int) < (l.Pieces[k].Rects.length : Int))=true:=by rw [decide_eq_true_eq]; omega
            simp only [hd,if_true,idx_of he,idx_of hy',idx_of hr,Option.bind_some,Meets_eq r _ (show y.Rects.length≤1000 by omega)]
            rw [iadd_eq (a:=(i : Int)) (by omega) (by omega)]
            rfl
          · simp [sheetmetalref07_Validate_l4,idx_of he]
        unfold sheetmetalref07_Validate_l5
        have hd : decide ((j : Int) < (k : Int))=true:=by simp; omega
        simp only [hd,if_true,h4,Option.bind_some]
        rw [iadd_eq (a:=(j : Int)) (by omega) (by omega)]
        cases hitP l.Pieces[k] y <;> rfl
      · rw [hlt]; simp [sheetmetalref07_Validate_l5]
    unfold sheetmetalref07_Validate_l6 hitK
    have hd : decide ((k : Int) < (l.Pieces.length : Int))=true:=by simp; omega
    simp only [hd,if_true,he,Option.bind_some,hin]
    rw [iadd_eq (a:=(k : Int)) (by omega) (by omega)]
    cases (l.Pieces.take k).any (hitP l.Pieces[k]) <;> rfl
  · simp [sheetmetalref07_Validate_l6]
theorem l1_same (l : LayoutT) (hp : l.Pieces.length≤8) (hs : ∀ x ∈ l.Pieces,Sm x) : (∃ c,loopT (cut_Validate_l1 l) 0=some (.inl c)∧loopT (sheetmetalref07_Validate_l1 l) 0=some (.inl c))∨(loopT (cut_Validate_l1 l) 0=some (.inr ())∧loopT (sheetmetalref07_Validate_l1 l) 0=some (.inr ())∧∀ x ∈ l.Pieces,x.Rects.length≤12):=by
  have key : ∀ (m k : Nat),k+m=l.Pieces.length→(∀ x ∈ l.Pieces.take k,x.Rects.length≤12)→(∃ c,loopT (cut_Validate_l1 l) (k : Int)=some (.inl c)∧loopT (sheetmetalref07_Validate_l1 l) (k : Int)=some (.inl c))∨(loopT (cut_Validate_l1 l) (k : Int)=some (.inr ())∧loopT (sheetmetalref07_Validate_l1 l) (k : Int)=some (.inr ())∧∀ x ∈ l.Pieces,x.Rects.length≤12):=by
    intro m
    induction m with
    | zero =>
      intro k h hb; obtain rfl : k=l.Pieces.length:=by omega
      rw [List.take_length] at hb
      exact .inr ⟨loop_out (by simp [cut_Validate_l1]),loop_out (by simp [sheetmetalref07_Validate_l1]),hb⟩
    | succ m ih =>
      intro k h hb
      have hx : l.Pieces[k]?=some (l.Pieces[k]'(by omega)):=by simp [show k < l.Pieces.length by omega]
      have hd : decide ((k : Int) < (l.Pieces.length : Int))=true:=by simp; omega
      obtain ⟨e,e1,e2,e3⟩:=piece_same (hs _ (List.getElem_mem (show k < l.Pieces.length by omega)))
      have i1 : iadd (k : Int) 1=((k+1 : Nat) : Int):=by rw [iadd_eq (by omega) (by omega)]; rfl
      have b2 : sheetmetalref07_Validate_l1 l (k : Int)=if e=0 then some (.inl ((k+1 : Nat) : Int)) else some (.inr (.inl e)):=by
        unfold sheetmetalref07_Validate_l1
        simp only [hd,if_true,idx_of hx,Option.bind_some,i1]
        exact e3 _
      by_cases he : e=0
      · subst he
        rw [if_pos rfl] at b2
        rw [loop_in (s':=((k+1 : Nat) : Int)),loop_in b2]
        · refine ih (k+1) (by omega) fun x hxm=>?_
          rw [List.take_add_one,hx] at hxm
          rcases List.mem_append.1 hxm with h | h
          · exact hb x h
          · simp at h; rw [h]; exact e2 rfl
        · unfold cut_Validate_l1
          simp only [hd,if_true,idx_of hx,Option.bind_some,e1,bne_self_eq_false,Bool.false_eq_true,if_false,i1]
      · rw [if_neg he] at b2
        refine .inl ⟨e,loop_out ?_,loop_out b2⟩
        have he' : (e != 0)=true:=by rw [bne_iff_ne]; exact he
        unfold cut_Validate_l1
        simp only [hd,if_true,idx_of hx,Option.bind_some,e1,he']
  exact key l.Pieces.length 0 (by omega) (by simp)
theorem Layout_same (l : LayoutT) (hs : ∀ x ∈ l.Pieces,Sm x) : ∃ b,cut_Validate l=some b∧sheetmetalref07_Validate l=some b:=by
  obtain ⟨b,b1,b2⟩:=Sheet_same l.Sheet
  unfold cut_Validate sheetmetalref07_Validate
  rw [b1,b2]
  simp only [Option.bind_some]
  by_cases hb : b=0
  · subst hb
    have sl:=Sheet_lens b1
    simp only [bne_self_eq_false,Bool.false_eq_true,if_false]
    by_cases h8 : (l.Pieces.length : Int) > 8
    · exact ⟨4,by simp [h8],by simp [h8]⟩
    have hp : l.Pieces.length≤8:=by omega
    simp only [h8,decide_false,Bool.false_eq_true,if_false]
    rcases l1_same l hp hs with ⟨c,c1,c2⟩ | ⟨c1,c2,c3⟩
    · exact ⟨c,by rw [c1]; rfl,by rw [c2]; rfl⟩
    · simp only [c1,c2,Option.bind_some,l3_eq l hp c3 sl.1 sl.2,rl3_eq l hp c3 sl.1 sl.2,l6_eq l hp c3,rl6_eq l hp c3]
      cases l.Pieces.any (fun x=>x.Rects.any (offS l.Sheet)) with
      | true=>exact ⟨13,rfl,rfl⟩
      | false =>
      cases (List.range l.Pieces.length).any (hitK l.Pieces) with
      | true=>exact ⟨7,rfl,rfl⟩
      | false=>exact ⟨0,rfl,rfl⟩
  · have hb' : (b != 0)=true:=by rw [bne_iff_ne]; exact hb
    exact ⟨b,by simp [hb'],by simp [hb']⟩
end Go.SM
