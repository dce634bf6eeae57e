/- A right plan gives valid layouts. The law CutLayouts, on the models. -/
import Derived.Test.YtgfjbgoehhnaeaaGreatCzLay0
set_option linter.unusedVariables false
set_option linter.unusedSimpArgs false
set_option linter.unusedSectionVars false
namespace Go.SM
open Go Go.VI
theorem pigeon : ∀ (n : Nat) (l : List Int),(∀ x ∈ l,0≤x∧x < (n : Int))→l.Pairwise (·≠·)→l.length≤n
  | 0,l,h,_=>by
    cases l with
    | nil=>simp
    | cons x l=>have:=h x (by simp); omega
  | n+1,l,h,hd=>by
    have h1:=pigeon n (l.filter fun x=>!(x==(n : Int))) (fun x hx=>by
      obtain ⟨hx,hn⟩:=List.mem_filter.1 hx
      have:=h x hx
      have : x≠(n : Int):=by simpa using hn
      omega) (hd.sublist List.filter_sublist)
    have h2 : l.length≤(l.filter fun x=>!(x==(n : Int))).length+1:=by
      clear h h1
      induction l with
      | nil=>simp
      | cons x l ih =>
        rw [List.pairwise_cons] at hd
        by_cases hx : x=(n : Int)
        · have : l.filter (fun x=>!(x==(n : Int)))=l:=by
            rw [List.filter_eq_self]
            intro y hy
            have:=hd.1 y hy
            have : y≠(n : Int):=fun e=>this (hx.trans e.symm)
            simpa using this
          simp [hx,this]
        · have:=ih hd.2
          have hb : (!(x==(n : Int)))=true:=by simpa using hx
          simp only [List.filter_cons,hb,if_true,List.length_cons]
          omega
    omega
theorem sheet_dims {s : Sheet} (h : nest_ValidateSheet s=some 0) : (1≤s.Width∧s.Width≤1048576)∧1≤s.Height∧s.Height≤1048576:=by
  obtain ⟨a,ha,_⟩:=Name_same s.Name
  obtain ⟨b,hb,_⟩:=Name_same s.Material
  unfold nest_ValidateSheet at h
  rw [ha,hb] at h
  cases a with
  | false=>exact absurd (Option.some.inj h) (by decide)
  | true =>
  cases b with
  | false=>exact absurd (Option.some.inj h) (by decide)
  | true =>
  simp only [Option.bind_some,plain_eq,from_eq,if_true,Bool.not_true,Bool.false_eq_true,if_false] at h
  generalize decide ((1≤s.Gauge∧s.Gauge≤60)∧0≤s.Grain∧s.Grain≤2)=g1 at h
  by_cases h1 : 1≤s.Width∧s.Width≤1048576
  · by_cases h2 : 1≤s.Height∧s.Height≤1048576
    · exact ⟨h1,h2⟩
    · simp only [h1,h2,and_self,decide_true,decide_false,if_true,Bool.not_false,Option.bind_some] at h
      cases g1 <;> exact absurd (Option.some.inj h) (by decide)
  · simp only [h1,decide_false,Bool.false_eq_true,if_false,Option.bind_some] at h
    cases g1 <;> exact absurd (Option.some.inj h) (by decide)
def onS (sheet : Int) (a : Placement×Piece) : Bool:=a.1.Sheet==sheet
def lay (sheet : Int) (z : List (Placement×Piece)) : List Piece:=(z.filter (onS sheet)).map (·.2)
theorem lay_snoc (sheet : Int) {z : List (Placement×Piece)} {k : Nat} {a : Placement×Piece} (h : z[k]?=some a) : lay sheet (z.take (k+1))=if a.1.Sheet==sheet then lay sheet (z.take k)++[a.2] else lay sheet (z.take k):=by
  unfold lay
  rw [List.take_add_one,h]
  simp only [Option.toList_some,List.filter_append,List.map_append]
  by_cases hs : (a.1.Sheet==sheet)=true
  · have : onS sheet a=true:=hs
    rw [if_pos hs,List.filter_cons_of_pos this]; rfl
  · have : ¬ onS sheet a=true:=hs
    rw [if_neg hs,List.filter_cons_of_neg this]; simp
theorem lay_len (sheet : Int) (z : List (Placement×Piece)) : (lay sheet z).length≤z.length:=by
  unfold lay; rw [List.length_map]; exact List.length_filter_le _ _
theorem zip_get {l : List Placement} {placed : List Piece} {k : Nat} {a : Placement×Piece} (h : (l.zip placed)[k]?=some a) : l[k]?=some a.1∧placed[k]?=some a.2:=by
  rw [List.getElem?_zip_eq_some] at h; exact h
section
variable {sheets : List Sheet} {pieces : List Piece} {t : Settings} {l : List Placement} {placed : List Piece}
theorem lay_loop (hl : l.length≤40) (hp : placed.length=l.length) (ok : ∀ (j : Nat) a b,l[j]?=some a→placed[j]?=some b→OKp sheets pieces t l j (placed.take j) a b) (sheet : Int) : loopT (cut_LayoutOf_l2 pieces l sheet) (0,[])=some (.inr (lay sheet (l.zip placed))):=by
  have hz : (l.zip placed).length=l.length:=by rw [List.length_zip]; omega
  refine loop_fold (l.zip placed) (cut_LayoutOf_l2 pieces l sheet) (fun k=>((k : Int),lay sheet ((l.zip placed).take k))) _ (fun k a ha=>?_) ?_
  · obtain ⟨h1,h2⟩:=zip_get ha
    have hk:=(List.getElem?_eq_some_iff.1 h1).1
    obtain ⟨x,n,m,g,h,s,e1,e2,_⟩:=ok k _ _ h1 h2
    have hd : decide ((k : Int) < (l.length : Int))=true:=by simp; omega
    have hll:=lay_len sheet ((l.zip placed).take k)
    rw [List.length_take] at hll
    unfold cut_LayoutOf_l2 cut_LayoutOf_k1
    rw [lay_snoc sheet ha]
    simp only [hd,if_true,idx_of h1,Option.bind_some]
    rw [iadd_eq (a:=(k : Int)) (by omega) (by omega)]
    by_cases hs : (a.1.Sheet==sheet)=true
    · simp only [hs,if_true,e1,e2,Option.bind_some,bne_self_eq_false,Bool.false_eq_true,if_false]
      rw [app_eq (by unfold LIM; simp; omega)]
      rfl
    · simp only [hs,Bool.false_eq_true,if_false]
      rfl
  · rw [hz]
    have : (l.zip placed).take l.length=l.zip placed:=by rw [← hz,List.take_length]
    simp [cut_LayoutOf_l2,this]
theorem rlay_loop (hl : l.length≤40) (hp : placed.length=l.length) (ok : ∀ (j : Nat) a b,l[j]?=some a→placed[j]?=some b→OKp sheets pieces t l j (placed.take j) a b) (sheet : Int) : loopT (sheetmetalref07_LayoutOf_l2 pieces l sheet) (0,[])=some (lay sheet (l.zip placed)):=by
  have hz : (l.zip placed).length=l.length:=by rw [List.length_zip]; omega
  refine loop_fold (l.zip placed) (sheetmetalref07_LayoutOf_l2 pieces l sheet) (fun k=>((k : Int),lay sheet ((l.zip placed).take k))) _ (fun k a ha=>?_) ?_
  · obtain ⟨h1,h2⟩:=zip_get ha
    have hk:=(List.getElem?_eq_some_iff.1 h1).1
    obtain ⟨x,n,m,g,h,s,e1,_,e2,_⟩:=ok k _ _ h1 h2
    have hd : decide ((k : Int) < (l.length : Int))=true:=by simp; omega
    have hll:=lay_len sheet ((l.zip placed).take k)
    rw [List.length_take] at hll
    unfold sheetmetalref07_LayoutOf_l2 sheetmetalref07_LayoutOf_k1
    rw [lay_snoc sheet ha]
    simp only [hd,if_true,idx_of h1,Option.bind_some]
    rw [iadd_eq (a:=(k : Int)) (by omega) (by omega)]
    by_cases hs : (a.1.Sheet==sheet)=true
    · simp only [hs,if_true,e1,e2,Option.bind_some]
      rw [app_eq (by unfold LIM; simp; omega)]
      rfl
    · simp only [hs,Bool.false_eq_true,if_false]
      rfl
  · rw [hz]
    have : (l.zip placed).take l.length=l.zip placed:=by rw [← hz,List.take_length]
    simp [sheetmetalref07_LayoutOf_l2,this]
theorem few (hp : placed.length=l.length) (ok : ∀ (j : Nat) a b,l[j]?=some a→placed[j]?=some b→OKp sheets pieces t l j (placed.take j) a b) : l.length≤pieces.length:=by
  have h:=pigeon pieces.length (l.map (·.Piece)) (fun x hx=>by
    obtain ⟨p,hpm,rfl⟩:=List.mem_map.1 hx
    obtain ⟨k,hk⟩:=List.mem_iff_getElem?.1 hpm
    have hkl:=(List.getElem?_eq_some_iff.1 hk).1
    obtain ⟨x,n,m,g,h,s,e1,_⟩:=ok k p (placed[k]'(by omega)) hk (by simp [hp,hkl])
    unfold idx at e1
    split at e1
    · have:=(List.getElem?_eq_some_iff.1 e1).1; omega
    · cases e1) (by
    rw [List.pairwise_iff_getElem]
    intro i j hi hj hij
    rw [List.length_map] at hi hj
    have hj' : l[j]?=some l[j]:=by simp
    obtain ⟨x,n,m,g,h,s,_,_,_,_,hd,_⟩:=ok j l[j] (placed[j]'(by omega)) hj' (by simp [hp,hj])
    simp only [List.getElem_map]
    intro e
    unfold dup at hd
    have:=List.any_eq_false.1 hd l[i] (by rw [List.mem_take_iff_getElem]; exact ⟨i,by omega,rfl⟩)
    simp [e] at this)
  rw [List.length_map] at h
  exact h
theorem lay_valid (hl : l.length≤40) (hs : sheets.length≤4) (hpc : pieces.length≤8) (gs : ∀ s ∈ sheets,nest_ValidateSheet s=some 0) (gp : ∀ x ∈ pieces,nest_ValidatePiece x=some 0) (gt : nest_ValidSettings t=some true) (hp : placed.length=l.length) (ok : ∀ (j : Nat) a b,l[j]?=some a→placed[j]?=some b→OKp sheets pieces t l j (placed.take j) a b) (sheet : Int) {s : Sheet} (hsh : idx sheets sheet=some s) :
    (∀ q ∈ lay sheet (l.zip placed),q.Rects.length≤12∧q.Cuts.length≤12∧q.Forms.length≤12)∧cut_Validate ⟨s,lay sheet (l.zip placed)⟩=some 0:=by
  have hz : (l.zip placed).length=l.length:=by rw [List.length_zip]; omega
  have mem : ∀ {α : Type} {l : List α} {i : Int} {x : α},idx l i=some x→x ∈ l:=fun {α l i x} e=>by
    unfold idx at e
    split at e
    · exact List.mem_of_getElem? e
    · cases e
  have hsm:=mem hsh
  have sv:=gs s hsm
  have sl:=Sheet_lens sv
  have hlen : (lay sheet (l.zip placed)).length≤8:=by
    have h1:=lay_len sheet (l.zip placed)
    have h2:=few hp ok
    omega
  have hq : ∀ q ∈ lay sheet (l.zip placed),∃ (k : Nat) (p : Placement),l[k]?=some p∧placed[k]?=some q∧p.Sheet=sheet:=fun q hq=>by
    obtain ⟨a,ha,rfl⟩:=List.mem_map.1 hq
    obtain ⟨ha,hs⟩:=List.mem_filter.1 ha
    obtain ⟨k,hk⟩:=List.mem_iff_getElem?.1 ha
    obtain ⟨h1,h2⟩:=zip_get hk
    exact ⟨k,a.1,h1,h2,by unfold onS at hs; simpa using hs⟩
  have lens : ∀ q ∈ lay sheet (l.zip placed),q.Rects.length≤12∧q.Cuts.length≤12∧q.Forms.length≤12:=fun q hqm=>by
    obtain ⟨k,p,h1,h2,_⟩:=hq q hqm
    obtain ⟨x,n,m,g,h,s',e1,e2,_⟩:=ok k p q h1 h2
    obtain ⟨q',c',n',m',g',h',p1,_,l1,l2,l3,_⟩:=Put_same x p
    rw [e2] at p1
    injection p1 with p1
    injection p1 with p1 _
    subst p1
    exact ⟨l1,l2,l3⟩
  refine ⟨lens, ?_⟩
  have v1 : loopT (cut_Validate_l1 ⟨s,lay sheet (l.zip placed)⟩) 0=some (.inr ()):=by
    have:=loop_anyS (lay sheet (l.zip placed)) (cut_Validate_l1 ⟨s,lay sheet (l.zip placed)⟩) (fun k=>(k : Int)) (fun _=>false) (.inr ()) (.inl 0) rfl (fun k q hk=>?_) ?_
    · refine this.trans ?_; simp
    · have hkl:=(List.getElem?_eq_some_iff.1 hk).1
      obtain ⟨k',p,h1,h2,_⟩:=hq q (List.mem_of_getElem? hk)
      obtain ⟨x,n,m,g,h,s',e1,e2,_⟩:=ok k' p q h1 h2
      have pr:=placed_right (gp x (mem e1)) e2
      unfold cut_Validate_l1
      have hd : decide ((k : Int) < ((lay sheet (l.zip placed)).length : Int))=true:=by rw [decide_eq_true_eq]; omega
      simp only [hd,if_true,idx_of hk,Option.bind_some,pr,bne_self_eq_false,Bool.false_eq_true,if_false]
      rw [iadd_eq (a:=(k : Int)) (by omega) (by omega)]
      rfl
    · simp [cut_Validate_l1]
  have hmar : 0≤t.Margin∧t.Margin≤14400:=by
    unfold nest_ValidSettings at gt
    simp only [from_eq,Option.bind_some] at gt
    by_cases a1 : 0≤t.Gap∧t.Gap≤14400
    · by_cases a2 : 0≤t.Margin∧t.Margin≤14400
      · exact a2
      · simp [a1,a2] at gt
    · simp only [a1,decide_false,Bool.false_eq_true,if_false,Option.bind_some] at gt
      exact absurd (Option.some.inj gt) (by decide)
  have v2 : (lay sheet (l.zip placed)).any (fun x=>x.Rects.any (offS s))=false:=by
    rw [List.any_eq_false]
    intro q hqm
    obtain ⟨k,p,h1,h2,hps⟩:=hq q hqm
    obtain ⟨x,n,m,g,h,s',e1,e2,_,e4,_,e6,_⟩:=ok k p q h1 h2
    rw [hps,hsh] at e4
    obtain rfl:=Option.some.inj e4
    have : q.Rects.any (offS s)=false:=by
      rw [List.any_eq_false]
      intro r hr
      unfold lies at e6
      have e7 : (q.Rects.any fun x=>!(decide (inRect x (innR s t.Margin))) || (s.Clamps.any (overl x) || s.Used.any (overl x)))=false:=by simpa using e6
      have e8:=List.any_eq_false.1 e7 r hr
      simp only [Bool.or_eq_true,not_or] at e8
      obtain ⟨a1,a2,a3⟩:=e8
      have a1' : inRect r (innR s t.Margin):=by simpa using a1
      have hin : inRect r ⟨0,0,s.Width,s.Height⟩:=by
        obtain ⟨b1,b2,b3,b4,b5,b6⟩:=a1'
        have c:=b2
        unfold vR innR at c
        unfold innR at b3 b4 b5 b6
        simp only at c b3 b4 b5 b6
        have hi : imul 2 t.Margin=2 * t.Margin:=imul_eq (by omega) (by omega)
        rw [hi] at c b4 b6
        have wv:=sheet_dims sv
        rw [isub_eq (by omega) (by omega)] at c b4
        rw [isub_eq (a:=s.Height) (by omega) (by omega)] at c b6
        refine ⟨b1, ?_, ?_⟩
        · unfold vR; simp only; omega
        · simp only; omega
      unfold offS
      simp only [hin,decide_true,Bool.not_true,Bool.false_or,Bool.or_eq_true,not_or]
      exact ⟨a2,a3⟩
    simp [this]
  have v3 : (List.range (lay sheet (l.zip placed)).length).any (hitK (lay sheet (l.zip placed)))=false:=by
    have pw : (l.zip placed).Pairwise (fun a b=>(a.1.Sheet==sheet)=true→(b.1.Sheet==sheet)=true→hitP b.2 a.2=false):=by
      rw [List.pairwise_iff_getElem]
      intro i j hi hj hij sa sb
      have gi:=zip_get (List.getElem?_eq_getElem hi)
      have gj:=zip_get (List.getElem?_eq_getElem hj)
      obtain ⟨x,n,m,g,h,s',e1,e2,_,e4,_,e6,e7⟩:=ok j _ _ gj.1 gj.2
      have hlj : j < l.length:=by rw [hz] at hj; exact hj
      have:=List.any_eq_false.1 e7 i (List.mem_range.2 (by rw [List.length_take]; omega))
      unfold near1 at this
      have t1 : (l.take j)[i]?=some (l.zip placed)[i].1:=by rw [List.getElem?_take]; simp only [hij,if_true]; exact gi.1
      have t2 : (placed.take j)[i]?=some (l.zip placed)[i].2:=by rw [List.getElem?_take]; simp only [hij,if_true]; exact gi.2
      rw [t1,t2] at this
      have same : ((l.zip placed)[i].1.Sheet==(l.zip placed)[j].1.Sheet)=true:=by
        have q1 : (l.zip placed)[i].1.Sheet=sheet:=by simpa using sa
        have q2 : (l.zip placed)[j].1.Sheet=sheet:=by simpa using sb
        rw [q1,q2]; simp
      simp only [same,Bool.true_and,Bool.not_eq_true,Bool.not_eq_false'] at this
      have hc : clr t (l.zip placed)[j].2.Rects (l.zip placed)[i].2.Rects=true:=by simpa using this
      unfold clr at hc
      unfold hitP
      rw [List.any_eq_false]
      intro r hr
      have : ((l.zip placed)[i].2.Rects.any fun y=>blk t r y)=false:=by
        have q : ((l.zip placed)[j].2.Rects.any fun x=>(l.zip placed)[i].2.Rects.any fun y=>blk t x y)=false:=by simpa using hc
        have:=List.any_eq_false.1 q r hr
        simpa using this
      have : ((l.zip placed)[i].2.Rects.any (overl r))=false:=by
        rw [List.any_eq_false]
        intro y hy
        have q:=List.any_eq_false.1 this y hy
        unfold blk at q
        simp only [Bool.or_eq_true,not_or] at q
        exact q.1
      rw [this]; exact Bool.false_ne_true
    have pl : (lay sheet (l.zip placed)).Pairwise (fun a b=>hitP b a=false):=by
      unfold lay
      rw [List.pairwise_map,List.pairwise_filter]
      exact pw.imp fun h ha hb=>h ha hb
    rw [List.any_eq_false]
    intro k hk
    have hkl:=List.mem_range.1 hk
    unfold hitK
    have he : (lay sheet (l.zip placed))[k]?=some (lay sheet (l.zip placed))[k]:=by simp
    rw [he]
    have : ((lay sheet (l.zip placed)).take k).any (hitP (lay sheet (l.zip placed))[k])=false:=by
      rw [List.any_eq_false]
      intro y hy
      obtain ⟨i,hi,rfl⟩:=List.mem_take_iff_getElem.1 hy
      have:=(List.pairwise_iff_getElem.1 pl) i k (by omega) hkl (by omega)
      simp [this]
    simp [this]
  have hn : ∀ x ∈ lay sheet (l.zip placed),x.Rects.length≤12:=fun x hx=>(lens x hx).1
  have h8 : decide (((lay sheet (l.zip placed)).length : Int) > 8)=false:=by simp; omega
  unfold cut_Validate
  simp only [sv,Option.bind_some,bne_self_eq_false,Bool.false_eq_true,if_false,h8,v1,l3_eq ⟨s,lay sheet (l.zip placed)⟩ hlen hn sl.1 sl.2,v2,l6_eq ⟨s,lay sheet (l.zip placed)⟩ hlen hn,v3]
theorem same_sheet (s : Sheet) (h1 : s.Clamps.length≤1000) (h2 : s.Used.length≤1000) : sheetmetalref06_SameSheet s s=some true:=by
  unfold sheetmetalref06_SameSheet
  simp [same_rects _ h1,same_rects _ h2]
theorem same_layout (a : LayoutT) (h1 : a.Sheet.Clamps.length≤1000) (h2 : a.Sheet.Used.length≤1000) (hl : a.Pieces.length≤1000) (h3 : ∀ q ∈ a.Pieces,q.Rects.length≤12∧q.Cuts.length≤12∧q.Forms.length≤12) : sheetmetalref07_SameLayout a a=some true:=by
  unfold sheetmetalref07_SameLayout
  have key : loopT (sheetmetalref07_SameLayout_l1 a a) 0=some (.inr ()):=by
    have:=loop_anyS a.Pieces (sheetmetalref07_SameLayout_l1 a a) (fun k=>(k : Int)) (fun _=>false) (.inr ()) (.inl ()) rfl (fun k x hx=>?_) ?_
    · refine this.trans ?_; simp
    · have hk:=(List.getElem?_eq_some_iff.1 hx).1
      obtain ⟨b1,b2,b3⟩:=h3 x (List.mem_of_getElem? hx)
      unfold sheetmetalref07_SameLayout_l1
      have hd : decide ((k : Int) < (a.Pieces.length : Int))=true:=by simp; omega
      simp only [hd,if_true,idx_of hx,Option.bind_some,same_piece x (show _≤1000 by omega) (show _≤1000 by omega) (show _≤1000 by omega),Bool.not_true,Bool.false_eq_true,if_false]
      rw [iadd_eq (a:=(k : Int)) (by omega) (by omega)]
      rfl
    · simp [sheetmetalref07_SameLayout_l1]
  simp [same_sheet a.Sheet h1 h2,key]
end
theorem copy_eq (s : Sheet) (h1 : s.Clamps.length≤4) (h2 : s.Used.length≤48) : cut_copySheet s=some s:=by
  unfold cut_copySheet slices_Clone_Lapi_Rect_api_Rect
  rw [app_eq (by unfold LIM; simp; omega),app_eq (by unfold LIM; simp; omega)]
  rfl
theorem law_CutLayouts (j : sheetmetallaw06_Job) (p : sheetmetallaw07_Placed) : sheetmetallaw07_CutLayouts j p=some true:=by
  unfold sheetmetallaw07_CutLayouts
  by_cases h40 : (p.L.length : Int) > 40
  · simp [h40,known_ok]
  have h40' : decide ((p.L.length : Int) > 40)=false:=by simpa using h40
  obtain ⟨r,r1,r2,r3⟩:=Check_same j.Sheets j.Pieces j.Set p.L (by omega)
  have se:=same_layout ⟨⟨ByteArray.empty,ByteArray.empty,0,0,0,0,[],[]⟩,[]⟩ (by simp) (by simp) (by simp) (by simp)
  unfold cut_LayoutOf sheetmetalref07_LayoutOf
  simp only [h40',Bool.false_eq_true,if_false,r1,r2,Option.bind_some]
  by_cases hr : r.2=0
  · obtain ⟨g1,g2,g3,g4,g5,placed,g6,g7⟩:=r3 hr
    simp only [hr,bne_self_eq_false,Bool.false_eq_true,if_false]
    by_cases c1 : p.Sheet < 0
    · simp [c1,se,known_ok]
    by_cases c2 : p.Sheet ≥ (j.Sheets.length : Int)
    · simp [c1,c2,se,known_ok]
    have hy : idx j.Sheets p.Sheet=some (j.Sheets[p.Sheet.toNat]'(by omega)):=by
      unfold idx; rw [if_pos (by omega)]; simp [show p.Sheet.toNat < j.Sheets.length by omega]
    have sl:=Sheet_lens (g3 _ (List.getElem_mem (show p.Sheet.toNat < j.Sheets.length by omega)))
    generalize j.Sheets[p.Sheet.toNat]'(by omega)=s at hy sl
    obtain ⟨w1,w2⟩:=lay_valid (by omega) g1 g2 g3 g4 g5 g6 g7 p.Sheet hy
    have hlz:=lay_len p.Sheet (p.L.zip placed)
    rw [List.length_zip] at hlz
    have sl':=same_layout ⟨s,lay p.Sheet (p.L.zip placed)⟩ (show s.Clamps.length≤1000 by omega) (show s.Used.length≤1000 by omega) (show (lay p.Sheet (p.L.zip placed)).length≤1000 by omega) w1
    simp only [c1,c2,decide_false,Bool.false_eq_true,if_false,Option.bind_some,hy,copy_eq s sl.1 sl.2,lay_loop (show p.L.length≤40 by omega) g6 g7 p.Sheet,rlay_loop (show p.L.length≤40 by omega) g6 g7 p.Sheet,beq_self_eq_true,if_true,sl',bne_self_eq_false,w2,known_ok]
  · have hr' : (r.2 != 0)=true:=by rw [bne_iff_ne]; exact hr
    simp [hr',se,known_ok]
    intro h; exact absurd h hr
end Go.SM
