/- Whole plans: both find the same first fault. The law NestChecks, on the models. -/
import Derived.Test.YtgfjbgoehhnaeaaGreatCzTurns
import Derived.Test.YtgfjbgoehhnaeaaGreatCzAllows
set_option linter.unusedVariables false
set_option linter.unusedSimpArgs false
set_option linter.unusedSectionVars false
namespace Go.SM
open Go Go.VI
theorem overlaps_eq {a b : List Rect} (ha : a.length≤1000) (hb : b.length≤1000) : nest_overlaps a b=some (a.any fun x=>b.any (overl x)):=by
  have inner : ∀ x,loopT (nest_overlaps_l1 b x) 0=some (if b.any (overl x) then .inl () else .inr ()):=by
    intro x
    refine loop_anyS b (nest_overlaps_l1 b x) (fun k=>(k : Int)) _ _ _ rfl (fun k y hy=>?_) ?_
    · have hk:=(List.getElem?_eq_some_iff.1 hy).1
      unfold nest_overlaps_l1
      have h1 : decide ((k : Int) < (b.length : Int))=true:=by simp; omega
      simp only [h1,if_true,idx_of hy,Option.bind_some,Overlap_eq]
      rw [iadd_eq (a:=(k : Int)) (by omega) (by omega)]
      rfl
    · simp [nest_overlaps_l1]
  have key : loopT (nest_overlaps_l2 a b) 0=some (if (a.any fun x=>b.any (overl x)) then .inl () else .inr ()):=by
    refine loop_anyS a (nest_overlaps_l2 a b) (fun k=>(k : Int)) _ _ _ rfl (fun k x hx=>?_) ?_
    · have hk:=(List.getElem?_eq_some_iff.1 hx).1
      unfold nest_overlaps_l2
      have h1 : decide ((k : Int) < (a.length : Int))=true:=by simp; omega
      simp only [h1,if_true,idx_of hx,Option.bind_some,inner]
      rw [iadd_eq (a:=(k : Int)) (by omega) (by omega)]
      cases b.any (overl x) <;> rfl
    · simp [nest_overlaps_l2]
  unfold nest_overlaps
  rw [key]
  cases (a.any fun x=>b.any (overl x)) <;> rfl
theorem sheets_body (sheets : List Sheet) : sheetmetalref06_given_l1 sheets=nest_lists_l1 sheets:=by
  funext s
  unfold sheetmetalref06_given_l1 nest_lists_l1
  cases idx sheets s with
  | none=>rfl
  | some x =>
    obtain ⟨b,h1,h2⟩:=Sheet_same x
    simp only [Option.bind_some,h1,h2]
theorem pieces_body (pieces : List Piece) : sheetmetalref06_given_l2 pieces=nest_lists_l2 pieces:=by
  funext s
  unfold sheetmetalref06_given_l2 nest_lists_l2
  cases idx pieces s with
  | none=>rfl
  | some x =>
    obtain ⟨b,h1,h2⟩:=Piece_same x
    simp only [Option.bind_some,h1,h2]
theorem lists_same (sheets : List Sheet) (pieces : List Piece) : ∃ b,nest_lists sheets pieces=some b∧sheetmetalref06_given sheets pieces=some b∧(b=0→sheets.length≤4∧pieces.length≤8∧(∀ s ∈ sheets,nest_ValidateSheet s=some 0)∧∀ x ∈ pieces,nest_ValidatePiece x=some 0):=by
  unfold nest_lists sheetmetalref06_given
  rw [sheets_body,pieces_body]
  by_cases h1 : (sheets.length : Int) > 4
  · exact ⟨4,by simp [h1],by simp [h1],fun h=>absurd h (by decide)⟩
  by_cases h2 : (pieces.length : Int) > 8
  · exact ⟨4,by simp [h1,h2],by simp [h1,h2],fun h=>absurd h (by decide)⟩
  simp only [h1,h2,decide_false,Bool.false_eq_true,if_false,Option.bind_some]
  have k1 : (∃ c,loopT (nest_lists_l1 sheets) 0=some (.inl c)∧c≠0)∨(loopT (nest_lists_l1 sheets) 0=some (.inr ())∧∀ s ∈ sheets,nest_ValidateSheet s=some 0):=by
    have key : ∀ (m k : Nat),k+m=sheets.length→(∀ s ∈ sheets.take k,nest_ValidateSheet s=some 0)→(∃ c,loopT (nest_lists_l1 sheets) (k : Int)=some (.inl c)∧c≠0)∨(loopT (nest_lists_l1 sheets) (k : Int)=some (.inr ())∧∀ s ∈ sheets,nest_ValidateSheet s=some 0):=by
      intro m
      induction m with
      | zero =>
        intro k h hb; obtain rfl : k=sheets.length:=by omega
        rw [List.take_length] at hb
        exact .inr ⟨loop_out (by simp [nest_lists_l1]),hb⟩
      | succ m ih =>
        intro k h hb
        have hx : sheets[k]?=some (sheets[k]'(by omega)):=by simp [show k < sheets.length by omega]
        obtain ⟨b,hv,_⟩:=Sheet_same (sheets[k]'(by omega))
        have hd : decide ((k : Int) < (sheets.length : Int))=true:=by simp; omega
        by_cases hb0 : b=0
        · subst hb0
          rw [loop_in (s':=((k+1 : Nat) : Int))]
          · refine ih (k+1) (by omega) fun s hs=>?_
            rw [List.take_add_one,hx] at hs
            rcases List.mem_append.1 hs with hs | hs
            · exact hb s hs
            · simp at hs; rw [hs]; exact hv
          · unfold nest_lists_l1
            simp only [hd,if_true,idx_of hx,Option.bind_some,hv,bne_self_eq_false,Bool.false_eq_true,if_false]
            rw [iadd_eq (by omega) (by omega)]; rfl
        · refine .inl ⟨b,loop_out ?_,hb0⟩
          have hb' : (b != 0)=true:=by rw [bne_iff_ne]; exact hb0
          unfold nest_lists_l1
          simp only [hd,if_true,idx_of hx,Option.bind_some,hv,hb']
    exact key sheets.length 0 (by omega) (by simp)
  have k2 : (∃ c,loopT (nest_lists_l2 pieces) 0=some (.inl c)∧c≠0)∨(loopT (nest_lists_l2 pieces) 0=some (.inr ())∧∀ s ∈ pieces,nest_ValidatePiece s=some 0):=by
    have key : ∀ (m k : Nat),k+m=pieces.length→(∀ s ∈ pieces.take k,nest_ValidatePiece s=some 0)→(∃ c,loopT (nest_lists_l2 pieces) (k : Int)=some (.inl c)∧c≠0)∨(loopT (nest_lists_l2 pieces) (k : Int)=some (.inr ())∧∀ s ∈ pieces,nest_ValidatePiece s=some 0):=by
      intro m
      induction m with
      | zero =>
        intro k h hb; obtain rfl : k=pieces.length:=by omega
        rw [List.take_length] at hb
        exact .inr ⟨loop_out (by simp [nest_lists_l2]),hb⟩
      | succ m ih =>
        intro k h hb
        have hx : pieces[k]?=some (pieces[k]'(by omega)):=by simp [show k < pieces.length by omega]
        obtain ⟨b,hv,_⟩:=Piece_same (pieces[k]'(by omega))
        have hd : decide ((k : Int) < (pieces.length : Int))=true:=by simp; omega
        by_cases hb0 : b=0
        · subst hb0
          rw [loop_in (s':=((k+1 : Nat) : Int))]
          · refine ih (k+1) (by omega) fun s hs=>?_
            rw [List.take_add_one,hx] at hs
            rcases List.mem_append.1 hs with hs | hs
            · exact hb s hs
            · simp at hs; rw [hs]; exact hv
          · unfold nest_lists_l2
            simp only [hd,if_true,idx_of hx,Option.bind_some,hv,bne_self_eq_false,Bool.false_eq_true,if_false]
            rw [iadd_eq (by omega) (by omega)]; rfl
        · refine .inl ⟨b,loop_out ?_,hb0⟩
          have hb' : (b != 0)=true:=by rw [bne_iff_ne]; exact hb0
          unfold nest_lists_l2
          simp only [hd,if_true,idx_of hx,Option.bind_some,hv,hb']
    exact key pieces.length 0 (by omega) (by simp)
  rcases k1 with ⟨c,e1,hc⟩ | ⟨e1,g1⟩
  · rw [e1]; exact ⟨c,rfl,rfl,fun h=>absurd h hc⟩
  · rw [e1]
    rcases k2 with ⟨c,e2,hc⟩ | ⟨e2,g2⟩
    · simp only [Option.bind_some,e2]; exact ⟨c,rfl,rfl,fun h=>absurd h hc⟩
    · simp only [Option.bind_some,e2]; exact ⟨0,rfl,rfl,fun _=>⟨by omega,by omega,g1,g2⟩⟩
def lies (l : List Rect) (s : Sheet) (r : Rect) : Bool:=!(l.any fun x=>!(decide (inRect x r)) || (s.Clamps.any (overl x) || s.Used.any (overl x)))
def innR (s : Sheet) (m : Int) : Rect:=⟨m,m,isub s.Width (imul 2 m),isub s.Height (imul 2 m)⟩
theorem well_eq {l : List Rect} {s : Sheet} (t : Settings) (hl : l.length≤1000) (h1 : s.Clamps.length≤1000) (h2 : s.Used.length≤1000) : sheetmetalref06_well l s t=some (lies l s (innR s t.Margin)):=by
  have key : loopT (sheetmetalref06_well_l1 l s t) 0=some (if (l.any fun x=>!(decide (inRect x (innR s t.Margin))) || (s.Clamps.any (overl x) || s.Used.any (overl x))) then .inl () else .inr ()):=by
    refine loop_anyS l (sheetmetalref06_well_l1 l s t) (fun k=>(k : Int)) _ _ _ rfl (fun k x hx=>?_) ?_
    · have hk:=(List.getElem?_eq_some_iff.1 hx).1
      unfold sheetmetalref06_well_l1
      have hd : decide ((k : Int) < (l.length : Int))=true:=by simp; omega
      have e : sheetmetalref06_Within x ⟨t.Margin,t.Margin,isub s.Width (imul 2 t.Margin),isub s.Height (imul 2 t.Margin)⟩=some (decide (inRect x (innR s t.Margin))):=Within_eq _ _
      simp only [hd,if_true,idx_of hx,Option.bind_some,e,Meets_eq x _ h1,Meets_eq x _ h2]
      rw [iadd_eq (a:=(k : Int)) (by omega) (by omega)]
      cases decide (inRect x (innR s t.Margin)) <;> cases s.Clamps.any (overl x) <;> cases s.Used.any (overl x) <;> rfl
    · simp [sheetmetalref06_well_l1]
  unfold sheetmetalref06_well
  rw [key]
  unfold lies
  cases (l.any fun x=>!(decide (inRect x (innR s t.Margin))) || (s.Clamps.any (overl x) || s.Used.any (overl x))) <;> rfl
theorem liesWell_eq {x : Piece} {s : Sheet} (t : Settings) (turn : Int) {al : Bool} (hal : nest_Allowed x s turn=some al) (hl : x.Rects.length≤1000) (h0 : 0 < x.Rects.length) (h1 : s.Clamps.length≤1000) (h2 : s.Used.length≤1000) : nest_liesWell x s t turn=some (al&&lies x.Rects s (innR s t.Margin)):=by
  have hi : nest_inner s t.Margin=some (innR s t.Margin,decide (vR (innR s t.Margin))):=by
    unfold nest_inner innR
    rw [ValidRect_eq]; rfl
  have key : loopT (nest_liesWell_l1 x (innR s t.Margin,decide (vR (innR s t.Margin)))) 0=some (if (x.Rects.any fun y=>!(decide (inRect y (innR s t.Margin)))) then .inl () else .inr ()):=by
    refine loop_anyS x.Rects (nest_liesWell_l1 x (innR s t.Margin,decide (vR (innR s t.Margin)))) (fun k=>(k : Int)) _ _ _ rfl (fun k y hx=>?_) ?_
    · have hk:=(List.getElem?_eq_some_iff.1 hx).1
      unfold nest_liesWell_l1
      have hd : decide ((k : Int) < (x.Rects.length : Int))=true:=by simp; omega
      simp only [hd,if_true,idx_of hx,Option.bind_some,Inside_eq]
      rw [iadd_eq (a:=(k : Int)) (by omega) (by omega)]
      rfl
    · simp [nest_liesWell_l1]
  unfold nest_liesWell
  simp only [hi,Option.bind_some,hal,key,overlaps_eq hl h1,overlaps_eq hl h2]
  have hz : lies x.Rects s (innR s t.Margin)=(!(x.Rects.any fun y=>!(decide (inRect y (innR s t.Margin))))&&(!(x.Rects.any fun y=>s.Clamps.any (overl y))&&!(x.Rects.any fun y=>s.Used.any (overl y)))):=by
    unfold lies
    rw [Bool.eq_iff_iff]
    simp only [Bool.not_eq_true',Bool.and_eq_true,List.any_eq_false,Bool.or_eq_true,not_or]
    constructor
    · intro h; exact ⟨fun y hy=>(h y hy).1,fun y hy=>(h y hy).2.1,fun y hy=>(h y hy).2.2⟩
    · rintro ⟨a,b,c⟩ y hy; exact ⟨a y hy,b y hy,c y hy⟩
  by_cases hv : vR (innR s t.Margin)
  · simp only [hv,decide_true,if_true,Option.bind_some,hz]
    cases al
    · rfl
    · cases (x.Rects.any fun y=>!(decide (inRect y (innR s t.Margin)))) <;> cases (x.Rects.any fun y=>s.Clamps.any (overl y)) <;> cases (x.Rects.any fun y=>s.Used.any (overl y)) <;> rfl
  · have : (x.Rects.any fun y=>!(decide (inRect y (innR s t.Margin))))=true:=by
      rw [List.any_eq_true]
      refine ⟨x.Rects[0],List.getElem_mem h0, ?_⟩
      have : ¬ inRect x.Rects[0] (innR s t.Margin):=fun q=>hv q.2.1
      simp [this]
    rw [hz,this]
    simp only [hv,decide_false,Bool.false_eq_true,if_false,Option.bind_some,if_true,Bool.not_true,Bool.false_and,Bool.and_false]
def laidAt (pieces : List Piece) (p : Placement) (q : Piece) : Prop:=∃ x c n m g h,idx pieces p.Piece=some x∧nest_Put x p=some (q,c,n,m,g,h)∧sheetmetalref06_Put x p=some (q,c,n,m,g,h)∧q.Rects.length≤12
def dup (l : List Placement) (p : Placement) : Bool:=l.any fun q=>q.Piece==p.Piece
theorem dup_loop (l : List Placement) (p : Placement) (hl : l.length≤1000) : loopT (nest_Check_l1 p l) 0=some (if dup l p then .inl () else .inr ()):=by
  refine loop_anyS l (nest_Check_l1 p l) (fun k=>(k : Int)) _ _ _ rfl (fun k x hx=>?_) ?_
  · have hk:=(List.getElem?_eq_some_iff.1 hx).1
    unfold nest_Check_l1
    have h1 : decide ((k : Int) < (l.length : Int))=true:=by simp; omega
    simp only [h1,if_true,idx_of hx,Option.bind_some]
    rw [iadd_eq (a:=(k : Int)) (by omega) (by omega)]
    rfl
  · simp [nest_Check_l1]
theorem rdup_loop (l : List Placement) (p : Placement) (hl : l.length≤1000) : loopT (sheetmetalref06_one_l1 l p) 0=some (if dup l p then .inl () else .inr ()):=by
  refine loop_anyS l (sheetmetalref06_one_l1 l p) (fun k=>(k : Int)) _ _ _ rfl (fun k x hx=>?_) ?_
  · have hk:=(List.getElem?_eq_some_iff.1 hx).1
    unfold sheetmetalref06_one_l1
    have h1 : decide ((k : Int) < (l.length : Int))=true:=by simp; omega
    simp only [h1,if_true,idx_of hx,Option.bind_some]
    rw [iadd_eq (a:=(k : Int)) (by omega) (by omega)]
    rfl
  · simp [sheetmetalref06_one_l1]
def near1 (t : Settings) (l : List Placement) (placed : List Piece) (p : Placement) (q : Piece) (k : Nat) : Bool:=match l[k]?,placed[k]? with
  | some a,some b=>(a.Sheet==p.Sheet)&&!(clr t q.Rects b.Rects)
  | _,_=>false
theorem near_loop {pieces : List Piece} (t : Settings) {l : List Placement} {placed : List Piece} (p : Placement) (q : Piece×Int×ByteArray×ByteArray×Int×Int) (i : Int) (hl : l.length≤1000) (hp : placed.length=l.length) (hq : q.1.Rects.length≤12) (inv : ∀ (j : Nat) a b,l[j]?=some a→placed[j]?=some b→laidAt pieces a b) :
    loopT (nest_Check_l2 t (i,placed) p q l) 0=some (if (List.range l.length).any (near1 t l placed p q.1) then .inl () else .inr ()):=by
  refine loop_rng l.length (nest_Check_l2 t (i,placed) p q l) (fun k=>(k : Int)) _ _ _ rfl (fun k hk=>?_) ?_
  · have hx : l[k]?=some l[k]:=by simp
    have hy : placed[k]?=some (placed[k]'(by omega)):=by simp [hp,hk]
    obtain ⟨x,c,n,m,g,h,e1,e2,e3,e4⟩:=inv k _ _ hx hy
    unfold nest_Check_l2 near1
    have h1 : decide ((k : Int) < (l.length : Int))=true:=by simp; omega
    simp only [h1,if_true,idx_of hx,idx_of hy,hx,hy,Option.bind_some,Clear_eq _ _ t (show q.1.Rects.length≤_ by omega) (show (placed[k]'(by omega)).Rects.length≤_ by omega)]
    rw [iadd_eq (a:=(k : Int)) (by omega) (by omega)]
    cases (l[k].Sheet==p.Sheet) <;> simp
  · simp [nest_Check_l2]
theorem rnear_loop {pieces : List Piece} (t : Settings) {l : List Placement} {placed : List Piece} (p : Placement) (q : Piece×Int×ByteArray×ByteArray×Int×Int) (hl : l.length≤1000) (hp : placed.length=l.length) (hq : q.1.Rects.length≤12) (inv : ∀ (j : Nat) a b,l[j]?=some a→placed[j]?=some b→laidAt pieces a b) :
    loopT (sheetmetalref06_one_l2 pieces t l p q) 0=some (if (List.range l.length).any (near1 t l placed p q.1) then .inl () else .inr ()):=by
  refine loop_rng l.length (sheetmetalref06_one_l2 pieces t l p q) (fun k=>(k : Int)) _ _ _ rfl (fun k hk=>?_) ?_
  · have hx : l[k]?=some l[k]:=by simp
    have hy : placed[k]?=some (placed[k]'(by omega)):=by simp [hp,hk]
    obtain ⟨x,c,n,m,g,h,e1,e2,e3,e4⟩:=inv k _ _ hx hy
    unfold sheetmetalref06_one_l2 near1
    have h1 : decide ((k : Int) < (l.length : Int))=true:=by simp; omega
    simp only [h1,if_true,idx_of hx,hx,hy,Option.bind_some,e1,e3,rClear_eq _ _ t (show q.1.Rects.length≤_ by omega) (show (placed[k]'(by omega)).Rects.length≤_ by omega)]
    rw [iadd_eq (a:=(k : Int)) (by omega) (by omega)]
    cases (l[k].Sheet==p.Sheet) <;> simp
  · simp [sheetmetalref06_one_l2]
def OKp (sheets : List Sheet) (pieces : List Piece) (t : Settings) (l : List Placement) (k : Nat) (placed : List Piece) (p : Placement) (q : Piece) : Prop:=∃ x n m g h s,idx pieces p.Piece=some x∧nest_Put x p=some (q,0,n,m,g,h)∧sheetmetalref06_Put x p=some (q,0,n,m,g,h)∧idx sheets p.Sheet=some s∧dup (l.take k) p=false∧lies q.Rects s (innR s t.Margin)=true∧(List.range (l.take k).length).any (near1 t (l.take k) placed p q)=false
theorem one_same {sheets : List Sheet} {pieces : List Piece} (t : Settings) {l : List Placement} (hl : l.length≤40) (hs : sheets.length≤4) (hp : pieces.length≤8) (gs : ∀ s ∈ sheets,nest_ValidateSheet s=some 0) {k : Nat} {p : Placement} (hk : l[k]?=some p) {placed : List Piece} (hpl : placed.length=k) (inv : ∀ (j : Nat) a b,(l.take k)[j]?=some a→placed[j]?=some b→laidAt pieces a b) :
    ∃ e : Int,sheetmetalref06_one sheets pieces t (l.take k) p=some e∧((e≠0∧nest_Check_l3 sheets pieces t l ((k : Int),placed)=some (.inr (.inl ((k : Int),e))))∨(e=0∧∃ q,laidAt pieces p q∧OKp sheets pieces t l k placed p q∧nest_Check_l3 sheets pieces t l ((k : Int),placed)=some (.inl (((k+1 : Nat) : Int),placed++[q])))):=by
  have hkl:=(List.getElem?_eq_some_iff.1 hk).1
  have hd : decide ((k : Int) < (l.length : Int))=true:=by simp; omega
  have e0 : isub (pieces.length : Int) 1=(pieces.length : Int) - 1:=isub_eq (by omega) (by omega)
  have e1 : isub (sheets.length : Int) 1=(sheets.length : Int) - 1:=isub_eq (by omega) (by omega)
  unfold sheetmetalref06_one nest_Check_l3
  simp only [hd,if_true,idx_of hk,Option.bind_some,from_eq,e0,e1]
  by_cases a1 : p.Piece < 0
  · exact ⟨1,by simp [a1],.inl ⟨by decide,by simp [show ¬ (0≤p.Piece∧p.Piece≤(pieces.length : Int) - 1) by omega]⟩⟩
  by_cases a2 : p.Piece ≥ (pieces.length : Int)
  · exact ⟨1,by simp [a1,a2],.inl ⟨by decide,by simp [show ¬ (0≤p.Piece∧p.Piece≤(pieces.length : Int) - 1) by omega]⟩⟩
  by_cases a3 : p.Sheet < 0
  · exact ⟨1,by simp [a1,a2,a3],.inl ⟨by decide,by simp [show (0≤p.Piece∧p.Piece≤(pieces.length : Int) - 1) by omega,show ¬ (0≤p.Sheet∧p.Sheet≤(sheets.length : Int) - 1) by omega]⟩⟩
  by_cases a4 : p.Sheet ≥ (sheets.length : Int)
  · exact ⟨1,by simp [a1,a2,a3,a4],.inl ⟨by decide,by simp [show (0≤p.Piece∧p.Piece≤(pieces.length : Int) - 1) by omega,show ¬ (0≤p.Sheet∧p.Sheet≤(sheets.length : Int) - 1) by omega]⟩⟩
  have b1 : (0≤p.Piece∧p.Piece≤(pieces.length : Int) - 1):=by omega
  have b2 : (0≤p.Sheet∧p.Sheet≤(sheets.length : Int) - 1):=by omega
  have hx : idx pieces p.Piece=some (pieces[p.Piece.toNat]'(by omega)):=by
    unfold idx; rw [if_pos b1.1]; simp [show p.Piece.toNat < pieces.length by omega]
  have hy : idx sheets p.Sheet=some (sheets[p.Sheet.toNat]'(by omega)):=by
    unfold idx; rw [if_pos b2.1]; simp [show p.Sheet.toNat < sheets.length by omega]
  have gy:=Sheet_lens (gs _ (List.getElem_mem (show p.Sheet.toNat < sheets.length by omega)))
  generalize pieces[p.Piece.toNat]'(by omega)=x at hx
  generalize sheets[p.Sheet.toNat]'(by omega)=s at hy gy
  obtain ⟨q,c,n,m,g,h,p1,p2,q1,q2,q3,q4⟩:=Put_same x p
  have hlaid : laidAt pieces p q:=⟨x,c,n,m,g,h,hx,p1,p2,q1⟩
  simp only [a1,a2,a3,a4,b1,b2,and_self,decide_true,decide_false,if_true,Bool.false_eq_true,if_false,Bool.not_true,Option.bind_some,hx,p1,p2]
  by_cases hc : c=0
  · subst hc
    have q5:=q4 rfl
    have hlt : (l.take k).length=k:=by rw [List.length_take]; omega
    obtain ⟨al,al1,al2⟩:=Allowed_same q s p.Turn
    have hw:=well_eq (l:=q.Rects) (s:=s) t (by omega) (by omega) (by omega)
    have hlw:=liesWell_eq (x:=q) (s:=s) t p.Turn al1 (by omega) q5 (by omega) (by omega)
    have al2' : sheetmetalref06_Allowed (Piece.mk q.Name q.Material q.Gauge q.Grain q.Rects q.Cuts q.Forms) s p.Turn=some al:=al2
    have hlw' : nest_liesWell (Piece.mk q.Name q.Material q.Gauge q.Grain q.Rects q.Cuts q.Forms) s t p.Turn=some (al&&lies q.Rects s (innR s t.Margin)):=hlw
    have n1:=near_loop (pieces:=pieces) t (l:=l.take k) (placed:=placed) p (q,0,n,m,g,h) (k : Int) (by omega) (by omega) q1 inv
    have n2:=rnear_loop (pieces:=pieces) t (l:=l.take k) (placed:=placed) p (q,0,n,m,g,h) (by omega) (by omega) q1 inv
    simp only [bne_self_eq_false,Bool.false_eq_true,if_false,dup_loop (l.take k) p (by omega),rdup_loop (l.take k) p (by omega),slc_takeA (Nat.le_of_lt hkl),Option.bind_some]
    cases hdup : dup (l.take k) p with
    | true=>exact ⟨12,rfl,.inl ⟨by decide,rfl⟩⟩
    | false =>
    simp only [Bool.false_eq_true,if_false,hy,Option.bind_some,al2',hlw',hw]
    cases al with
    | false=>exact ⟨13,rfl,.inl ⟨by decide,rfl⟩⟩
    | true =>
    simp only [if_true,Option.bind_some,Bool.true_and]
    cases hlies : lies q.Rects s (innR s t.Margin) with
    | false=>exact ⟨13,rfl,.inl ⟨by decide,rfl⟩⟩
    | true =>
    simp only [Bool.not_true,Bool.false_eq_true,if_false,n1,n2,Option.bind_some]
    cases hnear : (List.range (l.take k).length).any (near1 t (l.take k) placed p (q,(0 : Int),n,m,g,h).1) with
    | true=>exact ⟨7,rfl,.inl ⟨by decide,rfl⟩⟩
    | false =>
      refine ⟨0,rfl,.inr ⟨rfl,q,hlaid,⟨x,n,m,g,h,s,hx,p1,p2,hy,hdup,hlies,hnear⟩, ?_⟩⟩
      simp only [Bool.false_eq_true,if_false]
      rw [app_eq (by unfold LIM; simp; omega),iadd_eq (by omega) (by omega)]
      rfl
  · have hc' : (c != 0)=true:=by rw [bne_iff_ne]; exact hc
    exact ⟨1,by simp [hc'],.inl ⟨by decide,by simp [hc']⟩⟩
theorem check_loop {sheets : List Sheet} {pieces : List Piece} (t : Settings) {l : List Placement} (hl : l.length≤40) (hs : sheets.length≤4) (hp : pieces.length≤8) (gs : ∀ s ∈ sheets,nest_ValidateSheet s=some 0) :
    ∃ r,loopT (nest_Check_l3 sheets pieces t l) (0,[])=some r∧loopT (sheetmetalref06_Check_l1 sheets pieces t l) 0=some r∧(∀ j,r=.inl j→j.2≠0)∧(r=.inr ()→∃ placed : List Piece,placed.length=l.length∧∀ (j : Nat) a b,l[j]?=some a→placed[j]?=some b→OKp sheets pieces t l j (placed.take j) a b):=by
  have key : ∀ (m k : Nat) (placed : List Piece),k+m=l.length→placed.length=k→(∀ (j : Nat) a b,(l.take k)[j]?=some a→placed[j]?=some b→laidAt pieces a b)→(∀ (j : Nat) a b,(l.take k)[j]?=some a→placed[j]?=some b→OKp sheets pieces t l j (placed.take j) a b) →
      ∃ r,loopT (nest_Check_l3 sheets pieces t l) ((k : Int),placed)=some r∧loopT (sheetmetalref06_Check_l1 sheets pieces t l) (k : Int)=some r∧(∀ j,r=.inl j→j.2≠0)∧(r=.inr ()→∃ placed : List Piece,placed.length=l.length∧∀ (j : Nat) a b,l[j]?=some a→placed[j]?=some b→OKp sheets pieces t l j (placed.take j) a b):=by
    intro m
    induction m with
    | zero =>
      intro k placed h hpl inv inv2
      obtain rfl : k=l.length:=by omega
      rw [List.take_length] at inv2
      exact ⟨.inr (),loop_out (by simp [nest_Check_l3]),loop_out (by simp [sheetmetalref06_Check_l1]),fun j hj=>(by cases hj),fun _=>⟨placed,hpl,inv2⟩⟩
    | succ m ih =>
      intro k placed h hpl inv inv2
      have hk : l[k]?=some (l[k]'(by omega)):=by simp [show k < l.length by omega]
      have hd : decide ((k : Int) < (l.length : Int))=true:=by simp; omega
      obtain ⟨e,h1,h2⟩:=one_same t hl hs hp gs hk hpl inv
      rcases h2 with ⟨he,h2⟩ | ⟨he,q,hq,hok,h2⟩
      · refine ⟨.inl ((k : Int),e),loop_out h2,loop_out ?_,fun j hj=>(by injection hj with hj; rw [← hj]; exact he),fun hj=>(by cases hj)⟩
        have he' : (e != 0)=true:=by rw [bne_iff_ne]; exact he
        unfold sheetmetalref06_Check_l1
        simp only [hd,if_true,slc_takeA (show k≤l.length by omega),idx_of hk,Option.bind_some,h1,he']
      · subst he
        have hlt : (l.take k).length=k:=by rw [List.length_take]; omega
        obtain ⟨r,r1,r2,r3⟩:=ih (k+1) (placed++[q]) (by omega) (by simp; omega) (fun j a b ha hb=>by
          rw [List.take_add_one,hk] at ha
          have hlt : (l.take k).length=k:=by rw [List.length_take]; omega
          by_cases hj : j < k
          · rw [List.getElem?_append_left (by omega)] at ha hb
            exact inv j a b ha hb
          · rw [List.getElem?_append_right (by omega)] at ha hb
            rw [hlt] at ha; rw [hpl] at hb
            by_cases hj0 : j - k=0
            · rw [hj0] at ha hb
              simp at ha hb
              rw [← ha,← hb]; exact hq
            · have : 1≤j - k:=by omega
              rw [List.getElem?_eq_none (by simp; omega)] at hb
              cases hb) (fun j a b ha hb=>by
          rw [List.take_add_one,hk] at ha
          by_cases hj : j < k
          · rw [List.getElem?_append_left (by omega)] at ha hb
            rw [List.take_append_of_le_length (by omega)]
            exact inv2 j a b ha hb
          · rw [List.getElem?_append_right (by omega)] at ha hb
            rw [hlt] at ha; rw [hpl] at hb
            by_cases hj0 : j - k=0
            · obtain rfl : j=k:=by omega
              rw [hj0] at ha hb
              simp at ha hb
              rw [← ha,← hb,List.take_append_of_le_length (by omega),List.take_of_length_le (by omega)]; exact hok
            · have : 1≤j - k:=by omega
              rw [List.getElem?_eq_none (by simp; omega)] at hb
              cases hb)
        refine ⟨r,by rw [loop_in h2]; exact r1, ?_,r3⟩
        rw [loop_in (s':=((k+1 : Nat) : Int))]
        · exact r2
        · unfold sheetmetalref06_Check_l1
          simp only [hd,if_true,slc_takeA (show k≤l.length by omega),idx_of hk,Option.bind_some,h1,bne_self_eq_false,Bool.false_eq_true,if_false]
          rw [iadd_eq (by omega) (by omega)]; rfl
  exact key l.length 0 [] (by omega) rfl (fun j a b _ hb=>by simp at hb) (fun j a b _ hb=>by simp at hb)
theorem Check_same (sheets : List Sheet) (pieces : List Piece) (t : Settings) (l : List Placement) (hl : l.length≤40) : ∃ r,nest_Check sheets pieces t l=some r∧sheetmetalref06_Check sheets pieces t l=some r∧(r.2=0→sheets.length≤4∧pieces.length≤8∧(∀ s ∈ sheets,nest_ValidateSheet s=some 0)∧(∀ x ∈ pieces,nest_ValidatePiece x=some 0)∧nest_ValidSettings t=some true∧∃ placed : List Piece,placed.length=l.length∧∀ (j : Nat) a b,l[j]?=some a→placed[j]?=some b→OKp sheets pieces t l j (placed.take j) a b):=by
  obtain ⟨b,b1,b2,b3⟩:=lists_same sheets pieces
  obtain ⟨c,c1,c2⟩:=Settings_same t
  unfold nest_Check sheetmetalref06_Check
  rw [b1,b2,c1,c2]
  simp only [Option.bind_some]
  by_cases hb : b=0
  · obtain ⟨g1,g2,g3,g4⟩:=b3 hb
    subst hb
    simp only [bne_self_eq_false,Bool.false_eq_true,if_false]
    cases c with
    | false=>exact ⟨_,rfl,rfl,fun h=>absurd h (by decide)⟩
    | true =>
      obtain ⟨r,r1,r2,r3,r4⟩:=check_loop t hl g1 g2 g3
      simp only [Bool.not_true,Bool.false_eq_true,if_false,r1,r2,Option.bind_some]
      cases r with
      | inl j=>exact ⟨_,rfl,rfl,fun h=>absurd h (r3 j rfl)⟩
      | inr j=>exact ⟨_,rfl,rfl,fun _=>⟨g1,g2,g3,g4,trivial,r4 rfl⟩⟩
  · have hb' : (b != 0)=true:=by rw [bne_iff_ne]; exact hb
    simp only [hb',if_true]
    exact ⟨_,rfl,rfl,fun h=>absurd h hb⟩
end Go.SM
