/- Sheets and settings: both say the same of each. -/
import Derived.Test.YtgfjbgoehhnaeaaGreatCzNames
set_option linter.unusedVariables false
set_option linter.unusedSimpArgs false
set_option linter.unusedSectionVars false
namespace Go.SM
open Go Go.VI
theorem from_eq (n lo hi : Int) : nest_from n lo hi=some (decide (lo≤n∧n≤hi)):=by
  unfold nest_from
  by_cases h1 : lo≤n <;> simp [h1]
theorem plain_eq (g r : Int) : nest_plain g r=some (decide ((1≤g∧g≤60)∧0≤r∧r≤2)):=by
  unfold nest_plain
  simp only [from_eq,Option.bind_some]
  by_cases h1 : 1≤g∧g≤60
  · simp [h1]
  · simp only [h1,decide_false,false_and]; rfl
theorem stuff_eq {n m : ByteArray} {a b : Bool} (hn : sheetmetalref02_ValidName n=some a) (hm : sheetmetalref02_ValidName m=some b) (g r : Int) : sheetmetalref06_stuff n m g r=some (if a&&b then (if (1≤g∧g≤60)∧0≤r∧r≤2 then 0 else 1) else 2):=by
  unfold sheetmetalref06_stuff
  rw [hn,hm]
  cases a
  · rfl
  · cases b
    · rfl
    · by_cases h1 : g < 1
      · have : ¬ ((1≤g∧g≤60)∧0≤r∧r≤2):=by omega
        simp [h1,this]
      · by_cases h2 : g > 60
        · have : ¬ ((1≤g∧g≤60)∧0≤r∧r≤2):=by omega
          simp [h1,h2,this]
        · by_cases h3 : r < 0
          · have : ¬ ((1≤g∧g≤60)∧0≤r∧r≤2):=by omega
            simp [h1,h2,h3,this]
          · by_cases h4 : r > 2
            · have : ¬ ((1≤g∧g≤60)∧0≤r∧r≤2):=by omega
              simp [h1,h2,h3,h4,this]
            · have : ((1≤g∧g≤60)∧0≤r∧r≤2):=by omega
              simp [h1,h2,h3,h4,this]
theorem valid_eq (l : List Rect) (hl : l.length≤9223372036854775806) : nest_valid l=some (!(l.any fun x=>!decide (vR x))):=by
  have key : loopT (nest_valid_l1 l) 0=some (if (l.any fun x=>!decide (vR x)) then .inl () else .inr ()):=by
    refine loop_anyS l (nest_valid_l1 l) (fun k=>(k : Int)) _ _ _ rfl (fun k x hx=>?_) ?_
    · have hk:=(List.getElem?_eq_some_iff.1 hx).1
      unfold nest_valid_l1
      have h1 : decide ((k : Int) < (l.length : Int))=true:=by simp; omega
      simp only [h1,if_true,idx_of hx,Option.bind_some,ValidRect_eq]
      rw [iadd_eq (a:=(k : Int)) (by omega) (by omega)]
      rfl
    · simp [nest_valid_l1]
  unfold nest_valid
  rw [key]
  cases (l.any fun x=>!decide (vR x)) <;> rfl
theorem Rights_eq (l : List Rect) (hl : l.length≤9223372036854775806) : sheetmetalref06_Rights l=some (!(l.any fun x=>!decide (vR x))):=by
  have key : loopT (sheetmetalref06_Rights_l1 l) 0=some (if (l.any fun x=>!decide (vR x)) then .inl () else .inr ()):=by
    refine loop_anyS l (sheetmetalref06_Rights_l1 l) (fun k=>(k : Int)) _ _ _ rfl (fun k x hx=>?_) ?_
    · have hk:=(List.getElem?_eq_some_iff.1 hx).1
      unfold sheetmetalref06_Rights_l1
      have h1 : decide ((k : Int) < (l.length : Int))=true:=by simp; omega
      simp only [h1,if_true,idx_of hx,Option.bind_some,Right_eq]
      rw [iadd_eq (a:=(k : Int)) (by omega) (by omega)]
      rfl
    · simp [sheetmetalref06_Rights_l1]
  unfold sheetmetalref06_Rights
  rw [key]
  cases (l.any fun x=>!decide (vR x)) <;> rfl
def outs (r : Rect) (l : List Rect) : Bool:=l.any fun x=>!decide (inRect x r)
theorem in1_loop (r : Rect×Bool) (l : List Rect) (hl : l.length≤9223372036854775806) : loopT (nest_ValidateSheet_l1 r l) 0=some (if outs r.1 l then .inl () else .inr ()):=by
  refine loop_anyS l (nest_ValidateSheet_l1 r l) (fun k=>(k : Int)) _ _ _ rfl (fun k x hx=>?_) ?_
  · have hk:=(List.getElem?_eq_some_iff.1 hx).1
    unfold nest_ValidateSheet_l1
    have h1 : decide ((k : Int) < (l.length : Int))=true:=by simp; omega
    simp only [h1,if_true,idx_of hx,Option.bind_some,Inside_eq]
    rw [iadd_eq (a:=(k : Int)) (by omega) (by omega)]
    rfl
  · simp [nest_ValidateSheet_l1]
theorem inside_eq (s : Sheet) (l : List Rect) (hl : l.length≤9223372036854775806) : sheetmetalref06_inside s l=some (!(outs ⟨0,0,s.Width,s.Height⟩ l)):=by
  have key : loopT (sheetmetalref06_inside_l1 s l) 0=some (if outs ⟨0,0,s.Width,s.Height⟩ l then .inl () else .inr ()):=by
    refine loop_anyS l (sheetmetalref06_inside_l1 s l) (fun k=>(k : Int)) _ _ _ rfl (fun k x hx=>?_) ?_
    · have hk:=(List.getElem?_eq_some_iff.1 hx).1
      unfold sheetmetalref06_inside_l1
      have h1 : decide ((k : Int) < (l.length : Int))=true:=by simp; omega
      simp only [h1,if_true,idx_of hx,Option.bind_some,Within_eq]
      rw [iadd_eq (a:=(k : Int)) (by omega) (by omega)]
      rfl
    · simp [sheetmetalref06_inside_l1]
  unfold sheetmetalref06_inside
  rw [key]
  cases outs ⟨0,0,s.Width,s.Height⟩ l <;> rfl
theorem in2_loop (s : Sheet) (r : Rect×Bool) (h1 : s.Clamps.length≤9223372036854775806) (h2 : s.Used.length≤9223372036854775806) : loopT (nest_ValidateSheet_l2 s r) 0=some (if outs r.1 s.Clamps || outs r.1 s.Used then .inl () else .inr ()):=by
  have:=loop_anyS [s.Clamps,s.Used] (nest_ValidateSheet_l2 s r) (fun k=>(k : Int)) (fun l=>outs r.1 l) (.inr ()) (.inl ()) rfl (fun k x hx=>?_) ?_
  · refine this.trans ?_; simp
  · have hk:=(List.getElem?_eq_some_iff.1 hx).1
    unfold nest_ValidateSheet_l2
    have hm : x=s.Clamps∨x=s.Used:=by have:=List.mem_of_getElem? hx; simpa using this
    have hl : x.length≤9223372036854775806:=by rcases hm with rfl | rfl <;> assumption
    have h3 : decide ((k : Int) < (([s.Clamps,s.Used] : List (List Rect)).length : Int))=true:=by rw [decide_eq_true_eq]; exact Int.ofNat_lt.2 hk
    simp only [h3,if_true,idx_of hx,Option.bind_some,in1_loop r x hl]
    have hk' : k < 2:=hk
    rw [iadd_eq (a:=(k : Int)) (by omega) (by omega)]
    cases outs r.1 x <;> simp
  · simp [nest_ValidateSheet_l2]
theorem Sheet_same (s : Sheet) : ∃ b,nest_ValidateSheet s=some b∧sheetmetalref06_ValidateSheet s=some b:=by
  obtain ⟨a,ha,ha'⟩:=Name_same s.Name
  obtain ⟨b,hb,hb'⟩:=Name_same s.Material
  unfold nest_ValidateSheet sheetmetalref06_ValidateSheet
  rw [ha,hb,stuff_eq ha' hb']
  cases a with
  | false=>exact ⟨2,rfl,rfl⟩
  | true =>
  cases b with
  | false=>exact ⟨2,rfl,rfl⟩
  | true =>
  simp only [Option.bind_some,plain_eq,from_eq,Bool.and_self,if_true,Bool.not_true,Bool.false_eq_true,if_false]
  by_cases h1 : (1≤s.Gauge∧s.Gauge≤60)∧0≤s.Grain∧s.Grain≤2
  · simp only [h1,and_self,decide_true,if_true,Option.bind_some]
    by_cases h2 : 1≤s.Width∧s.Width≤1048576
    · by_cases h3 : 1≤s.Height∧s.Height≤1048576
      · have q1 : ¬ s.Width < 1:=by omega
        have q2 : ¬ s.Width > 1048576:=by omega
        have q3 : ¬ s.Height < 1:=by omega
        have q4 : ¬ s.Height > 1048576:=by omega
        simp only [h2,h3,q1,q2,q3,q4,and_self,decide_true,decide_false,if_true,Option.bind_some,Bool.not_true,Bool.false_eq_true,if_false,bne_self_eq_false]
        by_cases h4 : (s.Clamps.length : Int) > 4
        · exact ⟨4,by simp [h4],by simp [h4]⟩
        by_cases h5 : (s.Used.length : Int) > 48
        · exact ⟨4,by simp [h5],by simp [h5]⟩
        simp only [h4,h5,decide_false,Bool.false_eq_true,if_false,Option.bind_some,valid_eq s.Clamps (by omega),valid_eq s.Used (by omega),Rights_eq s.Clamps (by omega),Rights_eq s.Used (by omega),inside_eq s s.Clamps (by omega),inside_eq s s.Used (by omega)]
        cases (s.Clamps.any fun x=>!decide (vR x)) with
        | true=>exact ⟨1,rfl,rfl⟩
        | false =>
        cases (s.Used.any fun x=>!decide (vR x)) with
        | true=>exact ⟨1,rfl,rfl⟩
        | false =>
        have hi : nest_inner s 0=some (⟨0,0,s.Width,s.Height⟩,decide (vR ⟨0,0,s.Width,s.Height⟩)):=by
          unfold nest_inner
          rw [ValidRect_eq]
          have e0 : imul 2 0=0:=by rw [imul_eq (by omega) (by omega)]; rfl
          rw [e0,isub_eq (by omega) (by omega),isub_eq (by omega) (by omega),Int.sub_zero,Int.sub_zero]
          rfl
        simp only [hi,Option.bind_some,in2_loop s _ (show s.Clamps.length≤_ by omega) (show s.Used.length≤_ by omega),Bool.not_false,if_true,Bool.not_true,Bool.false_eq_true,if_false]
        cases outs ⟨0,0,s.Width,s.Height⟩ s.Clamps with
        | true=>exact ⟨13,rfl,rfl⟩
        | false =>
        cases outs ⟨0,0,s.Width,s.Height⟩ s.Used with
        | true=>exact ⟨13,rfl,rfl⟩
        | false=>exact ⟨0,rfl,rfl⟩
      · refine ⟨1,by simp [h2,h3], ?_⟩
        by_cases q3 : s.Height < 1
        · simp [q3]
        · have q4 : s.Height > 1048576:=by omega
          simp [q3,q4]
    · refine ⟨1,by simp [h2], ?_⟩
      by_cases q3 : s.Width < 1
      · simp [q3]
      · have q4 : s.Width > 1048576:=by omega
        simp [q3,q4]
  · exact ⟨1,by simp only [h1,decide_false]; rfl,by simp only [h1,if_false]; rfl⟩
end Go.SM
