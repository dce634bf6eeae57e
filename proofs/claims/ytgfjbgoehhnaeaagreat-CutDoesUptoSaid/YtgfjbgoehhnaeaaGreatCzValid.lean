/- Sheets and settings: both say the same of each. -/
import Derived.Test.YtgfjbgoehhnaeaaGreatCzNames
set_option linter.unusedVariables false
set_option linter.unusedSimpArgs false
set_option linter.unusedSectionVars false
namespace Go.SM
open Go Go.VI
theorem FC (n lo hi:Int):Bo n lo hi=some (decide (lo≤n∧n≤hi)):=by
  unfold Bo
  by_cases h1:lo≤n <;> simp [h1]
theorem Pz (g r:Int):Gt g r=some (decide ((1≤g∧g≤60)∧0≤r∧r≤2)):=by
  unfold Gt
  simp only [FC,Option.bind_some]
  by_cases h1:1≤g∧g≤60
  · simp [h1]
  · simp only [h1,decide_false,false_and];rfl
theorem KG {n m:ByteArray} {a b:Bool} (hn:dY n=some a) (hm:dY m=some b) (g r:Int):mH n m g r=some (if a&&b then (if (1≤g∧g≤60)∧0≤r∧r≤2 then 0 else 1) else 2):=by
  unfold mH
  rw [hn,hm]
  cases a
  · rfl
  · cases b
    · rfl
    · by_cases h1:g<1
      · have:¬ ((1≤g∧g≤60)∧0≤r∧r≤2):=by omega
        simp [h1,this]
      · by_cases h2:g>60
        · have:¬ ((1≤g∧g≤60)∧0≤r∧r≤2):=by omega
          simp [h1,h2,this]
        · by_cases h3:r<0
          · have:¬ ((1≤g∧g≤60)∧0≤r∧r≤2):=by omega
            simp [h1,h2,h3,this]
          · by_cases h4:r>2
            · have:¬ ((1≤g∧g≤60)∧0≤r∧r≤2):=by omega
              simp [h1,h2,h3,h4,this]
            · have:((1≤g∧g≤60)∧0≤r∧r≤2):=by omega
              simp [h1,h2,h3,h4,this]
theorem valid_eq (l:List Rect) (hl:l.length≤9223372036854775806):xB l=some (!(l.any fun x=>!decide (vR x))):=by
  have key:aM (xU l) 0=some (if (l.any fun x=>!decide (vR x)) then .inl () else .inr ()):=by
    refine gI l (xU l) (fun k=>(k:Int)) _ _ _ rfl (fun k x hx=>?_) ?_
    · have hk:=(List.getElem?_eq_some_iff.1 hx).1
      unfold xU
      have h1:decide ((k:Int)<(l.length:Int))=true:=by simp;omega
      simp only [h1,if_true,aP hx,Option.bind_some,uU]
      rw [aS (a:=(k:Int)) (by omega) (by omega)]
      rfl
    · simp [xU]
  unfold xB
  rw [key]
  cases (l.any fun x=>!decide (vR x)) <;> rfl
theorem Fa (l:List Rect) (hl:l.length≤9223372036854775806):dA l=some (!(l.any fun x=>!decide (vR x))):=by
  have key:aM (iW l) 0=some (if (l.any fun x=>!decide (vR x)) then .inl () else .inr ()):=by
    refine gI l (iW l) (fun k=>(k:Int)) _ _ _ rfl (fun k x hx=>?_) ?_
    · have hk:=(List.getElem?_eq_some_iff.1 hx).1
      unfold iW
      have h1:decide ((k:Int)<(l.length:Int))=true:=by simp;omega
      simp only [h1,if_true,aP hx,Option.bind_some,Ou]
      rw [aS (a:=(k:Int)) (by omega) (by omega)]
      rfl
    · simp [iW]
  unfold dA
  rw [key]
  cases (l.any fun x=>!decide (vR x)) <;> rfl
def outs (r:Rect) (l:List Rect):Bool:=l.any fun x=>!decide (vV x r)
theorem UJ (r:Rect×Bool) (l:List Rect) (hl:l.length≤9223372036854775806):aM (mE r l) 0=some (if outs r.1 l then .inl () else .inr ()):=by
  refine gI l (mE r l) (fun k=>(k:Int)) _ _ _ rfl (fun k x hx=>?_) ?_
  · have hk:=(List.getElem?_eq_some_iff.1 hx).1
    unfold mE
    have h1:decide ((k:Int)<(l.length:Int))=true:=by simp;omega
    simp only [h1,if_true,aP hx,Option.bind_some,Vt]
    rw [aS (a:=(k:Int)) (by omega) (by omega)]
    rfl
  · simp [mE]
theorem DX (s:Sheet) (l:List Rect) (hl:l.length≤9223372036854775806):lF s l=some (!(outs ⟨0,0,s.Width,s.Height⟩ l)):=by
  have key:aM (iX s l) 0=some (if outs ⟨0,0,s.Width,s.Height⟩ l then .inl () else .inr ()):=by
    refine gI l (iX s l) (fun k=>(k:Int)) _ _ _ rfl (fun k x hx=>?_) ?_
    · have hk:=(List.getElem?_eq_some_iff.1 hx).1
      unfold iX
      have h1:decide ((k:Int)<(l.length:Int))=true:=by simp;omega
      simp only [h1,if_true,aP hx,Option.bind_some,Vu]
      rw [aS (a:=(k:Int)) (by omega) (by omega)]
      rfl
    · simp [iX]
  unfold lF
  rw [key]
  cases outs ⟨0,0,s.Width,s.Height⟩ l <;> rfl
theorem UK (s:Sheet) (r:Rect×Bool) (h1:s.Clamps.length≤9223372036854775806) (h2:s.Used.length≤9223372036854775806):aM (mF s r) 0=some (if outs r.1 s.Clamps || outs r.1 s.Used then .inl () else .inr ()):=by
  have:=gI [s.Clamps,s.Used] (mF s r) (fun k=>(k:Int)) (fun l=>outs r.1 l) (.inr ()) (.inl ()) rfl (fun k x hx=>?_) ?_
  · refine this.trans ?_;simp
  · have hk:=(List.getElem?_eq_some_iff.1 hx).1
    unfold mF
    have hm:x=s.Clamps∨x=s.Used:=by have:=List.mem_of_getElem? hx;simpa using this
    have hl:x.length≤9223372036854775806:=by rcases hm with rfl | rfl <;> assumption
    have h3:decide ((k:Int)<(([s.Clamps,s.Used]:List (List Rect)).length:Int))=true:=by rw [decide_eq_true_eq];exact Int.ofNat_lt.2 hk
    simp only [h3,if_true,aP hx,Option.bind_some,UJ r x hl]
    have hk':k<2:=hk
    rw [aS (a:=(k:Int)) (by omega) (by omega)]
    cases outs r.1 x <;> simp
  · simp [mF]
theorem Zb (s:Sheet):∃ b,jY s=some b∧jE s=some b:=by
  obtain ⟨a,ha,ha'⟩:=Name_same s.Name
  obtain ⟨b,hb,hb'⟩:=Name_same s.Material
  unfold jY jE
  rw [ha,hb,KG ha' hb']
  cases a with
  | false=>exact ⟨2,rfl,rfl⟩
  | true =>
  cases b with
  | false=>exact ⟨2,rfl,rfl⟩
  | true =>
  simp only [Option.bind_some,Pz,FC,Bool.and_self,if_true,Bool.not_true,Bool.false_eq_true,if_false]
  by_cases h1:(1≤s.Gauge∧s.Gauge≤60)∧0≤s.Grain∧s.Grain≤2
  · simp only [h1,and_self,decide_true,if_true,Option.bind_some]
    by_cases h2:1≤s.Width∧s.Width≤1048576
    · by_cases h3:1≤s.Height∧s.Height≤1048576
      · have q1:¬ s.Width<1:=by omega
        have q2:¬ s.Width>1048576:=by omega
        have q3:¬ s.Height<1:=by omega
        have q4:¬ s.Height>1048576:=by omega
        simp only [h2,h3,q1,q2,q3,q4,and_self,decide_true,decide_false,if_true,Option.bind_some,Bool.not_true,Bool.false_eq_true,if_false,bne_self_eq_false]
        by_cases h4:(s.Clamps.length:Int)>4
        · exact ⟨4,by simp [h4],by simp [h4]⟩
        by_cases h5:(s.Used.length:Int)>48
        · exact ⟨4,by simp [h5],by simp [h5]⟩
        simp only [h4,h5,decide_false,Bool.false_eq_true,if_false,Option.bind_some,valid_eq s.Clamps (by omega),valid_eq s.Used (by omega),Fa s.Clamps (by omega),Fa s.Used (by omega),DX s s.Clamps (by omega),DX s s.Used (by omega)]
        cases (s.Clamps.any fun x=>!decide (vR x)) with
        | true=>exact ⟨1,rfl,rfl⟩
        | false =>
        cases (s.Used.any fun x=>!decide (vR x)) with
        | true=>exact ⟨1,rfl,rfl⟩
        | false =>
        have hi:Nr s 0=some (⟨0,0,s.Width,s.Height⟩,decide (vR ⟨0,0,s.Width,s.Height⟩)):=by
          unfold Nr
          rw [uU]
          have e0:mZ 2 0=0:=by rw [Qq (by omega) (by omega)];rfl
          rw [e0,aY (by omega) (by omega),aY (by omega) (by omega),Int.sub_zero,Int.sub_zero]
          rfl
        simp only [hi,Option.bind_some,UK s _ (show s.Clamps.length≤_ by omega) (show s.Used.length≤_ by omega),Bool.not_false,if_true,Bool.not_true,Bool.false_eq_true,if_false]
        cases outs ⟨0,0,s.Width,s.Height⟩ s.Clamps with
        | true=>exact ⟨13,rfl,rfl⟩
        | false =>
        cases outs ⟨0,0,s.Width,s.Height⟩ s.Used with
        | true=>exact ⟨13,rfl,rfl⟩
        | false=>exact ⟨0,rfl,rfl⟩
      · refine ⟨1,by simp [h2,h3], ?_⟩
        by_cases q3:s.Height<1
        · simp [q3]
        · have q4:s.Height>1048576:=by omega
          simp [q3,q4]
    · refine ⟨1,by simp [h2], ?_⟩
      by_cases q3:s.Width<1
      · simp [q3]
      · have q4:s.Width>1048576:=by omega
        simp [q3,q4]
  · exact ⟨1,by simp only [h1,decide_false];rfl,by simp only [h1,if_false];rfl⟩
end Go.SM
