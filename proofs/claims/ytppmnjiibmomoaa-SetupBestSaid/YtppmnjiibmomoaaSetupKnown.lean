/- Which needs are valid; that the program knows the least numbers of changes of one list. -/
import Derived.Test.YtppmnjiibmomoaaSetupStages
set_option linter.unusedVariables false
set_option linter.unusedSimpArgs false
set_option linter.unusedSectionVars false
namespace Go.SM
open Go Go.VI

def setAt (l : List Int) (k : Nat) : Bool := match l[k]? with
  | none => true
  | some x => decide (0 ≤ x ∧ x < 9) && (match k with | 0 => true | k + 1 => (match l[k]? with | some y => decide (y < x) | none => true))
def isSetB (l : List Int) : Bool := (List.range l.length).all (setAt l)
theorem isSetB_small {l : List Int} (h : isSetB l = true) : Small l := fun x hx => by
  obtain ⟨k, hk⟩ := List.mem_iff_getElem?.1 hx
  have := List.all_eq_true.1 h k (List.mem_range.2 (lt_of_get hk))
  unfold setAt at this
  rw [hk] at this
  simp only [Bool.and_eq_true, decide_eq_true_eq] at this
  exact this.1
theorem range_get {n k x : Nat} (h : (List.range n)[k]? = some x) : x = k ∧ k < n := by
  have hk := lt_of_get h
  rw [List.length_range] at hk
  rw [List.getElem?_range hk] at h
  exact ⟨(Option.some.inj h).symm, hk⟩
theorem isSet_ok {l : List Int} (h : l.length ≤ 60) : setup_isSet l = some (isSetB l) := by
  unfold setup_isSet
  rw [loop_all (List.range l.length) (setup_isSet_l1 l) (setAt l) (.inl ()) (.inr ()) (fun k x hx => ?step) ?fin]
  · unfold isSetB; cases (List.range l.length).all (setAt l) <;> rfl
  case step =>
    obtain ⟨rfl, hk⟩ := range_get hx
    have h1 : decide ((x : Int) < (l.length : Int)) = true := by simp [hk]
    have hg : l[x]? = some l[x] := by simp
    unfold setup_isSet_l1 setAt
    simp only [h1, if_true, idx_of hg, Option.bind_some, hg, succ_cast x (by omega)]
    generalize l[x] = y
    by_cases q1 : y < 0
    · have : ¬ (0 ≤ y ∧ y < 9) := by omega
      simp [q1, this]
    · by_cases q2 : y ≥ 9
      · have : ¬ (0 ≤ y ∧ y < 9) := by omega
        simp [q1, q2, this]
      · have q3 : 0 ≤ y ∧ y < 9 := by omega
        cases x with
        | zero => simp [q1, q2, q3]
        | succ j =>
          have hj : l[j]? = some l[j] := by simp
          have hs : isub ((j + 1 : Nat) : Int) 1 = (j : Int) := by rw [isub_eq (by omega) (by omega)]; omega
          have h0 : decide (((j + 1 : Nat) : Int) > 0) = true := by rw [decide_eq_true_eq]; omega
          simp only [q1, q2, decide_false, Bool.false_eq_true, if_false, h0, if_true, hs, idx_of hj, hj, Option.bind_some]
          by_cases q4 : l[j] ≥ y
          · have : ¬ l[j] < y := by omega
            simp [q4, this]
          · have : l[j] < y := by omega
            simp [q4, this, q3]
  case fin => simp [setup_isSet_l1]
def validCode (needs : List (List Int)) : Int := if needs.length > 24 then 4 else if needs.all (fun l => !l.isEmpty && isSetB l) then 0 else 1
/-- lists of no great length -/
def Sz (needs : List (List Int)) : Prop := needs.length ≤ 60 ∧ ∀ l ∈ needs, l.length ≤ 60
theorem Validate_ok {needs : List (List Int)} (h : Sz needs) : setup_Validate needs = some (validCode needs) := by
  unfold setup_Validate validCode
  by_cases h24 : needs.length > 24
  · have : (needs.length : Int) > 24 := by omega
    simp [h24, this]
  · have : ¬ (needs.length : Int) > 24 := by omega
    simp only [this, decide_false, Bool.false_eq_true, if_false, h24]
    rw [loop_all needs (setup_Validate_l1 needs) (fun l => !l.isEmpty && isSetB l) (.inl ()) (.inr ()) (fun k x hx => ?step) ?fin]
    · cases needs.all (fun l => !l.isEmpty && isSetB l) <;> rfl
    case step =>
      have hk := lt_of_get hx
      have h1 : decide ((k : Int) < (needs.length : Int)) = true := by simp [hk]
      have hl := h.1
      unfold setup_Validate_l1
      simp only [h1, if_true, idx_of hx, Option.bind_some, isSet_ok (h.2 x (List.mem_of_getElem? hx)), succ_cast k (by omega)]
      cases x with
      | nil => simp
      | cons y ys =>
        have : (((y :: ys).length : Int) == 0) = false := by simp; omega
        simp only [this, Bool.false_eq_true, if_false, Option.bind_some]
        cases isSetB (y :: ys) <;> simp
    case fin => simp [setup_Validate_l1]
def checkCode (needs : List (List Int)) (st : Int) : Int := if validCode needs ≠ 0 then validCode needs else if 1 ≤ st ∧ st ≤ 3 then 0 else 1
theorem check_ok {needs : List (List Int)} (h : Sz needs) (st : Int) : setup_check needs st = some (checkCode needs st) := by
  unfold setup_check checkCode
  simp only [Validate_ok h, Option.bind_some]
  by_cases h0 : validCode needs = 0
  · have : (validCode needs != 0) = false := by simp [h0]
    simp only [this, Bool.false_eq_true, if_false, h0, ne_eq, not_true_eq_false]
    by_cases h1 : st < 1
    · have : ¬ (1 ≤ st ∧ st ≤ 3) := by omega
      simp [h1, this]
    · by_cases h3 : st > 3
      · have : ¬ (1 ≤ st ∧ st ≤ 3) := by omega
        simp [h1, h3, this]
      · have : 1 ≤ st ∧ st ≤ 3 := by omega
        simp [h1, h3, this]
  · simp [h0]
theorem code_zero {needs : List (List Int)} {st : Int} (h : Sz needs) (hc : checkCode needs st = 0) : validCode needs = 0 ∧ Fit needs ∧ 1 ≤ st ∧ st ≤ 3 ∧ needs.length ≤ 24 := by
  unfold checkCode at hc
  split at hc
  · rename_i hn; exact absurd hc hn
  rename_i hn
  have hv : validCode needs = 0 := by simpa using hn
  split at hc
  case isFalse => cases hc
  rename_i hst
  refine ⟨hv, ?_, hst.1, hst.2, ?_⟩
  · refine ⟨h.1, fun l hl => ?_⟩
    unfold validCode at hv
    split at hv
    · cases hv
    · split at hv
      · rename_i ha
        have := List.all_eq_true.1 ha l hl
        simp only [Bool.and_eq_true, Bool.not_eq_true', List.isEmpty_eq_false_iff] at this
        exact ⟨this.1, isSetB_small this.2, h.2 l hl⟩
      · cases hv
  · unfold validCode at hv
    split at hv
    · cases hv
    · omega
theorem least_ok {needs : List (List Int)} (h : Sz needs) (st : Int) :
    (checkCode needs st ≠ 0 ∧ setup_Least needs st = some (0, checkCode needs st)) ∨ (checkCode needs st = 0 ∧ ∃ n : Nat, setup_Least needs st = some ((n : Int), 0) ∧ IsMin st needs n) := by
  unfold setup_Least
  simp only [check_ok h st, Option.bind_some]
  by_cases hc : checkCode needs st = 0
  · obtain ⟨_, hf, h1, _, _⟩ := code_zero h hc
    obtain ⟨n, q1, q2⟩ := fewest_ok h1 hf
    have : (checkCode needs st != 0) = false := by simp [hc]
    exact .inr ⟨hc, n, by simp [q1, hc], q2⟩
  · exact .inl ⟨hc, by simp [hc]⟩

/-! ### known -/
theorem one_bit0 : ((List.range 512).all fun s => !(decide (pop s ≤ 1) && s.testBit 0) || decide (s = 1)) = true := by decide +kernel
theorem one_bit1 : ((List.range 512).all fun s => !(decide (pop s ≤ 1) && s.testBit 1) || decide (s = 2)) = true := by decide +kernel
theorem two_bits : ((List.range 512).all fun s => !(s.testBit 0 && s.testBit 1) || decide (2 ≤ pop s)) = true := by decide +kernel
theorem pop_pos {s i : Nat} (hi : i < 9) (h : s.testBit i = true) : 1 ≤ pop s := by
  unfold pop
  exact List.countP_pos_iff.2 ⟨i, List.mem_range.2 hi, h⟩
theorem pop_mono {n m : Nat} (h : ∀ i, n.testBit i = true → m.testBit i = true) : pop n ≤ pop m := by
  unfold pop
  exact List.countP_mono_left fun i _ hi => h i hi
theorem hit_one {s : Nat} {x : Int} : hit s [x] = s.testBit x.toNat := by simp [hit]
def knownNeeds : List (List Int) := [[0], [1], [0], [1]]
theorem knownSz : Sz knownNeeds := ⟨by decide, by decide⟩
theorem way4 {st : Int} {s c : Nat} (h : Way st knownNeeds s c) : ∃ s1 s2 s3 : Nat, s1 < 512 ∧ s2 < 512 ∧ s3 < 512 ∧ s < 512 ∧ (pop s1 : Int) ≤ st ∧ (pop s2 : Int) ≤ st ∧ (pop s3 : Int) ≤ st ∧ (pop s : Int) ≤ st ∧
    s1.testBit 0 = true ∧ s2.testBit 1 = true ∧ s3.testBit 0 = true ∧ s.testBit 1 = true ∧ c = pop (sdiff s1 0) + pop (sdiff s2 s1) + pop (sdiff s3 s2) + pop (sdiff s s3) := by
  obtain ⟨s3, c3, h3, a4, b4, d4, rfl⟩ := way_snoc (p := [[0], [1], [0]]) (need := [1]) h
  obtain ⟨s2, c2, h2, a3, b3, d3, rfl⟩ := way_snoc (p := [[0], [1]]) (need := [0]) h3
  obtain ⟨s1, c1, h1, a2, b2, d2, rfl⟩ := way_snoc (p := [[0]]) (need := [1]) h2
  obtain ⟨s0, c0, h0, a1, b1, d1, rfl⟩ := way_snoc (p := []) (need := [0]) h1
  obtain ⟨rfl, rfl⟩ := way_nil h0
  rw [hit_one] at d1 d2 d3 d4
  exact ⟨s1, s2, s3, a1, a2, a3, a4, b1, b2, b3, b4, d1, d2, d3, d4, by omega⟩
theorem min1 : IsMin 1 knownNeeds 4 := by
  refine ⟨⟨2, ?_⟩, fun s c h => ?_⟩
  · have := Way.snoc (p := [[0], [1], [0]]) (need := [1]) (s := 2) (.snoc (p := [[0], [1]]) (need := [0]) (s := 1) (.snoc (p := [[0]]) (need := [1]) (s := 2) (.snoc (p := []) (need := [0]) (s := 1) (.nil (st := 1)) (by decide) (by decide) (by decide)) (by decide) (by decide) (by decide)) (by decide) (by decide) (by decide)) (by decide) (by decide) (by decide)
    have e : 0 + pop (sdiff 1 0) + pop (sdiff 2 1) + pop (sdiff 1 2) + pop (sdiff 2 1) = 4 := by decide
    rw [e] at this
    exact this
  · obtain ⟨s1, s2, s3, a1, a2, a3, a4, b1, b2, b3, b4, d1, d2, d3, d4, rfl⟩ := way4 h
    have f0 : ∀ s, s < 512 → (pop s : Int) ≤ 1 → s.testBit 0 = true → s = 1 := fun s h1 h2 h3 => by
      have := List.all_eq_true.1 one_bit0 s (List.mem_range.2 h1)
      have h2' : decide (pop s ≤ 1) = true := by simp; omega
      rw [h2', h3] at this
      simpa using this
    have f1 : ∀ s, s < 512 → (pop s : Int) ≤ 1 → s.testBit 1 = true → s = 2 := fun s h1 h2 h3 => by
      have := List.all_eq_true.1 one_bit1 s (List.mem_range.2 h1)
      have h2' : decide (pop s ≤ 1) = true := by simp; omega
      rw [h2', h3] at this
      simpa using this
    obtain rfl := f0 s1 a1 b1 d1
    obtain rfl := f1 s2 a2 b2 d2
    obtain rfl := f0 s3 a3 b3 d3
    obtain rfl := f1 s a4 b4 d4
    decide
theorem min2 : IsMin 2 knownNeeds 2 := by
  refine ⟨⟨3, ?_⟩, fun s c h => ?_⟩
  · have := Way.snoc (p := [[0], [1], [0]]) (need := [1]) (s := 3) (.snoc (p := [[0], [1]]) (need := [0]) (s := 3) (.snoc (p := [[0]]) (need := [1]) (s := 3) (.snoc (p := []) (need := [0]) (s := 3) (.nil (st := 2)) (by decide) (by decide) (by decide)) (by decide) (by decide) (by decide)) (by decide) (by decide) (by decide)) (by decide) (by decide) (by decide)
    have e : 0 + pop (sdiff 3 0) + pop (sdiff 3 3) + pop (sdiff 3 3) + pop (sdiff 3 3) = 2 := by decide
    rw [e] at this
    exact this
  · obtain ⟨s1, s2, s3, a1, a2, a3, a4, b1, b2, b3, b4, d1, d2, d3, d4, rfl⟩ := way4 h
    have p1 : 1 ≤ pop (sdiff s1 0) := pop_pos (i := 0) (by omega) (by rw [sdiff_test a1, d1]; simp)
    cases hb : s1.testBit 1 with
    | true =>
      have q := List.all_eq_true.1 two_bits s1 (List.mem_range.2 a1)
      rw [d1, hb] at q
      have q2 : 2 ≤ pop s1 := by simpa using q
      have q3 : pop s1 ≤ pop (sdiff s1 0) := pop_mono fun i hi => by rw [sdiff_test a1, hi]; simp
      omega
    | false =>
      have p2 : 1 ≤ pop (sdiff s2 s1) := pop_pos (i := 1) (by omega) (by rw [sdiff_test a2, d2, hb]; rfl)
      omega
theorem known_ok : sheetmetallaw05_known = some true := by
  have c1 : checkCode knownNeeds 1 = 0 := by decide
  have c2 : checkCode knownNeeds 2 = 0 := by decide
  rcases least_ok knownSz 1 with ⟨h, _⟩ | ⟨_, n, h1, h2⟩
  · exact absurd c1 h
  rcases least_ok knownSz 2 with ⟨h, _⟩ | ⟨_, m, h3, h4⟩
  · exact absurd c2 h
  obtain rfl := isMin_one h2 min1
  obtain rfl := isMin_one h4 min2
  unfold sheetmetallaw05_known
  rw [show ([[0], [1], [0], [1]] : List (List Int)) = knownNeeds from rfl, h1]
  simp only [Option.bind_some, h3]
  rfl

/-! ### what is too long -/
def longB (needs : List (List Int)) : Bool := decide (needs.length > 60) || needs.any (fun l => decide (l.length > 60))
theorem long_sz {needs : List (List Int)} (h : longB needs = false) : Sz needs := by
  unfold longB at h
  simp only [Bool.or_eq_false_iff, decide_eq_false_iff_not, List.any_eq_false, decide_eq_true_eq] at h
  exact ⟨by omega, fun l hl => by have := h.2 l hl; omega⟩
theorem Long_ok (needs : List (List Int)) : sheetmetallaw05_Long needs = some (longB needs) := by
  unfold sheetmetallaw05_Long longB
  by_cases h : needs.length > 60
  · have : (needs.length : Int) > 60 := by omega
    simp [h, this]
  · have : ¬ (needs.length : Int) > 60 := by omega
    simp only [this, decide_false, Bool.false_eq_true, if_false, h, Bool.false_or]
    rw [loop_any needs (sheetmetallaw05_Long_l1 needs) (fun l => decide (l.length > 60)) (.inr ()) (.inl ()) (fun k x hx => ?step) ?fin]
    · cases needs.any (fun l => decide (l.length > 60)) <;> rfl
    case step =>
      have hk := lt_of_get hx
      have h1 : decide ((k : Int) < (needs.length : Int)) = true := by simp [hk]
      unfold sheetmetallaw05_Long_l1
      simp only [h1, if_true, idx_of hx, Option.bind_some, succ_cast k (by omega)]
      by_cases q : x.length > 60
      · have : (x.length : Int) > 60 := by omega
        simp [q, this]
      · have : ¬ (x.length : Int) > 60 := by omega
        simp [q, this]
    case fin => simp [sheetmetallaw05_Long_l1]
def heavyB (needs : List (List Int)) : Bool := longB needs || (decide (needs.length > 12) && decide (needs.length ≤ 24))
theorem heavy_ok (needs : List (List Int)) : sheetmetallaw05_heavy needs = some (heavyB needs) := by
  unfold sheetmetallaw05_heavy heavyB
  simp only [Long_ok, Option.bind_some]
  cases longB needs with
  | true => rfl
  | false =>
    simp only [Bool.false_eq_true, if_false, Bool.false_or]
    by_cases h : needs.length > 12
    · have e1 : (needs.length : Int) > 12 := by omega
      have e2 : decide ((needs.length : Int) ≤ 24) = decide (needs.length ≤ 24) := by rw [decide_eq_decide]; omega
      simp only [e1, e2, h, decide_true, if_true, Option.bind_some, Bool.true_and]
    · have : ¬ (needs.length : Int) > 12 := by omega
      simp [h, this]
theorem heavy_sz {needs : List (List Int)} (h : heavyB needs = false) : Sz needs := by
  unfold heavyB at h
  simp only [Bool.or_eq_false_iff] at h
  exact long_sz h.1
end Go.SM
