/- The law SetupStations, on the models. -/
import Derived.Test.YtppmnjiibmomoaaSetupKnown
set_option linter.unusedVariables false
set_option linter.unusedSimpArgs false
set_option linter.unusedSectionVars false
namespace Go.SM
open Go Go.VI
theorem way_more {st st' : Int} (h : st ≤ st') {p : List (List Int)} {s c : Nat} (w : Way st p s c) : Way st' p s c := by
  induction w with
  | nil => exact .nil
  | snoc _ hs hp hh ih => exact .snoc ih hs (by omega) hh
theorem sz_dropLast {needs : List (List Int)} (h : Sz needs) : Sz needs.dropLast := ⟨by simp; have := h.1; omega, fun l hl => h.2 l ((List.dropLast_sublist _).subset hl)⟩
theorem code_dropLast {needs : List (List Int)} {st : Int} (h : checkCode needs st = 0) (hs : Sz needs) : checkCode needs.dropLast st = 0 := by
  obtain ⟨hv, _, h1, h3, h24⟩ := code_zero hs h
  have : validCode needs.dropLast = 0 := by
    unfold validCode at hv ⊢
    split at hv
    · cases hv
    · split at hv
      · rename_i ha
        have ha' : needs.dropLast.all (fun l => !l.isEmpty && isSetB l) = true := List.all_eq_true.2 fun l hl => List.all_eq_true.1 ha l ((List.dropLast_sublist _).subset hl)
        rw [if_neg (by simp; omega), if_pos ha']
      · cases hv
  unfold checkCode
  simp [this, h1, h3]
theorem law_SetupStations (needs : List (List Int)) (a : Int) : sheetmetallaw05_SetupStations needs a = some true := by
  unfold sheetmetallaw05_SetupStations
  simp only [heavy_ok, Option.bind_some]
  cases hh : heavyB needs with
  | true => simp [known_ok]
  | false =>
    have hs := heavy_sz hh
    simp only [Bool.false_eq_true, if_false, Option.bind_some]
    by_cases ha : a ≥ 3
    · simp [ha, known_ok]
    simp only [ha, decide_false, Bool.false_eq_true, if_false]
    rcases least_ok hs a with ⟨hc, hL⟩ | ⟨hc, n, hL, hn⟩
    · simp [hL, hc, known_ok]
    · obtain ⟨hv, hf, h1, h3, h24⟩ := code_zero hs hc
      have hadd : iadd a 1 = a + 1 := iadd_eq (by omega) (by omega)
      have hc2 : checkCode needs (a + 1) = 0 := by unfold checkCode; simp [hv]; omega
      rcases least_ok hs (a + 1) with ⟨hc', _⟩ | ⟨_, m, hL2, hm⟩
      · exact absurd hc2 hc'
      have hmn : m ≤ n := by
        obtain ⟨s, w⟩ := hn.1
        exact hm.2 _ _ (way_more (by omega) w)
      have hgt : decide ((m : Int) > (n : Int)) = false := by rw [decide_eq_false_iff_not]; omega
      simp only [hL, hadd, hL2, Option.bind_some, bne_self_eq_false, Bool.false_eq_true, if_false, hgt]
      by_cases h0 : needs = []
      · subst h0
        have hn0 : n = 0 := by
          have := hn.2 0 0 .nil
          omega
        subst hn0
        simp [known_ok]
      · have hpos : 0 < needs.length := List.length_pos_iff.2 h0
        have hl : ((needs.length : Int) == 0) = false := by rw [beq_eq_false_iff_ne]; omega
        have hslc : slc needs 0 (isub (needs.length : Int) 1) = some needs.dropLast := by
          have hz := hs.1
          rw [isub_eq (by omega) (by omega)]
          unfold slc
          rw [if_pos (by omega)]
          have : ((needs.length : Int) - 1).toNat = needs.length - 1 := by omega
          rw [this, List.dropLast_eq_take]; rfl
        simp only [hl, Bool.false_eq_true, if_false, hslc, Option.bind_some]
        have hsd := sz_dropLast hs
        rcases least_ok hsd a with ⟨hc', _⟩ | ⟨_, k, hL3, hk⟩
        · exact absurd (code_dropLast hc hs) hc'
        have hsplit : needs = needs.dropLast ++ [needs.getLast h0] := (List.dropLast_concat_getLast h0).symm
        have hkn : k ≤ n := by
          obtain ⟨s, w⟩ := hn.1
          rw [hsplit] at w
          obtain ⟨b, c0, w0, _, _, _, e⟩ := way_snoc w
          have := hk.2 _ _ w0
          omega
        have hnk : n ≤ k + 1 := by
          obtain ⟨s, w⟩ := hk.1
          obtain ⟨hne, hsm, _⟩ := hf.2 _ (List.getLast_mem h0)
          obtain ⟨x, xs, hx⟩ : ∃ x xs, needs.getLast h0 = x :: xs := by
            cases hq : needs.getLast h0 with
            | nil => exact absurd hq hne
            | cons x xs => exact ⟨x, xs, rfl⟩
          have hx9 := hsm x (by rw [hx]; simp)
          have h9 : x.toNat < 9 := by omega
          have hlt : 2 ^ x.toNat < 512 := Nat.pow_lt_pow_right (n := 9) (by omega) h9
          have w2 : Way a (needs.dropLast ++ [needs.getLast h0]) (2 ^ x.toNat) _ := .snoc w hlt (by rw [pop_pow _ h9]; exact h1) (by rw [hx]; simp [hit])
          rw [← hsplit] at w2
          have q1 := hn.2 _ _ w2
          have q2 : pop (sdiff (2 ^ x.toNat) s) ≤ pop (2 ^ x.toNat) := pop_mono fun i hi => by rw [sdiff_test hlt] at hi; simp at hi ⊢; exact hi.1
          rw [pop_pow _ h9] at q2
          omega
        have e1 : decide ((k : Int) ≤ (n : Int)) = true := by rw [decide_eq_true_eq]; omega
        have hz := (way_ok (st := a) (by omega) hk.1.choose_spec).2.2
        have hlen := hs.1
        have hdl : needs.dropLast.length ≤ 60 := hsd.1
        have e2 : decide ((n : Int) ≤ iadd (k : Int) 1) = true := by rw [iadd_eq (by omega) (by omega), decide_eq_true_eq]; omega
        simp only [hL3, Option.bind_some, beq_self_eq_true, if_true, e1, e2, known_ok]
end Go.SM
