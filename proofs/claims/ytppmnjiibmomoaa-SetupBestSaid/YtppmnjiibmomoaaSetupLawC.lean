/- The law SetupServes, on the models. -/
import Derived.Test.YtppmnjiibmomoaaSetupLawB
set_option linter.unusedVariables false
set_option linter.unusedSimpArgs false
set_option linter.unusedSectionVars false
namespace Go.SM
open Go Go.VI
/-- A loop that looks for the first of a kind. -/
theorem loop_find {α R : Type} (l : List α) (body : Int → Option (Int ⊕ R)) (q : α → Bool) (yes : Nat → R) (no : R) (step : ∀ (k : Nat) (x : α), l[k]? = some x → body k = if q x then some (.inr (yes k)) else some (.inl ((k + 1 : Nat) : Int))) (fin : body (l.length : Int) = some (.inr no)) :
    ∃ r, loopT body 0 = some r ∧ ((l.any q = true ∧ ∃ k x, l[k]? = some x ∧ q x = true ∧ r = yes k) ∨ (l.any q = false ∧ r = no)) := by
  have key : ∀ (n k : Nat), k + n = l.length → ∃ r, loopT body (k : Int) = some r ∧ (((l.drop k).any q = true ∧ ∃ k x, l[k]? = some x ∧ q x = true ∧ r = yes k) ∨ ((l.drop k).any q = false ∧ r = no)) := by
    intro n
    induction n with
    | zero =>
      intro k h; obtain rfl : k = l.length := by omega
      exact ⟨no, loop_out fin, .inr ⟨by rw [List.drop_length]; rfl, rfl⟩⟩
    | succ n ih =>
      intro k h
      have hx : l[k]? = some l[k] := by simp
      have e : l.drop k = l[k] :: l.drop (k + 1) := List.drop_eq_getElem_cons (by omega)
      have hb := step k l[k] hx
      by_cases hq : q l[k] = true
      · rw [if_pos hq] at hb
        exact ⟨yes k, loop_out hb, .inl ⟨by rw [e, List.any_cons, hq, Bool.true_or], k, _, hx, hq, rfl⟩⟩
      · rw [if_neg hq] at hb
        rw [loop_in hb, e, List.any_cons, Bool.eq_false_iff.2 hq, Bool.false_or]
        exact ih (k + 1) (by omega)
  have := key l.length 0 (by omega)
  simpa using this
theorem contains_ok {l : List Int} (h : l.length ≤ 1000) (v : Int) : slices_Contains_Lint_int l v = some (l.any (fun x => v == x)) := by
  unfold slices_Contains_Lint_int slices_Index_Lint_int
  obtain ⟨r, h1, h2⟩ := loop_find l (slices_Index_Lint_int_l1 l v) (fun x => v == x) (fun k => .inl (k : Int)) (.inr ()) (fun k x hx => by
    have h1 : decide ((k : Int) < (l.length : Int)) = true := by simp [lt_of_get hx]
    have := lt_of_get hx
    unfold slices_Index_Lint_int_l1
    simp only [h1, if_true, idx_of hx, Option.bind_some, succ_cast k (by omega)]) (by simp [slices_Index_Lint_int_l1])
  rw [h1]
  rcases h2 with ⟨a, k, x, _, _, rfl⟩ | ⟨a, rfl⟩
  · simp only [Option.bind_some, a]
    have : decide ((k : Int) ≥ 0) = true := by rw [decide_eq_true_eq]; omega
    rw [this]
  · simp only [Option.bind_some, a]
    rfl
theorem meets_ok {a b : List Int} (ha : a.length ≤ 1000) (hb : b.length ≤ 1000) : setup_meets a b = some (a.any (fun x => b.any (fun y => x == y))) := by
  unfold setup_meets slices_ContainsFunc_Lint_int__setup_meets_1 slices_IndexFunc_Lint_int__setup_meets_1
  obtain ⟨r, h1, h2⟩ := loop_find a (slices_IndexFunc_Lint_int__setup_meets_1_l1 a b) (fun x => b.any (fun y => x == y)) (fun k => .inl (k : Int)) (.inr ()) (fun k x hx => by
    have h1 : decide ((k : Int) < (a.length : Int)) = true := by simp [lt_of_get hx]
    have := lt_of_get hx
    unfold slices_IndexFunc_Lint_int__setup_meets_1_l1 setup_meets_1
    simp only [h1, if_true, idx_of hx, Option.bind_some, contains_ok hb, succ_cast k (by omega)]) (by simp [slices_IndexFunc_Lint_int__setup_meets_1_l1])
  rw [h1]
  rcases h2 with ⟨e, k, x, _, _, rfl⟩ | ⟨e, rfl⟩
  · simp only [Option.bind_some, e]
    have : decide ((k : Int) ≥ 0) = true := by rw [decide_eq_true_eq]; omega
    rw [this]
  · simp only [Option.bind_some, e]
    rfl
theorem meets_hit {a need : List Int} (ha : Small a) (hn : Small need) : a.any (fun x => need.any (fun y => x == y)) = hit (toB a) need := by
  rw [Bool.eq_iff_iff, List.any_eq_true]
  unfold hit
  rw [List.any_eq_true]
  constructor
  · rintro ⟨x, hx, h⟩
    obtain ⟨y, hy, e⟩ := List.any_eq_true.1 h
    have : x = y := by simpa using e
    subst this
    exact ⟨x, hy, by rw [toB_test, List.any_eq_true]; exact ⟨x, hx, by simp⟩⟩
  · rintro ⟨y, hy, h⟩
    rw [toB_test, List.any_eq_true] at h
    obtain ⟨x, hx, e⟩ := h
    have e : x.toNat = y.toNat := by simpa using e
    have := ha x hx
    have := hn y hy
    have : x = y := by omega
    subst this
    exact ⟨x, hx, List.any_eq_true.2 ⟨x, hy, by simp⟩⟩
theorem valid_fit {needs : List (List Int)} (hs : Sz needs) (h : validCode needs = 0) : Fit needs := by
  have : checkCode needs 1 = 0 := by unfold checkCode; simp [h]
  exact (code_zero hs this).2.1
theorem serves_ok {needs : List (List Int)} (hf : Fit needs) {f t : Nat} (hft : f ≤ t) (ht : t < needs.length) {pairs : List Int} (hp : Small pairs) (hl : pairs.length ≤ 60) : setup_serves needs ⟨(f : Int), (t : Int)⟩ pairs = some ((win needs f t).all (hit (toB pairs))) := by
  have hlen := hf.1
  unfold setup_serves
  have hslc : slc needs (f : Int) (iadd (t : Int) 1) = some (win needs f t) := by
    rw [succ_cast t (by omega)]
    unfold slc
    rw [if_pos (by omega)]; rfl
  simp only [hslc, Option.bind_some]
  rw [loop_all (win needs f t) (setup_serves_l1 pairs (win needs f t)) (hit (toB pairs)) (.inl ()) (.inr ()) (fun j x hj => ?step) ?fin]
  · cases (win needs f t).all (hit (toB pairs)) <;> rfl
  case step =>
    obtain ⟨hg, hle⟩ := win_get hj
    obtain ⟨_, q1, q2⟩ := hf.2 x (List.mem_of_getElem? hg)
    have h1 : decide ((j : Int) < ((win needs f t).length : Int)) = true := by simp [lt_of_get hj]
    unfold setup_serves_l1
    simp only [h1, if_true, idx_of hj, Option.bind_some, meets_ok (show pairs.length ≤ 1000 by omega) (show x.length ≤ 1000 by omega), meets_hit hp q1, succ_cast j (by omega)]
    by_cases hh : hit (toB pairs) x = true <;> simp [hh]
  case fin => simp [setup_serves_l1]
/-- what Serves answers -/
def sv (needs : List (List Int)) (w : Window) (pairs : List Int) : Bool × Int :=
  if validCode needs ≠ 0 then (false, validCode needs) else if (winB needs w && isSetB pairs) = false then (false, 1) else ((win needs w.From.toNat w.To.toNat).all (hit (toB pairs)), 0)
theorem Serves_ok {needs : List (List Int)} (hs : Sz needs) (w : Window) {pairs : List Int} (hl : pairs.length ≤ 60) : setup_Serves needs w pairs = some (sv needs w pairs) ∧ sheetmetalref05_Serves needs w pairs = some (sv needs w pairs) := by
  unfold setup_Serves sheetmetalref05_Serves sv
  simp only [Validate_ok hs, rValidate_ok hs, Option.bind_some]
  by_cases hc : validCode needs = 0
  case neg => simp [hc]
  have hf := valid_fit hs hc
  simp only [hc, bne_self_eq_false, Bool.false_eq_true, if_false, ne_eq, not_true_eq_false, valid_ok, windowIn_ok hs, isSet_ok hl, rIsSet_ok hl, Option.bind_some]
  by_cases hw : winB needs w = true
  case neg => simp [hw]
  simp only [hw, if_true, Option.bind_some, Bool.true_and]
  by_cases hp : isSetB pairs = true
  case neg => simp [hp]
  obtain ⟨f, t, rfl, hft, ht⟩ := win_nat hw
  have hsm := isSetB_small hp
  simp only [hp, Bool.not_true, Bool.false_eq_true, if_false, serves_ok hf hft ht hsm hl, rBits_ok hsm hl, Option.bind_some, rServes_ok (fit_small hf) hf.1 hft ht (toB_lt hsm), Int.toNat_natCast, Bool.true_eq_false]
  first | exact ⟨rfl, rfl⟩ | simp
def bk (needs : List (List Int)) (st : Int) (w : Window) : Bool × Int :=
  if checkCode needs st ≠ 0 then (false, checkCode needs st) else if winB needs w = false then (false, 1) else (blockedB needs st w.From.toNat w.To.toNat, 0)
theorem Blocked_ok {needs : List (List Int)} (hs : Sz needs) (st : Int) (w : Window) : setup_Blocked needs st w = some (bk needs st w) ∧ sheetmetalref05_Blocked needs st w = some (bk needs st w) := by
  unfold setup_Blocked sheetmetalref05_Blocked bk
  simp only [check_ok hs, rCheck_ok hs, Option.bind_some]
  by_cases hc : checkCode needs st = 0
  case neg => simp [hc]
  obtain ⟨_, hf, _, _, _⟩ := code_zero hs hc
  simp only [hc, bne_self_eq_false, Bool.false_eq_true, if_false, ne_eq, not_true_eq_false, valid_ok, windowIn_ok hs, Option.bind_some]
  by_cases hw : winB needs w = true
  case neg => simp [hw]
  obtain ⟨f, t, rfl, hft, ht⟩ := win_nat hw
  simp only [hw, Bool.not_true, Bool.false_eq_true, if_false, blocked_ok (fit_small hf) hf.1 st hft ht, rBlocked_ok (fit_small hf) hf.1 st hft ht, Option.bind_some, Int.toNat_natCast, Bool.true_eq_false]
  first | exact ⟨rfl, rfl⟩ | simp
theorem pop_toB {l : List Int} : pop (toB l) ≤ l.length := by
  have h1 : pop (toB l) = ((List.range 9).filter fun i => (toB l).testBit i).length := by unfold pop; rw [List.countP_eq_length_filter]
  rw [h1]
  have hn : ((List.range 9).filter fun i => (toB l).testBit i).Nodup := List.Pairwise.filter _ List.nodup_range
  have hsub : ((List.range 9).filter fun i => (toB l).testBit i) ⊆ l.map Int.toNat := fun i hi => by
    have := (List.mem_filter.1 hi).2
    rw [toB_test, List.any_eq_true] at this
    obtain ⟨x, hx, e⟩ := this
    exact List.mem_map.2 ⟨x, hx, by simpa using e⟩
  have := List.Nodup.length_le_of_subset hn hsub
  simpa using this
theorem law_SetupServes (r : sheetmetallaw05_Rig) (w : Window) (pairs : List Int) : sheetmetallaw05_SetupServes r w pairs = some true := by
  unfold sheetmetallaw05_SetupServes
  simp only [Long_ok, Option.bind_some]
  cases hh : longB r.Needs with
  | true => simp [known_ok]
  | false =>
    have hs := long_sz hh
    simp only [Bool.false_eq_true, if_false, Option.bind_some]
    by_cases hl : (pairs.length : Int) > 60
    · simp [hl, known_ok]
    have hl' : pairs.length ≤ 60 := by omega
    simp only [hl, decide_false, Bool.false_eq_true, if_false, (Serves_ok hs w hl').1, (Serves_ok hs w hl').2, (Blocked_ok hs r.Stations w).1, (Blocked_ok hs r.Stations w).2, Option.bind_some, beq_self_eq_true, if_true, known_ok]
    by_cases h1 : (sv r.Needs w pairs).2 = 0
    case neg => simp [h1]
    by_cases h2 : (bk r.Needs r.Stations w).2 = 0
    case neg => simp [h1, h2]
    simp only [h1, h2, bne_self_eq_false, Bool.false_eq_true, if_false]
    cases h3 : (sv r.Needs w pairs).1 with
    | false => simp
    | true =>
      cases h4 : (bk r.Needs r.Stations w).1 with
      | false => simp
      | true =>
        have h5 : (pairs.length : Int) > r.Stations := by
          rcases (by omega : r.Stations < (pairs.length : Int) ∨ (pairs.length : Int) ≤ r.Stations) with q | q
          · exact q
          · exfalso
            unfold bk at h2 h4
            split at h4
            · cases h4
            rename_i hc
            split at h4
            · cases h4
            rename_i hw
            unfold sv at h3
            split at h3
            · cases h3
            split at h3
            · cases h3
            rename_i hp
            have hp' : isSetB pairs = true := by
              simp only [Bool.and_eq_false_iff, not_or, Bool.not_eq_false] at hp; exact hp.2
            simp only at h3 h4
            unfold blockedB at h4
            simp only [Bool.not_eq_true', List.any_eq_false] at h4
            have hpop := @pop_toB pairs
            exact h4 (toB pairs) (mem_mnt.2 ⟨toB_lt (isSetB_small hp'), by omega⟩) h3
        simp [h5]
end Go.SM
