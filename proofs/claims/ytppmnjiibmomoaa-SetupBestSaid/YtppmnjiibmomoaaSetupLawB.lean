/- The law SetupBounds, on the models: a list of blocked windows proves a lower bound. -/
import Derived.Test.YtppmnjiibmomoaaSetupRef
import Derived.Test.YtppmnjiibmomoaaSetupLawA
set_option linter.unusedVariables false
set_option linter.unusedSimpArgs false
set_option linter.unusedSectionVars false
namespace Go.SM
open Go Go.VI
/-- no window begins ahead of the end of the one before -/
def ordB (l : List Window) : Bool := (List.range (l.length - 1)).all fun k => match l[k + 1]?, l[k]? with
  | some x, some y => !decide (x.From < y.To)
  | _, _ => true
def blkW (needs : List (List Int)) (st : Int) (w : Window) : Bool := blockedB needs st w.From.toNat w.To.toNat
/-- what CheckBound answers -/
def cb (needs : List (List Int)) (st : Int) (l : List Window) : Int × Int :=
  if checkCode needs st ≠ 0 then (0, checkCode needs st) else if l.all (winB needs) = false then (0, 1) else if ordB l = false then (0, 12) else if l.all (blkW needs st) = false then (0, 11)
  else if needs.length = 0 then (0, 0) else ((l.length : Int) + 1, 0)
theorem ord_loop {l : List Window} (h : l.length ≤ 60) (body : Int → Option (Int ⊕ (Unit ⊕ Unit))) (hb : body = setup_CheckBound_l2 l) : loopT body 1 = some (if ordB l then .inr () else .inl ()) := by
  subst hb
  rw [show (1 : Int) = ((1 : Nat) : Int) from rfl, loop_all_off 1 (List.range (l.length - 1)) (setup_CheckBound_l2 l) (fun k => match l[k + 1]?, l[k]? with | some x, some y => !decide (x.From < y.To) | _, _ => true) (.inl ()) (.inr ()) (fun k x hx => ?step) ?fin]
  · rfl
  case step =>
    obtain ⟨rfl, hk⟩ := range_get hx
    have h1 : decide (((1 + x : Nat) : Int) < (l.length : Int)) = true := by rw [decide_eq_true_eq]; omega
    have g1 : l[1 + x]? = some l[1 + x] := by simp
    have g0 : l[x]? = some l[x] := by simp
    have hs : isub ((1 + x : Nat) : Int) 1 = (x : Int) := by rw [isub_eq (by omega) (by omega)]; omega
    unfold setup_CheckBound_l2
    simp only [h1, if_true, idx_of g1, hs, idx_of g0, Option.bind_some, show x + 1 = 1 + x from by omega, g1, g0, succ_cast (1 + x) (by omega)]
    by_cases q : l[1 + x].From < l[x].To <;> simp [q]
  case fin =>
    rw [List.length_range]
    have h1 : decide (((1 + (l.length - 1) : Nat) : Int) < (l.length : Int)) = false := by rw [decide_eq_false_iff_not]; omega
    unfold setup_CheckBound_l2
    simp only [h1, Bool.false_eq_true, if_false]
theorem win_nat {needs : List (List Int)} {w : Window} (h : winB needs w = true) : ∃ f t : Nat, w = ⟨(f : Int), (t : Int)⟩ ∧ f ≤ t ∧ t < needs.length := by
  unfold winB at h
  rw [decide_eq_true_eq] at h
  obtain ⟨F, T⟩ := w
  refine ⟨F.toNat, T.toNat, ?_, ?_, ?_⟩ <;> simp at h
  · congr 1 <;> omega
  · omega
  · omega
theorem fit_small {needs : List (List Int)} (h : Fit needs) : AllSmall needs := fun l hl => (h.2 l hl).2
set_option maxRecDepth 20000 in
theorem CheckBound_ok {needs : List (List Int)} (hs : Sz needs) (st : Int) {l : List Window} (hl : l.length ≤ 60) : setup_CheckBound needs st l = some (cb needs st l) ∧ sheetmetalref05_CheckBound needs st l = some (cb needs st l) := by
  unfold setup_CheckBound sheetmetalref05_CheckBound cb
  simp only [check_ok hs, rCheck_ok hs, Option.bind_some]
  by_cases hc : checkCode needs st = 0
  case neg => simp [hc]
  obtain ⟨_, hf, h1, h3, h24⟩ := code_zero hs hc
  have hsm := fit_small hf
  simp only [hc, bne_self_eq_false, Bool.false_eq_true, if_false, ne_eq, not_true_eq_false]
  rw [loop_all l (setup_CheckBound_l1 needs l) (winB needs) (.inl ()) (.inr ()) (fun k x hx => ?s1) ?f1, loop_all l (sheetmetalref05_CheckBound_l1 needs l) (winB needs) (.inl ()) (.inr ()) (fun k x hx => ?s2) ?f2]
  case s1 =>
    have h1 : decide ((k : Int) < (l.length : Int)) = true := by simp [lt_of_get hx]
    have := lt_of_get hx
    unfold setup_CheckBound_l1
    simp only [h1, if_true, idx_of hx, Option.bind_some, valid_ok, succ_cast k (by omega)]
    cases winB needs x <;> rfl
  case f1 => simp [setup_CheckBound_l1]
  case s2 =>
    have h1 : decide ((k : Int) < (l.length : Int)) = true := by simp [lt_of_get hx]
    have := lt_of_get hx
    unfold sheetmetalref05_CheckBound_l1
    simp only [h1, if_true, idx_of hx, Option.bind_some, windowIn_ok hs, succ_cast k (by omega)]
    cases winB needs x <;> rfl
  case f2 => simp [sheetmetalref05_CheckBound_l1]
  cases hw : l.all (winB needs) with
  | false => simp
  | true =>
    simp only [if_true, Option.bind_some, ord_loop hl _ rfl, ord_loop hl (sheetmetalref05_CheckBound_l2 l) rfl]
    cases ho : ordB l with
    | false => simp
    | true =>
      simp only [if_true, Option.bind_some]
      rw [loop_all l (setup_CheckBound_l3 needs st l) (blkW needs st) (.inl ()) (.inr ()) (fun k x hx => ?s3) ?f3, loop_all l (sheetmetalref05_CheckBound_l3 needs st l) (blkW needs st) (.inl ()) (.inr ()) (fun k x hx => ?s4) ?f4]
      case s3 =>
        have h1 : decide ((k : Int) < (l.length : Int)) = true := by simp [lt_of_get hx]
        have := lt_of_get hx
        obtain ⟨f, t, rfl, hft, ht⟩ := win_nat (List.all_eq_true.1 hw x (List.mem_of_getElem? hx))
        unfold setup_CheckBound_l3
        simp only [h1, if_true, idx_of hx, Option.bind_some, blocked_ok hsm hs.1 st hft ht, blkW, Int.toNat_natCast, succ_cast k (by omega)]
        by_cases hbb : blockedB needs st f t = true <;> simp [hbb]
      case f3 => simp [setup_CheckBound_l3]
      case s4 =>
        have h1 : decide ((k : Int) < (l.length : Int)) = true := by simp [lt_of_get hx]
        have := lt_of_get hx
        obtain ⟨f, t, rfl, hft, ht⟩ := win_nat (List.all_eq_true.1 hw x (List.mem_of_getElem? hx))
        unfold sheetmetalref05_CheckBound_l3
        simp only [h1, if_true, idx_of hx, Option.bind_some, rBlocked_ok hsm hs.1 st hft ht, blkW, Int.toNat_natCast, succ_cast k (by omega)]
        by_cases hbb : blockedB needs st f t = true <;> simp [hbb]
      case f4 => simp [sheetmetalref05_CheckBound_l3]
      cases hb : l.all (blkW needs st) with
      | false => simp
      | true =>
        simp only [if_true, Option.bind_some]
        by_cases h0 : needs.length = 0
        · have : ((needs.length : Int) == 0) = true := by rw [h0]; rfl
          simp [h0]
        · have : ((needs.length : Int) == 0) = false := by rw [beq_eq_false_iff_ne]; omega
          simp only [this, Bool.false_eq_true, if_false, h0, succ_cast l.length (by omega)]
          constructor <;> (congr 1)

/-! ### the lower bound -/
/-- a way, step by step: S: the set at each step, C: the changes ahead of each step -/
theorem way_seq {st : Int} {p : List (List Int)} {s c : Nat} (h : Way st p s c) : ∃ S C : Nat → Nat, C 0 = 0 ∧ C p.length = c ∧ (p ≠ [] → S (p.length - 1) = s) ∧ ∀ (i : Nat) need, p[i]? = some need →
    S i < 512 ∧ (pop (S i) : Int) ≤ st ∧ hit (S i) need = true ∧ C (i + 1) = C i + pop (sdiff (S i) (if i = 0 then 0 else S (i - 1))) := by
  induction h with
  | nil => exact ⟨fun _ => 0, fun _ => 0, rfl, rfl, fun h => absurd rfl h, fun i need h => by simp at h⟩
  | @snoc p b c s need h hs hp hh ih =>
    obtain ⟨S, C, h0, hc, hl, hi⟩ := ih
    refine ⟨fun i => if i = p.length then s else S i, fun i => if i = p.length + 1 then c + pop (sdiff s b) else C i, ?_, by simp, fun _ => by simp, fun i n hn => ?_⟩
    · simp [h0]
    · rcases Nat.lt_or_ge i p.length with q | q
      · rw [List.getElem?_append_left q] at hn
        obtain ⟨a1, a2, a3, a4⟩ := hi i n hn
        have e1 : i ≠ p.length := by omega
        have e2 : i + 1 ≠ p.length + 1 := by omega
        have e3 : i ≠ p.length + 1 := by omega
        have e4 : i - 1 ≠ p.length := by omega
        simp only [e1, e2, e3, e4, if_false]
        exact ⟨a1, a2, a3, a4⟩
      · rw [List.getElem?_append_right q] at hn
        have hi0 : i = p.length := by
          have := (List.getElem?_eq_some_iff.1 hn).1
          simp at this; omega
        subst hi0
        simp at hn; subst hn
        have e3 : p.length ≠ p.length + 1 := by omega
        simp only [if_true, e3, if_false]
        refine ⟨hs, hp, hh, ?_⟩
        rw [hc]
        by_cases h0' : p.length = 0
        · have : p = [] := List.eq_nil_of_length_eq_zero h0'
          subst this
          obtain ⟨rfl, rfl⟩ := way_nil h
          simp
        · have : p.length - 1 ≠ p.length := by omega
          have hpne : p ≠ [] := by rintro rfl; exact h0' rfl
          simp only [h0', if_false, this, hl hpne]
theorem sub_of_zero {s b : Nat} (hs : s < 512) (h : pop (sdiff s b) = 0) (i : Nat) (hi : s.testBit i = true) : b.testBit i = true := by
  cases hb : b.testBit i with
  | true => rfl
  | false =>
    have h9 : i < 9 := by
      rcases Nat.lt_or_ge i 9 with q | q
      · exact q
      · rw [Nat.testBit_lt_two_pow (Nat.lt_of_lt_of_le hs (Nat.pow_le_pow_right (n := 2) (by omega) q))] at hi; cases hi
    have := pop_pos h9 (show (sdiff s b).testBit i = true by rw [sdiff_test hs, hi, hb]; rfl)
    omega
theorem hit_mono {s b : Nat} (h : ∀ i, s.testBit i = true → b.testBit i = true) {need : List Int} (hh : hit s need = true) : hit b need = true := by
  unfold hit at hh ⊢
  rw [List.any_eq_true] at hh ⊢
  obtain ⟨x, hx, hb⟩ := hh
  exact ⟨x, hx, h _ hb⟩
section
variable {st : Int} {needs : List (List Int)} {S C : Nat → Nat}
/-- within a blocked window there is a change -/
theorem blocked_step (hi : ∀ (i : Nat) need, needs[i]? = some need → S i < 512 ∧ (pop (S i) : Int) ≤ st ∧ hit (S i) need = true ∧ C (i + 1) = C i + pop (sdiff (S i) (if i = 0 then 0 else S (i - 1)))) {f t : Nat} (hft : f ≤ t) (ht : t < needs.length) (hb : blockedB needs st f t = true) : C (f + 1) + 1 ≤ C (t + 1) := by
  have mono : ∀ n, f + n < needs.length → C (f + 1) ≤ C (f + n + 1) := by
    intro n
    induction n with
    | zero => intro _; exact Nat.le_refl _
    | succ n ih =>
      intro hn
      have := ih (by omega)
      have hg : needs[f + (n + 1)]? = some needs[f + (n + 1)] := by simp
      obtain ⟨_, _, _, e⟩ := hi _ _ hg
      rw [show f + (n + 1) = f + n + 1 from by omega] at e ⊢
      omega
  rcases Nat.lt_or_ge (C (f + 1)) (C (t + 1)) with q | q
  · exact q
  · exfalso
    -- no change at all: the set at f serves
    have sub : ∀ n, f + n ≤ t → C (f + n + 1) = C (f + 1) ∧ ∀ i, (S (f + n)).testBit i = true → (S f).testBit i = true := by
      intro n
      induction n with
      | zero => intro _; exact ⟨rfl, fun i h => h⟩
      | succ n ih =>
        intro hn
        obtain ⟨e0, sub0⟩ := ih (by omega)
        have hg : needs[f + (n + 1)]? = some needs[f + (n + 1)] := by simp
        obtain ⟨h5, _, _, e⟩ := hi _ _ hg
        rw [if_neg (by omega), show f + (n + 1) - 1 = f + n from by omega, show f + (n + 1) = f + n + 1 from by omega] at e
        have m1 : C (f + n + 1 + 1) ≤ C (t + 1) := by
          have : ∀ m, f + n + 1 + m < needs.length → C (f + n + 1 + 1) ≤ C (f + n + 1 + m + 1) := by
            intro m
            induction m with
            | zero => intro _; exact Nat.le_refl _
            | succ m ihm =>
              intro hm
              have := ihm (by omega)
              have hg2 : needs[f + n + 1 + (m + 1)]? = some needs[f + n + 1 + (m + 1)] := by simp
              obtain ⟨_, _, _, e2⟩ := hi _ _ hg2
              rw [show f + n + 1 + (m + 1) = f + n + 1 + m + 1 from by omega] at e2 ⊢
              omega
          have := this (t - (f + n + 1)) (by omega)
          rwa [show f + n + 1 + (t - (f + n + 1)) = t from by omega] at this
        have hz : pop (sdiff (S (f + n + 1)) (S (f + n))) = 0 := by omega
        refine ⟨by rw [show f + (n + 1) + 1 = f + n + 1 + 1 from by omega]; omega, fun i h => sub0 i (sub_of_zero (by rw [show f + n + 1 = f + (n + 1) from by omega]; exact h5) hz i (by rw [show f + n + 1 = f + (n + 1) from by omega]; exact h))⟩
    have hall : (win needs f t).all (hit (S f)) = true := by
      rw [List.all_eq_true]
      intro x hx
      obtain ⟨k, hk⟩ := List.mem_iff_getElem?.1 hx
      obtain ⟨hg, hle⟩ := win_get hk
      obtain ⟨_, _, hh, _⟩ := hi _ _ hg
      exact hit_mono (sub k hle).2 hh
    have hg : needs[f]? = some needs[f] := by simp
    obtain ⟨h5, hp, _, _⟩ := hi f _ hg
    unfold blockedB at hb
    simp only [Bool.not_eq_true', List.any_eq_false] at hb
    exact hb (S f) (mem_mnt.2 ⟨h5, hp⟩) hall
end
theorem lower {st : Int} {needs : List (List Int)} {s c : Nat} (h : Way st needs s c) (hf : Fit needs) (h0 : needs ≠ []) {l : List Window} (hw : l.all (winB needs) = true) (ho : ordB l = true) (hb : l.all (blkW needs st) = true) : l.length + 1 ≤ c := by
  obtain ⟨S, C, hC0, hCc, _, hi⟩ := way_seq h
  have hpos : 0 < needs.length := List.length_pos_iff.2 h0
  have mono : ∀ i j, i ≤ j → j ≤ needs.length → C i ≤ C j := by
    intro i j hij
    induction j with
    | zero => intro _; obtain rfl : i = 0 := by omega
              exact Nat.le_refl _
    | succ j ih =>
      intro hj
      rcases Nat.lt_or_ge i (j + 1) with q | q
      · have := ih (by omega) (by omega)
        have hg : needs[j]? = some needs[j] := by simp
        obtain ⟨_, _, _, e⟩ := hi _ _ hg
        omega
      · obtain rfl : i = j + 1 := by omega
        exact Nat.le_refl _
  have first : 1 ≤ C 1 := by
    have hg : needs[0]? = some needs[0] := by simp
    obtain ⟨h5, _, hh, e⟩ := hi 0 _ hg
    unfold hit at hh
    obtain ⟨x, hx, hbit⟩ := List.any_eq_true.1 hh
    obtain ⟨_, hsm, _⟩ := hf.2 _ (List.mem_of_getElem? hg)
    have hx9 := hsm x hx
    have := pop_pos (s := sdiff (S 0) 0) (i := x.toNat) (by omega) (by rw [sdiff_test h5, hbit]; simp)
    simp only [if_true, Nat.zero_add] at e
    omega
  have each : ∀ (k : Nat) (w : Window), l[k]? = some w → ∃ f t : Nat, w = ⟨(f : Int), (t : Int)⟩ ∧ f ≤ t ∧ t < needs.length ∧ C (f + 1) + 1 ≤ C (t + 1) := fun k w hk => by
    obtain ⟨f, t, rfl, hft, ht⟩ := win_nat (List.all_eq_true.1 hw w (List.mem_of_getElem? hk))
    have hbl := List.all_eq_true.1 hb _ (List.mem_of_getElem? hk)
    unfold blkW at hbl
    simp only [Int.toNat_natCast] at hbl
    exact ⟨f, t, rfl, hft, ht, blocked_step hi hft ht hbl⟩
  have go : ∀ (k : Nat) (w : Window), l[k]? = some w → k + 2 ≤ C (w.To.toNat + 1) := by
    intro k
    induction k with
    | zero =>
      intro w hk
      obtain ⟨f, t, rfl, hft, ht, hc⟩ := each 0 w hk
      have := mono 1 (f + 1) (by omega) (by omega)
      simp only [Int.toNat_natCast]
      omega
    | succ k ih =>
      intro w hk
      have hkl := lt_of_get hk
      obtain ⟨f, t, rfl, hft, ht, hc⟩ := each _ w hk
      have hg : l[k]? = some l[k] := by simp
      obtain ⟨f', t', e', hft', ht', _⟩ := each k _ hg
      have := ih _ hg
      have hord := List.all_eq_true.1 ho k (List.mem_range.2 (by omega))
      rw [hk, hg] at hord
      simp only [Bool.not_eq_true', decide_eq_false_iff_not] at hord
      rw [e'] at this hord
      simp only [Int.toNat_natCast] at this ⊢
      have hord' : ¬ ((f : Int) < (t' : Int)) := hord
      have h2 := mono (t' + 1) (f + 1) (by omega) (by omega)
      omega
  rcases Nat.eq_zero_or_pos l.length with q | q
  · have := mono 1 needs.length (by omega) (Nat.le_refl _)
    omega
  · have hg : l[l.length - 1]? = some l[l.length - 1] := by simp
    have h1 := go _ _ hg
    obtain ⟨f, t, e, hft, ht, _⟩ := each _ _ hg
    rw [e] at h1
    simp only [Int.toNat_natCast] at h1
    have := mono (t + 1) needs.length (by omega) (Nat.le_refl _)
    omega
theorem law_SetupBounds (needs : List (List Int)) (st : Int) (l : List Window) : sheetmetallaw05_SetupBounds needs st l = some true := by
  unfold sheetmetallaw05_SetupBounds
  simp only [heavy_ok, Option.bind_some]
  cases hh : heavyB needs with
  | true => simp [known_ok]
  | false =>
    have hs := heavy_sz hh
    simp only [Bool.false_eq_true, if_false, Option.bind_some]
    by_cases hl : (l.length : Int) > 40
    · simp [hl, known_ok]
    simp only [hl, decide_false, Bool.false_eq_true, if_false]
    obtain ⟨e1, e2⟩ := CheckBound_ok hs st (l := l) (by omega)
    simp only [e1, e2, Option.bind_some, bne_self_eq_false, Bool.false_eq_true, if_false]
    by_cases hc : (cb needs st l).2 = 0
    case neg => simp [hc, known_ok]
    have hcode : checkCode needs st = 0 := by
      unfold cb at hc
      split at hc
      · exact hc
      · rename_i h; simpa using h
    rcases least_ok hs st with ⟨hc', _⟩ | ⟨_, n, hL, hn⟩
    · exact absurd hcode hc'
    obtain ⟨_, hf, h1, _, _⟩ := code_zero hs hcode
    have hle : (cb needs st l).1 ≤ (n : Int) := by
      unfold cb at hc ⊢
      simp only [hcode, ne_eq, not_true_eq_false, if_false] at hc ⊢
      split
      · exact Int.natCast_nonneg n
      rename_i hw
      split
      · exact Int.natCast_nonneg n
      rename_i ho
      split
      · exact Int.natCast_nonneg n
      rename_i hb
      split
      · exact Int.natCast_nonneg n
      rename_i h0
      obtain ⟨s, w⟩ := hn.1
      have := lower w hf (by rintro rfl; exact h0 rfl) (by simpa using hw) (by simpa using ho) (by simpa using hb)
      omega
    simp [hc, hL, hle, known_ok]
end Go.SM
