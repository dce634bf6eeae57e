/- The law SetupFinds, on the models. -/
import Derived.Test.YtppmnjiibmomoaaSetupLawC
set_option linter.unusedVariables false
set_option linter.unusedSimpArgs false
set_option linter.unusedSectionVars false
namespace Go.SM
open Go Go.VI
/-- the windows found from step t on, the open one beginning at f: n: how many steps are left -/
def gb (needs : List (List Int)) (st : Int) : Nat → Nat → Nat → List Window → List Window
  | 0, _, _, l => l
  | n + 1, f, t, l => if blockedB needs st f t then gb needs st n t (t + 1) (l ++ [⟨(f : Int), (t : Int)⟩]) else gb needs st n f (t + 1) l
/-- one step is never blocked -/
theorem single {needs : List (List Int)} {st : Int} (hf : Fit needs) (hst : 1 ≤ st) {t : Nat} (ht : t < needs.length) : blockedB needs st t t = false := by
  have hg : needs[t]? = some needs[t] := by simp
  obtain ⟨hne, hsm, _⟩ := hf.2 _ (List.mem_of_getElem? hg)
  obtain ⟨x, xs, hx⟩ : ∃ x xs, needs[t] = x :: xs := by
    cases hq : needs[t] with
    | nil => exact absurd hq hne
    | cons x xs => exact ⟨x, xs, rfl⟩
  have hx9 := hsm x (by rw [hx]; simp)
  have h9 : x.toNat < 9 := by omega
  have hlt : 2 ^ x.toNat < 512 := Nat.pow_lt_pow_right (n := 9) (by omega) h9
  unfold blockedB
  rw [Bool.not_eq_false', List.any_eq_true]
  refine ⟨2 ^ x.toNat, mem_mnt.2 ⟨hlt, by rw [pop_pow _ h9]; exact hst⟩, List.all_eq_true.2 fun y hy => ?_⟩
  obtain ⟨k, hk⟩ := List.mem_iff_getElem?.1 hy
  obtain ⟨h1, h2⟩ := win_get hk
  obtain rfl : k = 0 := by omega
  rw [Nat.add_zero, hg] at h1
  injection h1 with h1
  subst h1
  rw [hx]; simp [hit]
section
variable {needs : List (List Int)} {st : Int} (hf : Fit needs) (hst : 1 ≤ st)
include hf hst
theorem bound_loop : ∀ (n f t : Nat) (l : List Window), t + n = needs.length → f ≤ t → l.length ≤ t → loopT (setup_Bound_l1 needs st) (l, (f : Int), (t : Int)) = some (gb needs st n f t l) := by
  intro n
  have hlen := hf.1
  induction n with
  | zero =>
    intro f t l h hft hl
    have h1 : decide ((t : Int) < (needs.length : Int)) = false := by rw [decide_eq_false_iff_not]; omega
    refine loop_out ?_
    unfold setup_Bound_l1
    simp only [h1, Bool.false_eq_true, if_false, gb]
  | succ n ih =>
    intro f t l h hft hl
    have ht : t < needs.length := by omega
    have h1 : decide ((t : Int) < (needs.length : Int)) = true := by rw [decide_eq_true_eq]; omega
    cases hb : blockedB needs st f t with
    | false =>
      have e : setup_Bound_l1 needs st (l, (f : Int), (t : Int)) = some (.inl (l, (f : Int), ((t + 1 : Nat) : Int))) := by
        unfold setup_Bound_l1
        simp only [h1, if_true, blocked_ok (fit_small hf) hlen st hft ht, Option.bind_some, hb, Bool.not_false, succ_cast t (by omega)]
      rw [loop_in e, ih f (t + 1) l (by omega) (by omega) (by omega), gb, hb]; rfl
    | true =>
      have e : setup_Bound_l1 needs st (l, (f : Int), (t : Int)) = some (.inl (l ++ [⟨(f : Int), (t : Int)⟩], (t : Int), (t : Int))) := by
        unfold setup_Bound_l1
        simp only [h1, if_true, blocked_ok (fit_small hf) hlen st hft ht, Option.bind_some, hb, Bool.not_true, Bool.false_eq_true, if_false]
        rw [app_eq (by simp [LIM]; omega)]; rfl
      have e2 : setup_Bound_l1 needs st (l ++ [⟨(f : Int), (t : Int)⟩], (t : Int), (t : Int)) = some (.inl (l ++ [⟨(f : Int), (t : Int)⟩], (t : Int), ((t + 1 : Nat) : Int))) := by
        unfold setup_Bound_l1
        simp only [h1, if_true, blocked_ok (fit_small hf) hlen st (Nat.le_refl t) ht, Option.bind_some, single hf hst ht, Bool.not_false, succ_cast t (by omega)]
      rw [loop_in e, loop_in e2, ih t (t + 1) _ (by omega) (by omega) (by simp; omega), gb, hb]; rfl
theorem rbound_loop : ∀ (n f t : Nat) (l : List Window), t + n = needs.length → f ≤ t → l.length ≤ t → loopT (sheetmetalref05_Bound_l2 needs st) ((f : Int), (t : Int), l) = some (gb needs st n f t l) := by
  intro n
  have hlen := hf.1
  induction n with
  | zero =>
    intro f t l h hft hl
    have h1 : decide ((t : Int) < (needs.length : Int)) = false := by rw [decide_eq_false_iff_not]; omega
    refine loop_out ?_
    unfold sheetmetalref05_Bound_l2
    simp only [h1, Bool.false_eq_true, if_false, gb]
  | succ n ih =>
    intro f t l h hft hl
    have ht : t < needs.length := by omega
    have h1 : decide ((t : Int) < (needs.length : Int)) = true := by rw [decide_eq_true_eq]; omega
    cases hb : blockedB needs st f t with
    | false =>
      have e : sheetmetalref05_Bound_l2 needs st ((f : Int), (t : Int), l) = some (.inl ((f : Int), ((t + 1 : Nat) : Int), l)) := by
        unfold sheetmetalref05_Bound_l2
        simp only [h1, if_true, rBlocked_ok (fit_small hf) hlen st hft ht, Option.bind_some, hb, Bool.false_eq_true, if_false, sheetmetalref05_Bound_k1, succ_cast t (by omega)]
      rw [loop_in e, ih f (t + 1) l (by omega) (by omega) (by omega), gb, hb]; rfl
    | true =>
      have e : sheetmetalref05_Bound_l2 needs st ((f : Int), (t : Int), l) = some (.inl ((t : Int), ((t + 1 : Nat) : Int), l ++ [⟨(f : Int), (t : Int)⟩])) := by
        unfold sheetmetalref05_Bound_l2
        simp only [h1, if_true, rBlocked_ok (fit_small hf) hlen st hft ht, Option.bind_some, hb]
        rw [app_eq (by simp [LIM]; omega)]
        simp only [Option.bind_some, sheetmetalref05_Bound_k1, succ_cast t (by omega)]
      rw [loop_in e, ih t (t + 1) _ (by omega) (by omega) (by simp; omega), gb, hb]; rfl
end
/-- what is known of the windows found so far -/
structure GI (needs : List (List Int)) (st : Int) (f t : Nat) (l : List Window) : Prop where
  len : l.length ≤ t
  win : l.all (winB needs) = true
  blk : l.all (blkW needs st) = true
  ord : ordB l = true
  last : ∀ w, l[l.length - 1]? = some w → w.To = (f : Int)
theorem ord_snoc {l : List Window} {w : Window} (h : ordB l = true) (hl : ∀ v, l[l.length - 1]? = some v → v.To ≤ w.From) : ordB (l ++ [w]) = true := by
  unfold ordB at h ⊢
  rw [List.all_eq_true] at h ⊢
  intro k hk
  have hk' := List.mem_range.1 hk
  simp only [List.length_append, List.length_cons, List.length_nil] at hk'
  rcases Nat.lt_or_ge (k + 1) l.length with q | q
  · rw [List.getElem?_append_left q, List.getElem?_append_left (by omega)]
    exact h k (List.mem_range.2 (by omega))
  · have e : k + 1 = l.length := by omega
    rw [List.getElem?_append_right (by omega), List.getElem?_append_left (by omega), show k + 1 - l.length = 0 from by omega]
    have hg : l[k]? = some l[k] := by simp
    have := hl l[k] (by rw [show l.length - 1 = k from by omega]; exact hg)
    simp only [List.getElem?_cons_zero, hg, Bool.not_eq_true', decide_eq_false_iff_not]
    omega
theorem gb_ok {needs : List (List Int)} {st : Int} (hf : Fit needs) : ∀ (n f t : Nat) (l : List Window), t + n = needs.length → f ≤ t → GI needs st f t l → ∃ f', GI needs st f' needs.length (gb needs st n f t l) := by
  intro n
  induction n with
  | zero =>
    intro f t l h hft hI
    obtain rfl : t = needs.length := by omega
    exact ⟨f, hI⟩
  | succ n ih =>
    intro f t l h hft hI
    have ht : t < needs.length := by omega
    unfold gb
    split
    · rename_i hb
      refine ih t (t + 1) _ (by omega) (by omega) ⟨by simp; exact hI.len, ?_, ?_, ?_, fun w hw => ?_⟩
      · rw [List.all_append, hI.win]
        simp [winB]; omega
      · rw [List.all_append, hI.blk]
        simp [blkW, hb]
      · exact ord_snoc hI.ord fun v hv => by rw [hI.last v hv]; exact Int.le_refl _
      · simp at hw; subst hw; rfl
    · exact ih f (t + 1) l (by omega) (by omega) ⟨by have := hI.len; omega, hI.win, hI.blk, hI.ord, hI.last⟩
theorem way_ext {st : Int} {p : List (List Int)} {s c : Nat} (h : Way st p s c) (hs : s < 512) (hp : (pop s : Int) ≤ st) : ∀ q : List (List Int), q.all (hit s) = true → Way st (p ++ q) s c := by
  have hz : pop (sdiff s s) = 0 := by
    have : sdiff s s = 0 := by
      apply Nat.eq_of_testBit_eq
      intro i
      rw [sdiff_test hs, Nat.zero_testBit]; cases s.testBit i <;> rfl
    rw [this]; decide
  intro q
  induction q generalizing p with
  | nil => intro _; rwa [List.append_nil]
  | cons x q ih =>
    intro hq
    simp only [List.all_cons, Bool.and_eq_true] at hq
    have := ih (p := p ++ [x]) (by have := Way.snoc h hs hp hq.1; rwa [hz, Nat.add_zero] at this) hq.2
    rwa [List.append_assoc] at this
theorem way_seg {st : Int} {p q : List (List Int)} {b c s : Nat} (h : Way st p b c) (hs : s < 512) (hp : (pop s : Int) ≤ st) (hq : q.all (hit s) = true) (hne : q ≠ []) : Way st (p ++ q) s (c + pop (sdiff s b)) := by
  cases q with
  | nil => exact absurd rfl hne
  | cons x q =>
    simp only [List.all_cons, Bool.and_eq_true] at hq
    have := way_ext (.snoc h hs hp hq.1) hs hp q hq.2
    rwa [List.append_assoc] at this
/-- one station: as many ways as windows -/
theorem gb_way {needs : List (List Int)} (hf : Fit needs) : ∀ (n f t : Nat) (l : List Window), t + n = needs.length → (f < t ∨ f = 0 ∧ t = 0) → (∃ s c, Way 1 (needs.take f) s c ∧ c ≤ l.length) → (t = 0 ∨ ∃ s, s ∈ mnt 1 ∧ (win needs f (t - 1)).all (hit s) = true) →
    needs ≠ [] → ∃ s c, Way 1 needs s c ∧ c ≤ (gb needs 1 n f t l).length + 1 := by
  have close : ∀ (f t : Nat), f < t → t ≤ needs.length → ∀ {b c : Nat}, Way 1 (needs.take f) b c → ∀ {s : Nat}, s ∈ mnt 1 → (win needs f (t - 1)).all (hit s) = true → ∃ s' c', Way 1 (needs.take t) s' c' ∧ c' ≤ c + 1 := by
    intro f t hft ht b c hw s hs hall
    obtain ⟨h5, hp⟩ := mem_mnt.1 hs
    have e : needs.take t = needs.take f ++ win needs f (t - 1) := by
      unfold win
      rw [show t - 1 + 1 = t from by omega]
      have h1 : (needs.take t).take f = needs.take f := by rw [List.take_take, Nat.min_eq_left (by omega)]
      rw [← h1, List.take_append_drop]
    have hne : win needs f (t - 1) ≠ [] := by
      intro h
      have := win_len (needs := needs) (f := f) (t := t - 1) (by omega) (by omega)
      rw [h] at this; simp at this; omega
    have w2 := way_seg hw h5 hp hall hne
    rw [← e] at w2
    have : pop (sdiff s b) ≤ pop s := pop_mono fun i hi => by rw [sdiff_test h5] at hi; simp at hi; exact hi.1
    exact ⟨_, _, w2, by omega⟩
  intro n
  induction n with
  | zero =>
    intro f t l h hft ⟨s, c, hw, hc⟩ hs hne
    have hpos : 0 < needs.length := List.length_pos_iff.2 hne
    have hf' : f < t := by omega
    rcases hs with q | ⟨s', hs', hall⟩
    · omega
    · obtain ⟨s2, c2, w2, h2⟩ := close f t hf' (by omega) hw hs' hall
      rw [show t = needs.length from by omega, List.take_length] at w2
      unfold gb
      exact ⟨s2, c2, w2, by omega⟩
  | succ n ih =>
    intro f t l h hft ⟨s, c, hw, hc⟩ hs hne
    have ht : t < needs.length := by omega
    have nb : ∀ g, blockedB needs 1 g t = false → ∃ s, s ∈ mnt 1 ∧ (win needs g (t + 1 - 1)).all (hit s) = true := fun g hg => by
      unfold blockedB at hg
      rw [Bool.not_eq_false', List.any_eq_true] at hg
      obtain ⟨s, h1, h2⟩ := hg
      exact ⟨s, h1, h2⟩
    unfold gb
    split
    · rename_i hb
      have hlt : f < t := by
        rcases hft with q | ⟨rfl, rfl⟩
        · exact q
        · rw [single hf (by omega) ht] at hb; cases hb
      rcases hs with q | ⟨s', hs', hall⟩
      · omega
      obtain ⟨s2, c2, w2, h2⟩ := close f t hlt (by omega) hw hs' hall
      exact ih t (t + 1) _ (by omega) (.inl (by omega)) ⟨s2, c2, w2, by simp; omega⟩ (.inr (nb t (single hf (by omega) ht))) hne
    · rename_i hb
      exact ih f (t + 1) l (by omega) (.inl (by omega)) ⟨s, c, hw, hc⟩ (.inr (nb f (by simpa using hb))) hne
theorem law_SetupFinds (needs : List (List Int)) (st : Int) : sheetmetallaw05_SetupFinds needs st = some true := by
  unfold sheetmetallaw05_SetupFinds
  simp only [heavy_ok, Option.bind_some]
  cases hh : heavyB needs with
  | true => simp [known_ok]
  | false =>
    have hs := heavy_sz hh
    simp only [Bool.false_eq_true, if_false]
    unfold setup_Bound sheetmetalref05_Bound
    simp only [check_ok hs, rCheck_ok hs, Option.bind_some]
    by_cases hc : checkCode needs st = 0
    case neg =>
      have : (checkCode needs st != 0) = true := by simp [hc]
      simp only [this, if_true, Option.bind_some, bne_self_eq_false, Bool.false_eq_true, if_false]
      have hl : loopT (sheetmetallaw05_SetupFinds_l1 ([], checkCode needs st) ([], checkCode needs st)) 0 = some (.inr ()) := loop_out (by simp [sheetmetallaw05_SetupFinds_l1])
      simp only [hl, Option.bind_some, this, if_true, known_ok]
    obtain ⟨_, hf, h1, h3, h24⟩ := code_zero hs hc
    have hb1 := bound_loop hf h1 needs.length 0 0 [] (by omega) (Nat.le_refl _) (by simp)
    have hb2 := rbound_loop hf h1 needs.length 0 0 [] (by omega) (Nat.le_refl _) (by simp)
    obtain ⟨f', hI⟩ := gb_ok hf (st := st) needs.length 0 0 [] (by omega) (Nat.le_refl _) ⟨by simp, rfl, rfl, rfl, fun w hw => by simp at hw⟩
    have hway : st = 1 → needs ≠ [] → ∃ s c, Way 1 needs s c ∧ c ≤ (gb needs st needs.length 0 0 []).length + 1 := fun e hne => by
      subst e
      exact gb_way hf needs.length 0 0 [] (by omega) (.inr ⟨rfl, rfl⟩) ⟨0, 0, .nil, by simp⟩ (.inl rfl) hne
    simp only [hc, bne_self_eq_false, Bool.false_eq_true, if_false]
    rw [show ((0 : Int)) = ((0 : Nat) : Int) from rfl, hb1, hb2]
    generalize gb needs st needs.length 0 0 [] = l at hI hway
    have hlen := hI.len
    have hn60 := hs.1
    simp only [Option.bind_some, bne_self_eq_false, Bool.false_eq_true, if_false]
    have hl : loopT (sheetmetallaw05_SetupFinds_l1 (l, ((0 : Nat) : Int)) (l, ((0 : Nat) : Int))) ((0 : Nat) : Int) = some (.inr ()) := by
      have := loop_all l (sheetmetallaw05_SetupFinds_l1 (l, ((0 : Nat) : Int)) (l, ((0 : Nat) : Int))) (fun _ => true) (.inl ()) (.inr ()) (fun k x hx => ?_) (by simp [sheetmetallaw05_SetupFinds_l1])
      · refine this.trans ?_; simp
      · have h1 : decide ((k : Int) < (l.length : Int)) = true := by simp [lt_of_get hx]
        have := lt_of_get hx
        unfold sheetmetallaw05_SetupFinds_l1
        simp only [h1, if_true, idx_of hx, Option.bind_some, beq_self_eq_true, Bool.and_self, Bool.not_true, Bool.false_eq_true, if_false, succ_cast k (by omega)]
    simp only [hl, Option.bind_some, (CheckBound_ok hs st (l := l) (by omega)).1, show (((0 : Nat) : Int) != 0) = false from rfl, Bool.false_eq_true, if_false]
    rcases least_ok hs st with ⟨hc', _⟩ | ⟨_, n, hL, hn⟩
    · exact absurd hc hc'
    have hcb : cb needs st l = if needs.length = 0 then (0, 0) else ((l.length : Int) + 1, 0) := by
      unfold cb
      simp [hc, hI.win, hI.ord, hI.blk]
    rw [hcb]
    by_cases h0 : needs = []
    · subst h0
      have hn0 : n = 0 := by have := hn.2 0 0 .nil; omega
      subst hn0
      simp only [List.length_nil, if_true, hL, Option.bind_some]
      simp [known_ok]
    · have hpos : needs.length ≠ 0 := fun e => h0 (List.eq_nil_of_length_eq_zero e)
      have hle : l.length + 1 ≤ n := by
        obtain ⟨s, w⟩ := hn.1
        exact lower w hf h0 hI.win hI.ord hI.blk
      have hle' : decide ((l.length : Int) + 1 ≤ (n : Int)) = true := by rw [decide_eq_true_eq]; omega
      simp only [hpos, if_false, hL, Option.bind_some, show ((0 : Int) == 0) = true from rfl, if_true, hle']
      by_cases h1 : st = 1
      · obtain ⟨s, c, w, hcl⟩ := hway h1 h0
        subst h1
        have := hn.2 _ _ w
        have e : (l.length : Int) + 1 = (n : Int) := by omega
        simp [e, known_ok]
      · have : (st != 1) = true := by simp [h1]
        simp [this, known_ok]
end Go.SM
