/- The law GeomHulls, on the models. -/
import Derived.Test.YtiodkdpfkchkjaaHullWrap
set_option linter.unusedVariables false
set_option linter.unusedSimpArgs false
set_option linter.unusedSectionVars false
namespace Go.SM
open Go Go.VI Go.Geo R3
def pcode (l : List Point) : Int := if l.length = 0 ∨ l.length > 24 then 1 else if l.all pIn then 0 else 4
theorem points_ok (l : List Point) : geom_points l = some (pcode l) := by
  unfold geom_points pcode
  by_cases h0 : l.length = 0
  · simp [h0]
  have h0' : ((l.length : Int) == 0) = false := by simp; intro e; exact h0 (by rw [e]; rfl)
  simp only [h0', Bool.false_eq_true, if_false, Option.bind_some]
  by_cases h1 : l.length > 24
  · have : (l.length : Int) > 24 := by omega
    simp [h1, this]
  · have : ¬ (l.length : Int) > 24 := by omega
    simp only [this, decide_false, Bool.false_eq_true, if_false]
    have h4 : ¬ (l.length = 0 ∨ l.length > 24) := by omega
    rw [small_eq _ (by omega), Option.bind_some, if_neg h4]
    cases l.all pIn <;> rfl
theorem pcode_zero {l : List Point} (h : pcode l = 0) : l ≠ [] ∧ l.length ≤ 24 ∧ Pts l := by
  unfold pcode at h
  split at h
  · cases h
  · rename_i q
    split at h
    · rename_i q2
      exact ⟨fun e => q (.inl (by rw [e]; rfl)), by omega, fun p hp => List.all_eq_true.1 q2 p hp⟩
    · cases h
theorem Hull_ok (l : List Point) : (pcode l ≠ 0 ∧ geom_Hull l = some ([], pcode l)) ∨ (pcode l = 0 ∧ ∃ h, geom_Hull l = some (h, 0) ∧ IsHull orR ltQ l h) := by
  unfold geom_Hull
  rw [points_ok, Option.bind_some]
  by_cases hc : pcode l = 0
  · obtain ⟨h1, h2, h3⟩ := pcode_zero hc
    obtain ⟨h, g1, g2⟩ := hull_ok h3 (by omega) h1
    exact .inr ⟨hc, h, by simp [hc, g1], g2⟩
  · exact .inl ⟨hc, by simp [hc]⟩
theorem rHull_ok (l : List Point) : (pcode l ≠ 0 → sheetmetalref01_Hull l = some ([], pcode l)) ∧ (pcode l = 0 → ∀ h, IsHull orR ltQ l h → sheetmetalref01_Hull l = some (h, 0)) := by
  have hin : sheetmetalref01_pointsIn l = some (if l.length = 0 ∨ l.length > 24 then 1 else 0) := by
    unfold sheetmetalref01_pointsIn
    by_cases h0 : l.length = 0
    · simp [h0]
    have h0' : ((l.length : Int) == 0) = false := by simp; intro e; exact h0 (by rw [e]; rfl)
    simp only [h0', Bool.false_eq_true, if_false, Option.bind_some]
    by_cases h1 : l.length > 24
    · have : (l.length : Int) > 24 := by omega
      simp [h1, this]
    · have : ¬ (l.length : Int) > 24 := by omega
      simp [h0, h1, this]
  have hsm : l.length ≤ 24 → sheetmetalref01_allSmall l = some (l.all pIn) := fun hl => by
    unfold sheetmetalref01_allSmall
    rw [loop_all l (sheetmetalref01_allSmall_l1 l) pIn (.inl ()) (.inr ()) (fun k x hx => ?s) ?f]
    · cases l.all pIn <;> rfl
    case s =>
      have h1 := lt_of_get hx
      unfold sheetmetalref01_allSmall_l1
      rw [if_pos (by simp; omega), idx_of hx]
      simp only [Option.bind_some, pointIn_eq, succ_cast k (by omega)]
      cases pIn x <;> rfl
    case f => simp [sheetmetalref01_allSmall_l1]
  unfold sheetmetalref01_Hull
  rw [hin, Option.bind_some]
  constructor
  · intro hc
    unfold pcode at hc ⊢
    by_cases h1 : l.length = 0 ∨ l.length > 24
    · simp only [if_pos h1]; rfl
    · rw [if_neg h1] at hc ⊢
      have : l.all pIn = false := by
        cases h : l.all pIn with
        | false => rfl
        | true => rw [h] at hc; exact absurd rfl hc
      simp only [if_neg h1, hsm (by omega), this]; rfl
  · intro hc h hh
    obtain ⟨h1, h2, h3⟩ := pcode_zero hc
    have h4 : ¬ (l.length = 0 ∨ l.length > 24) := by
      have := List.length_pos_iff.2 h1; omega
    have h5 : l.all pIn = true := List.all_eq_true.2 h3
    simp only [if_neg h4, hsm h2, h5, wrap_ok (fit_pts h3 (by omega)) hh, Option.bind_some]; rfl
theorem copyPoints_ok {l : List Point} (hl : l.length ≤ 1000) : sheetmetalref01_CopyPoints l = some l := by
  unfold sheetmetalref01_CopyPoints
  obtain ⟨r, q1, q2⟩ := loop_rel l (fun k (s : List Point) => ((k : Int), s)) (sheetmetalref01_CopyPoints_l1 l) (fun s => s) (fun k s => s = l.take k) [] (by simp)
    (fun k x s hx hI => by
      have h1 := lt_of_get hx
      have hd : decide ((k : Int) < (l.length : Int)) = true := by simp [h1]
      unfold sheetmetalref01_CopyPoints_l1
      simp only [hd, if_true, idx_of hx, Option.bind_some, succ_cast k (by omega)]
      rw [app_eq (by subst hI; simp [LIM]; omega)]
      exact ⟨_, rfl, by rw [take_snoc hx, hI]⟩) (fun s _ => by simp [sheetmetalref01_CopyPoints_l1])
  rw [List.take_length] at q2
  rw [show ((0 : Int), ([] : List Point)) = (((0 : Nat) : Int), []) from rfl, q1, q2]; rfl
theorem samePoints_self {l : List Point} (hl : l.length ≤ 1000) : sheetmetalref01_SamePoints l l = some true := by
  unfold sheetmetalref01_SamePoints
  simp only [bne_self_eq_false, Bool.false_eq_true, if_false]
  rw [loop_all l (sheetmetalref01_SamePoints_l1 l l) (fun _ => true) (.inl ()) (.inr ()) (fun k x hx => ?s) ?f]
  · simp
  case s =>
    have h1 := lt_of_get hx
    unfold sheetmetalref01_SamePoints_l1
    simp [h1, idx_of hx, succ_cast k (show (k : Int) < 9223372036854775807 by omega)]
  case f => simp [sheetmetalref01_SamePoints_l1]
theorem hull_len {l h : List Point} (hh : IsHull orR ltQ l h) : h.length ≤ l.length := by
  have len : ∀ {g l : List Point}, g.Nodup → (∀ x ∈ g, x ∈ l) → g.length ≤ l.length := fun {g} => by
    induction g with
    | nil => intro l _ _; simp
    | cons x g ih =>
      intro l hn h
      rw [List.nodup_cons] at hn
      obtain ⟨s, t, e⟩ := List.append_of_mem (h x List.mem_cons_self)
      subst e
      have := ih (l := s ++ t) hn.2 fun y hy => by
        have := h y (List.mem_cons_of_mem _ hy)
        simp only [List.mem_append, List.mem_cons] at this ⊢
        rcases this with q | q | q
        · exact .inl q
        · exact absurd (q ▸ hy) hn.1
        · exact .inr q
      simp at this ⊢; omega
  exact len hh.nodup hh.sub
theorem clear_ok {l : List Point} (hl : l.length ≤ 1000) : loopT sheetmetallaw01_GeomHulls_l1 (0, l) = some () := by
  obtain ⟨r, r1, _⟩ := loop_wf (fun s : Int × List Point => ((l.length : Int) - s.1).toNat) (fun s : Int × List Point => 0 ≤ s.1 ∧ s.1 ≤ l.length ∧ s.2.length = l.length) (fun _ : Unit => True) sheetmetallaw01_GeomHulls_l1 (by
    rintro ⟨i, m⟩ ⟨h1, h2, h3⟩
    simp only at h1 h2 h3 ⊢
    unfold sheetmetallaw01_GeomHulls_l1
    by_cases h : i < (m.length : Int)
    · left
      simp only [h, decide_true, if_true, idx_gz p0 h1 h, Option.bind_some]
      rw [iadd_eq (by omega) (by omega)]
      exact ⟨_, rfl, ⟨by simp only; omega, by simp only; omega, by simp [h3]⟩, by simp only; omega⟩
    · right
      exact ⟨(), by simp only [h, decide_false, Bool.false_eq_true, if_false], trivial⟩) (0, l) ⟨by simp, by simp, rfl⟩
  exact r1
theorem law_GeomHulls (l : List Point) : sheetmetallaw01_GeomHulls l = some true := by
  unfold sheetmetallaw01_GeomHulls sheetmetallaw01_long
  simp only [Option.bind_some, known_eq]
  by_cases h1 : (l.length : Int) > 60
  · simp [h1]
  have hl : l.length ≤ 1000 := by omega
  obtain ⟨e1, e2⟩ := rHull_ok l
  simp only [h1, decide_false, Bool.false_eq_true, if_false, copyPoints_ok hl, Option.bind_some, samePoints_self hl, if_true]
  rcases Hull_ok l with ⟨hc, q⟩ | ⟨hc, h, q, hh⟩
  · have hz := clear_ok (l := []) (by simp)
    simp only [q, e1 hc, Option.bind_some, beq_self_eq_true, if_true, samePoints_self (show ([] : List Point).length ≤ 1000 by simp), hz]
  · have hn := hull_len hh
    have hz := clear_ok (l := h) (by omega)
    simp only [q, e2 hc h hh, Option.bind_some, beq_self_eq_true, if_true, samePoints_self (show h.length ≤ 1000 by omega), hz]
end Go.SM
