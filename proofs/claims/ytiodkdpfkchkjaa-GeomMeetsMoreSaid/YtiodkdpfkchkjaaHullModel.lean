/- The program's hull. -/
import Derived.Test.YtiodkdpfkchkjaaHullPlane
import Derived.Test.YtiodkdpfkchkjaaGCompact
set_option linter.unusedVariables false
set_option linter.unusedSimpArgs false
set_option linter.unusedSectionVars false
namespace Go.SM
open Go Go.VI Go.Geo R3
set_option maxRecDepth 10000
def Pts (l : List Point) : Prop := ∀ p ∈ l, pIn p = true
def p0 : Point := ⟨⟨0, 0⟩, ⟨0, 0⟩⟩
theorem take_snoc {α : Type} {l : List α} {k : Nat} {x : α} (h : l[k]? = some x) : l.take (k + 1) = l.take k ++ [x] := by rw [List.take_add_one, h]; rfl
theorem half_ok {lt : Point → Point → Prop} (H : Plane orR lt) {d : List Point} (hp : Pts d) (hd : d.Pairwise lt) (hl : d.length ≤ 1000) (hne : d ≠ []) : ∃ st, geom_half d = some st ∧ Ch orR lt d st ∧ st.length ≤ d.length := by
  obtain ⟨r, q1, q2, q3⟩ := loop_rel d (fun k (s : List Point) => ((k : Int), s)) (geom_half_l2 d) (fun s => s) (fun k s => (k = 0 → s = []) ∧ (0 < k → Ch orR lt (d.take k) s) ∧ s.length ≤ k) [] ⟨fun _ => rfl, fun q => absurd q (by omega), by simp⟩
    (fun k p s hpk hI => by
      have hk := lt_of_get hpk
      have hd1 : (k : Int) < (d.length : Int) := by omega
      have hpp := hp p (List.mem_of_getElem? hpk)
      obtain ⟨i0, i1, i2⟩ := hI
      -- what is left after taking off
      have inner : ∃ r, loopT (geom_half_l1 p) s = some r ∧ r.length ≤ k ∧ Ch orR lt (d.take (k + 1)) (r ++ [p]) := by
        rcases Nat.eq_zero_or_pos k with z | z
        · subst z
          have hs := i0 rfl
          subst hs
          refine ⟨[], loop_out (by simp [geom_half_l1]), by simp, ?_⟩
          rw [take_snoc hpk]
          exact ch_start H p
        · have hc := i1 z
          have hsn : s ≠ [] := fun e => by
            have := hc.head
            rw [e] at this
            cases d with
            | nil => simp at hk
            | cons a t => obtain ⟨k', rfl⟩ : ∃ k', k = k' + 1 := ⟨k - 1, by omega⟩; simp at this
          have hsl : 0 < s.length := List.length_pos_iff.2 hsn
          obtain ⟨r, r1, j, r2, r3, r4, r5⟩ := loop_wf (fun t : List Point => t.length) (fun t => ∃ j, j < s.length ∧ t = s.take (j + 1) ∧ ∀ u v, s[j]? = some u → s[j + 1]? = some v → orR u v p ≤ 0)
            (fun r => ∃ j, j < s.length ∧ r = s.take (j + 1) ∧ (∀ u v, s[j]? = some u → s[j + 1]? = some v → orR u v p ≤ 0) ∧ ∀ u v, 0 < j → s[j - 1]? = some u → s[j]? = some v → 0 < orR u v p) (geom_half_l1 p) (by
              rintro t ⟨j, hj, rfl, hpop⟩
              have tl : (s.take (j + 1)).length = j + 1 := by rw [List.length_take]; omega
              unfold geom_half_l1
              rw [tl]
              by_cases hj0 : 0 < j
              · obtain ⟨u, hu⟩ : ∃ u, s[j - 1]? = some u := ⟨_, List.getElem?_eq_getElem (by omega)⟩
                obtain ⟨v, hv⟩ : ∃ v, s[j]? = some v := ⟨_, List.getElem?_eq_getElem hj⟩
                have hd2 : ((j + 1 : Nat) : Int) > 1 := by omega
                have e1 : isub ((j + 1 : Nat) : Int) 2 = ((j - 1 : Nat) : Int) := by rw [isub_eq (by omega) (by omega)]; omega
                have e2 : isub ((j + 1 : Nat) : Int) 1 = ((j : Nat) : Int) := by rw [isub_eq (by omega) (by omega)]; omega
                have g1 : (s.take (j + 1))[j - 1]? = some u := by rw [List.getElem?_take, if_pos (by omega)]; exact hu
                have g2 : (s.take (j + 1))[j]? = some v := by rw [List.getElem?_take, if_pos (by omega)]; exact hv
                have pu := hp u (List.mem_of_mem_take (hc.sub u (List.mem_of_getElem? hu)))
                have pv := hp v (List.mem_of_mem_take (hc.sub v (List.mem_of_getElem? hv)))
                simp only [hd2, decide_true, if_true, e1, e2, idx_of g1, idx_of g2, Option.bind_some, (orient_eq u v p pu pv hpp).1]
                by_cases ho : orR u v p ≤ 0
                · left
                  simp only [ho, decide_true, if_true]
                  have hs : slc (s.take (j + 1)) 0 ((j : Nat) : Int) = some (s.take j) := by
                    unfold slc
                    rw [if_pos ⟨Int.le_refl _, by omega, by omega⟩, Int.toNat_natCast, List.take_take, Nat.min_eq_left (by omega)]; rfl
                  rw [hs]
                  refine ⟨s.take j, rfl, ⟨j - 1, by omega, by rw [show j - 1 + 1 = j from by omega], fun a b ha hb => ?_⟩, by rw [List.length_take]; omega⟩
                  rw [hu] at ha
                  rw [show j - 1 + 1 = j from by omega, hv] at hb
                  injection ha with ha
                  injection hb with hb
                  subst ha hb
                  exact ho
                · right
                  simp only [ho, decide_false, Bool.false_eq_true, if_false]
                  refine ⟨_, rfl, j, hj, rfl, hpop, fun a b _ ha hb => ?_⟩
                  rw [hu] at ha
                  rw [hv] at hb
                  injection ha with ha
                  injection hb with hb
                  subst ha hb
                  omega
              · right
                have hd2 : ¬ ((j + 1 : Nat) : Int) > 1 := by omega
                simp only [hd2, decide_false, Bool.false_eq_true, if_false, Option.bind_some]
                exact ⟨_, rfl, j, hj, rfl, hpop, fun a b q => absurd q hj0⟩) s ⟨s.length - 1, by omega, by rw [show s.length - 1 + 1 = s.length from by omega, List.take_length], fun u v _ hv => by rw [List.getElem?_eq_none (by omega)] at hv; cases hv⟩
          subst r3
          refine ⟨_, r1, by rw [List.length_take]; omega, ?_⟩
          rw [take_snoc hpk]
          exact ch_push H hc (hd.sublist (List.take_sublist _ _)) (fun x hx => by
            obtain ⟨i, hi⟩ := List.mem_iff_getElem?.1 hx
            have hik := lt_of_get hi
            rw [List.length_take] at hik
            rw [List.getElem?_take, if_pos (by omega)] at hi
            exact asc_lt H hd (show i < k by omega) hi hpk) r2 r4 r5
      obtain ⟨r, r1, r2, r3⟩ := inner
      unfold geom_half_l2
      simp only [hd1, decide_true, if_true, idx_of hpk, Option.bind_some, r1, succ_cast k (by omega)]
      rw [app_eq (by simp [LIM]; omega)]
      exact ⟨r ++ [p], rfl, fun q => by omega, fun _ => r3, by simp; omega⟩) (fun s _ => by simp [geom_half_l2])
  have hn : 0 < d.length := List.length_pos_iff.2 hne
  have := q3.1 hn
  rw [List.take_length] at this
  exact ⟨r, by unfold geom_half; rw [show ((0 : Int), ([] : List Point)) = (((0 : Nat) : Int), []) from rfl, q1]; rfl, this, q3.2⟩
theorem reverseP_ok {l : List Point} (hl : l.length ≤ 1000) : slices_Reverse_Lapi_Point_api_Point l = some l.reverse := by
  obtain ⟨r, r1, r2, r3⟩ := loop_wf (fun s : Int × Int × List Point => (s.2.1 + 1 - s.1).toNat) (fun s : Int × Int × List Point => 0 ≤ s.1 ∧ s.1 + s.2.1 = (l.length : Int) - 1 ∧ s.1 ≤ s.2.1 + 2 ∧ s.2.2.length = l.length ∧ ∀ k : Int, 0 ≤ k → k < l.length → gz p0 s.2.2 k = if k < s.1 ∨ s.2.1 < k then gz p0 l ((l.length : Int) - 1 - k) else gz p0 l k)
    (fun r => r.length = l.length ∧ ∀ k : Int, 0 ≤ k → k < l.length → gz p0 r k = gz p0 l ((l.length : Int) - 1 - k)) (slices_Reverse_Lapi_Point_api_Point_l1) (by
      rintro ⟨i, j, m⟩ ⟨h1, h2, h3, h4, h5⟩
      simp only at h1 h2 h3 h4 h5 ⊢
      unfold slices_Reverse_Lapi_Point_api_Point_l1
      by_cases q : i < j
      · left
        refine ⟨(i + 1, j - 1, sw p0 m i j), ?_, ⟨by simp only; omega, by simp only; omega, by simp only; omega, by simp only [sw_len]; exact h4, fun k k1 k2 => ?_⟩, by simp only; omega⟩
        · simp (disch := first | omega | (simp only [List.length_set]; omega)) only [q, decide_true, if_true, idx_gz p0, Option.bind_some, iadd_eq, isub_eq]
          rfl
        · simp only
          rw [gz_sw p0 h1 (by omega) k1 (by omega) (by omega)]
          by_cases e1 : k = j
          · rw [if_pos e1, if_pos (by omega), h5 i h1 (by omega), if_neg (by omega)]
            congr 1; omega
          · rw [if_neg e1]
            by_cases e2 : k = i
            · rw [if_pos e2, if_pos (by omega), h5 j (by omega) (by omega), if_neg (by omega)]
              congr 1; omega
            · rw [if_neg e2, h5 k k1 k2]
              by_cases e3 : k < i ∨ j < k
              · rw [if_pos e3, if_pos (by omega)]
              · rw [if_neg e3, if_neg (by omega)]
      · right
        refine ⟨m, by simp only [q, decide_false, Bool.false_eq_true, if_false], h4, fun k k1 k2 => ?_⟩
        rw [h5 k k1 k2]
        by_cases e3 : k < i ∨ j < k
        · rw [if_pos e3]
        · rw [if_neg e3]; congr 1; omega) (0, (l.length : Int) - 1, l) ⟨by simp only; omega, by simp only; omega, by simp only; omega, rfl, fun k k1 k2 => by simp only; rw [if_neg (by omega)]⟩
  unfold slices_Reverse_Lapi_Point_api_Point
  rw [isub_eq (by omega) (by omega), r1, Option.bind_some]
  congr 1
  refine List.ext_getElem? fun k => ?_
  by_cases hk : k < l.length
  · have := r3 (k : Int) (by omega) (by omega)
    unfold gz at this
    rw [List.getD_eq_getElem?_getD, List.getD_eq_getElem?_getD, Int.toNat_natCast, List.getElem?_eq_getElem (show k < r.length by omega), show ((l.length : Int) - 1 - (k : Int)).toNat = l.length - 1 - k from by omega, List.getElem?_eq_getElem (show l.length - 1 - k < l.length by omega)] at this
    rw [List.getElem?_reverse hk, List.getElem?_eq_getElem (show k < r.length by omega), List.getElem?_eq_getElem (show l.length - 1 - k < l.length by omega)]
    exact congrArg some this
  · rw [List.getElem?_eq_none (by omega), List.getElem?_eq_none (by simp; omega)]
/-! ### the order -/
noncomputable def ltB (a b : Point) : Bool := decide (cmpP a b < 0)
theorem ltB_iff {a b : Point} : ltB a b = true ↔ ltQ a b := by unfold ltB; rw [decide_eq_true_eq, cmpP_lt]
theorem weakP : Weak ltB where
  asymm x y h := by
    have h := ltB_iff.1 h
    cases hb : ltB y x with
    | false => rfl
    | true => exact absurd (ltQ_trans h (ltB_iff.1 hb)) (ltQ_irr _)
  neg x y z h := by
    have h := ltB_iff.1 h
    rcases ltQ_tri x y with q | q | q
    · subst q; exact .inr (ltB_iff.2 h)
    · exact .inl (ltB_iff.2 q)
    · exact .inr (ltB_iff.2 (ltQ_trans q h))
def eqP (x y : Point) : Bool := (x.X.A == y.X.A) && ((x.X.B == y.X.B) && ((x.Y.A == y.Y.A) && ((x.Y.B == y.Y.B) && true)))
theorem eqP_iff (x y : Point) : eqP x y = true ↔ x = y := by
  unfold eqP
  obtain ⟨⟨a, b⟩, c, d⟩ := x
  obtain ⟨⟨a', b'⟩, c', d'⟩ := y
  simp only [Bool.and_eq_true, beq_iff_eq, and_true, Point.mk.injEq, Root.mk.injEq, and_assoc]
instance decP : DecidableEq Point := fun a b => decidable_of_iff (eqP a b = true) (eqP_iff a b)
theorem sortP_eq (h : List Point) : slices_SortFunc_Lapi_Point_api_Point__geom_comparePoints h = gs_SortFunc (brC geom_comparePoints) h := by kernel_rfl
theorem compactP_eq (h : List Point) : slices_Compact_Lapi_Point_api_Point h = gs_Compact eqP p0 h := by kernel_rfl
theorem sortedP_ok {l : List Point} (hp : Pts l) (hl : l.length ≤ 1000) : ∃ r, geom_sorted_api_Point__geom_comparePoints l = some r ∧ r.Pairwise ltQ ∧ ∀ x, x ∈ r ↔ x ∈ l := by
  have cl : slices_Clone_Lapi_Point_api_Point l = some l := by
    unfold slices_Clone_Lapi_Point_api_Point
    rw [app_eq (by simp [LIM]; omega)]; rfl
  obtain ⟨s, s1, s2, s3⟩ := sortFunc_ok (br := brC geom_comparePoints) (lt := ltB) (P := fun p => pIn p = true) (d := p0) (fun β x y k hx hy => by
    unfold brC ltB
    rw [comparePoints_eq (m := 4096) (by omega) (pIn_iff.1 hx) (pIn_iff.1 hy)]; rfl) weakP (l := l) ⟨by omega, fun k k1 k2 => by
      unfold gz
      rw [List.getD_eq_getElem?_getD, List.getElem?_eq_getElem (show k.toNat < l.length by omega)]
      exact hp _ (List.getElem_mem _)⟩
  have sl := s2.length_eq
  obtain ⟨r, r1, r2, r3⟩ := compact_ok weakP (fun x y h1 h2 => by
    rcases ltQ_tri x y with q | q | q
    · exact q
    · rw [ltB_iff.2 q] at h1; cases h1
    · rw [ltB_iff.2 q] at h2; cases h2) eqP_iff p0 (l := s) (by omega) s3
  refine ⟨r, ?_, r2.imp fun h => ltB_iff.1 h, fun x => by rw [r3, s2.mem_iff]⟩
  unfold geom_sorted_api_Point__geom_comparePoints
  simp only [cl, Option.bind_some, sortP_eq, s1, compactP_eq, r1]
theorem hull_ok {l : List Point} (hp : Pts l) (hl : l.length ≤ 1000) (hne : l ≠ []) : ∃ h, geom_hull l = some h ∧ IsHull orR ltQ l h := by
  obtain ⟨d, d1, d2, d3⟩ := sortedP_ok hp hl
  have dl : d.length ≤ l.length := by
    have hn : d.Nodup := nodup_asc planeP d2
    have len : ∀ {g l : List Point}, g.Nodup → (∀ x ∈ g, x ∈ l) → g.length ≤ l.length := fun {g} => by
      induction g with
      | nil => intro l _ _; simp
      | cons x g ih =>
        intro l hn h
        rw [List.nodup_cons] at hn
        obtain ⟨s, t, e⟩ := List.append_of_mem (h x List.mem_cons_self)
        subst e
        have := ih (l := s ++ t) hn.2 fun y hy => by
          have := h y (List.mem_cons_of_mem _ hy)
          simp only [List.mem_append, List.mem_cons] at this ⊢
          rcases this with q | q | q
          · exact .inl q
          · exact absurd (q ▸ hy) hn.1
          · exact .inr q
        simp at this ⊢; omega
    exact len hn fun x hx => (d3 x).1 hx
  have dp : Pts d := fun p hq => hp p ((d3 p).1 hq)
  have dn : d ≠ [] := fun e => by
    obtain ⟨x, hx⟩ := List.exists_mem_of_ne_nil l hne
    have := (d3 x).2 hx
    rw [e] at this; simp at this
  have fin : ∀ {h}, IsHull orR ltQ d h → IsHull orR ltQ l h := fun hh => hh.of_mem d3
  unfold geom_hull
  simp only [d1, Option.bind_some]
  by_cases h3 : (d.length : Int) < 3
  · simp only [h3, decide_true, if_true]
    refine ⟨d, rfl, fin ?_⟩
    match d, dn, d2, h3 with
    | [m], _, _, _ => exact hull_one planeP m
    | [m, M], _, h, _ => exact hull_two planeP (by simpa using h)
    | x :: y :: z :: t, _, _, h => simp at h; omega
  · simp only [h3, decide_false, Bool.false_eq_true, if_false]
    obtain ⟨low, l1, l2, l3⟩ := half_ok planeP dp d2 (by omega) dn
    obtain ⟨high, u1, u2, u3⟩ := half_ok planeN (d := d.reverse) (fun p hq => dp p (List.mem_reverse.1 hq)) (by rw [List.pairwise_reverse]; exact d2) (by simp; omega) (by simpa using dn)
    have hh := hull_chains planeP planeN d2 (by omega) l2 u2
    have sl : ∀ (s : List Point), s ≠ [] → s.length ≤ 1000 → slc s 0 (isub (s.length : Int) 1) = some s.dropLast := fun s hs hl => by
      have := List.length_pos_iff.2 hs
      rw [isub_eq (by omega) (by omega)]
      unfold slc
      rw [if_pos ⟨Int.le_refl _, by omega, by omega⟩, show ((s.length : Int) - 1).toNat = s.length - 1 from by omega, List.dropLast_eq_take]; rfl
    have ln : low ≠ [] := fun e => by
      have := l2.head; rw [e] at this
      cases d with
      | nil => exact dn rfl
      | cons a t => simp at this
    have un : high ≠ [] := fun e => by
      have := u2.head; rw [e] at this
      cases hr : d.reverse with
      | nil => exact dn (by simpa using hr)
      | cons a t => rw [hr] at this; simp at this
    refine ⟨low.dropLast ++ high.dropLast, ?_, fin hh⟩
    simp at u3
    simp only [l1, Option.bind_some, reverseP_ok (show d.length ≤ 1000 by omega), u1, sl low ln (by omega), sl high un (by omega)]
    rw [app_eq (by simp [LIM]; omega)]; rfl
end Go.SM
