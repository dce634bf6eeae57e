/- Outlines: what the program and the document find. -/
import Derived.Test.YtiodkdpfkchkjaaGeomRuns
set_option linter.unusedVariables false
set_option linter.unusedSimpArgs false
set_option linter.unusedSectionVars false
namespace Go.SM
open Go Go.VI Go.Cells
/-- what lies on the two sides of the horizontal line y, and of the vertical line x -/
def hl (p : Int → Int → Bool) (y : Int) : Int → Int := fun z => one (p z y) - one (p z (y - 1))
def vl (p : Int → Int → Bool) (x : Int) : Int → Int := fun z => one (p x z) - one (p (x - 1) z)
def mkH (y : Int) (q : Int × Int) : Segment := ⟨q.1, y, q.2, y⟩
def mkV (x : Int) (q : Int × Int) : Segment := ⟨x, q.1, x, q.2⟩
noncomputable def outl (p : Int → Int → Bool) (xs ys : List Int) : List Segment := ys.flatMap (fun y => (runsL (hl p y)).map (mkH y)) ++ xs.flatMap fun x => (runsL (vl p x)).map (mkV x)
theorem steps_map {β γ : Type} (f : β → γ) {g : Int → β} : ∀ {l : List Int}, GSteps g l → GSteps (fun x => f (g x)) l
  | [], _ => trivial
  | [_], _ => trivial
  | _ :: _ :: _, h => ⟨h.1, fun z a b => congrArg f (h.2.1 z a b), steps_map f h.2.2⟩
section
variable {xs ys : List Int} {l : List Rect} (h : Has xs ys l)
include h
theorem cov_out : (∀ x0, xs[0]? = some x0 → ∀ x y, x < x0 → cov l x y = false) ∧ (∀ x1, xs[xs.length - 1]? = some x1 → ∀ x y, x1 ≤ x → cov l x y = false) ∧ (xs = [] → ∀ x y, cov l x y = false) ∧
    (∀ y0, ys[0]? = some y0 → ∀ x y, y < y0 → cov l x y = false) ∧ (∀ y1, ys[ys.length - 1]? = some y1 → ∀ x y, y1 ≤ y → cov l x y = false) ∧ (ys = [] → ∀ x y, cov l x y = false) := by
  have first : ∀ {g : List Int} {a b : Int}, (g.Pairwise fun x y => x < y) → g[0]? = some a → b ∈ g → a ≤ b := fun {g a b} hg ha hb => by
    obtain ⟨i, hi⟩ := List.mem_iff_getElem?.1 hb
    rcases Nat.eq_zero_or_pos i with q | q
    · subst q; rw [ha] at hi; injection hi with hi; omega
    · have := asc_get hg q ha hi; omega
  have last_ : ∀ {g : List Int} {a b : Int}, (g.Pairwise fun x y => x < y) → g[g.length - 1]? = some a → b ∈ g → b ≤ a := fun {g a b} hg ha hb => by
    obtain ⟨i, hi⟩ := List.mem_iff_getElem?.1 hb
    have := lt_of_get hi
    by_cases q : i = g.length - 1
    · subst q; rw [ha] at hi; injection hi with hi; omega
    · have := asc_get hg (show i < g.length - 1 by omega) hi ha; omega
  have no : ∀ x y, ¬ ((∃ a ∈ xs, a ≤ x) ∧ (∃ a ∈ xs, x < a) ∧ (∃ a ∈ ys, a ≤ y) ∧ (∃ a ∈ ys, y < a)) → cov l x y = false := fun x y q => by
    cases hc : cov l x y with
    | false => rfl
    | true => exact absurd (cov_in h hc) q
  refine ⟨fun x0 hx0 x y q => no x y ?_, fun x1 hx1 x y q => no x y ?_, fun q x y => no x y ?_, fun y0 hy0 x y q => no x y ?_, fun y1 hy1 x y q => no x y ?_, fun q x y => no x y ?_⟩
  · rintro ⟨⟨a, ha, a1⟩, _⟩; have := first h.X.asc hx0 ha; omega
  · rintro ⟨_, ⟨a, ha, a1⟩, _⟩; have := last_ h.X.asc hx1 ha; omega
  · rintro ⟨⟨a, ha, a1⟩, _⟩; rw [q] at ha; simp at ha
  · rintro ⟨_, _, ⟨a, ha, a1⟩, _⟩; have := first h.Y.asc hy0 ha; omega
  · rintro ⟨_, _, _, ⟨a, ha, a1⟩⟩; have := last_ h.Y.asc hy1 ha; omega
  · rintro ⟨_, _, ⟨a, ha, a1⟩, _⟩; rw [q] at ha; simp at ha
theorem along_h (y : Int) : Along (hl (cov l) y) xs := by
  obtain ⟨c1, c2, c3, _⟩ := cov_out h
  refine ⟨steps_map (fun q : Int → Bool => one (q y) - one (q (y - 1))) (steps_x h), h.X.len, fun x0 hx0 z hz => ?_, fun x1 hx1 z hz => ?_, fun q z => ?_⟩
  · unfold hl; rw [c1 x0 hx0 z y hz, c1 x0 hx0 z (y - 1) hz]; rfl
  · unfold hl; rw [c2 x1 hx1 z y hz, c2 x1 hx1 z (y - 1) hz]; rfl
  · unfold hl; rw [c3 q z y, c3 q z (y - 1)]; rfl
theorem along_v (x : Int) : Along (vl (cov l) x) ys := by
  obtain ⟨_, _, _, c1, c2, c3⟩ := cov_out h
  have st : GSteps (fun y => (cov l x y, cov l (x - 1) y)) ys := by
    have h1 := steps_y h x
    have h2 := steps_y h (x - 1)
    have : ∀ g : List Int, GSteps (fun y => cov l x y) g → GSteps (fun y => cov l (x - 1) y) g → GSteps (fun y => (cov l x y, cov l (x - 1) y)) g := fun g => by
      induction g with
      | nil => exact fun _ _ => trivial
      | cons a t ih => cases t with
        | nil => exact fun _ _ => trivial
        | cons b t => exact fun q1 q2 => ⟨q1.1, fun z z1 z2 => by simp only [q1.2.1 z z1 z2, q2.2.1 z z1 z2], ih q1.2.2 q2.2.2⟩
    exact this ys h1 h2
  refine ⟨steps_map (fun q : Bool × Bool => one q.1 - one q.2) st, h.Y.len, fun x0 hx0 z hz => ?_, fun x1 hx1 z hz => ?_, fun q z => ?_⟩
  · unfold vl; rw [c1 x0 hx0 x z hz, c1 x0 hx0 (x - 1) z hz]; rfl
  · unfold vl; rw [c2 x1 hx1 x z hz, c2 x1 hx1 (x - 1) z hz]; rfl
  · unfold vl; rw [c3 q x z, c3 q (x - 1) z]; rfl
/-- the cell at i, j of the grid, or outside of it -/
theorem at_ok {i j : Int} {x y : Int} (hx : (∃ k : Nat, i = k ∧ xs[k]? = some x) ∨ (i = -1 ∧ ∃ x1, xs[0]? = some x1 ∧ x < x1)) (hy : (∃ k : Nat, j = k ∧ ys[k]? = some y) ∨ (j = -1 ∧ ∃ y1, ys[0]? = some y1 ∧ y < y1)) :
    geom_Outline_1 i j (mat xs ys (cov l)) = some (one (cov l x y)) ∧ ∀ X Y, sheetmetalref01_Grid_At ⟨X, Y, mat xs ys (cov l)⟩ i j = some (cov l x y) := by
  obtain ⟨c1, c2, _, d1, d2, _⟩ := cov_out h
  rcases hx with ⟨i, rfl, hx⟩ | ⟨rfl, x1, hx1, hlt⟩
  · have hi0 : ¬ (i : Int) < 0 := by omega
    have hi0' : (i : Int) ≥ 0 := by omega
    have hil := lt_of_get hx
    rcases hy with ⟨j, rfl, hy⟩ | ⟨rfl, y1, hy1, hlt⟩
    · have hj0 : ¬ (j : Int) < 0 := by omega
      have hj0' : (j : Int) ≥ 0 := by omega
      have hjl := lt_of_get hy
      by_cases hi : i + 1 < xs.length
      · have hi1 : ¬ (i : Int) ≥ ((mat xs ys (cov l)).length : Int) := by rw [mat_len]; omega
        have hi2 : (i : Int) < ((mat xs ys (cov l)).length : Int) := by omega
        have hm := mat_get (p := cov l) (ys := ys) hx hi
        by_cases hj : j + 1 < ys.length
        · have hj1 : ¬ (j : Int) ≥ ((ys.dropLast.map fun y => cov l x y).length : Int) := by simp; omega
          have hj2 : (j : Int) < ((ys.dropLast.map fun y => cov l x y).length : Int) := by omega
          have hr := row_get (q := fun y => cov l x y) hy hj
          constructor
          · unfold geom_Outline_1
            simp only [hi0, hj0, hi1, hj1, decide_false, Bool.false_eq_true, if_false, idx_of hm, idx_of hr, Option.bind_some]
            cases cov l x y <;> rfl
          · intro X Y
            unfold sheetmetalref01_Grid_At
            simp only [hi0', hj0', hi2, hj2, decide_true, if_true, idx_of hm, idx_of hr, Option.bind_some]
        · have hj1 : (j : Int) ≥ ((ys.dropLast.map fun y => cov l x y).length : Int) := by simp; omega
          have hj2 : ¬ (j : Int) < ((ys.dropLast.map fun y => cov l x y).length : Int) := by omega
          have e : cov l x y = false := d2 y (by rw [show ys.length - 1 = j from by omega]; exact hy) x y (Int.le_refl _)
          constructor
          · unfold geom_Outline_1
            simp only [hi0, hj0, hi1, hj1, decide_false, decide_true, Bool.false_eq_true, if_false, if_true, idx_of hm, Option.bind_some, e]
            rfl
          · intro X Y
            unfold sheetmetalref01_Grid_At
            simp only [hi0', hj0', hi2, hj2, decide_true, decide_false, Bool.false_eq_true, if_false, if_true, idx_of hm, Option.bind_some, e]
      · have hi1 : (i : Int) ≥ ((mat xs ys (cov l)).length : Int) := by rw [mat_len]; omega
        have hi2 : ¬ (i : Int) < ((mat xs ys (cov l)).length : Int) := by omega
        have e : cov l x y = false := c2 x (by rw [show xs.length - 1 = i from by omega]; exact hx) x y (Int.le_refl _)
        constructor
        · unfold geom_Outline_1
          simp only [hi0, hj0, hi1, decide_false, decide_true, Bool.false_eq_true, if_false, if_true, Option.bind_some, e]
          rfl
        · intro X Y
          unfold sheetmetalref01_Grid_At
          simp only [hi0', hi2, decide_true, decide_false, Bool.false_eq_true, if_false, if_true, Option.bind_some, e]
    · have e : cov l x y = false := d1 y1 hy1 x y hlt
      have hj : ((-1 : Int) < 0) := by omega
      have hj2 : ¬ ((-1 : Int) ≥ 0) := by omega
      constructor
      · unfold geom_Outline_1
        simp only [hi0, hj, decide_false, decide_true, Bool.false_eq_true, if_false, if_true, Option.bind_some, e]
        rfl
      · intro X Y
        unfold sheetmetalref01_Grid_At
        simp only [hi0', hj2, decide_true, decide_false, Bool.false_eq_true, if_false, if_true, e]
        by_cases q : (i : Int) < ((mat xs ys (cov l)).length : Int)
        · simp only [q, decide_true, if_true, Option.bind_some]
        · simp only [q, decide_false, Bool.false_eq_true, if_false, Option.bind_some]
  · have e : cov l x y = false := c1 x1 hx1 x y hlt
    have hj : ((-1 : Int) < 0) := by omega
    have hj2 : ¬ ((-1 : Int) ≥ 0) := by omega
    constructor
    · unfold geom_Outline_1
      simp only [hj, decide_true, if_true, Option.bind_some, e]
      rfl
    · intro X Y
      unfold sheetmetalref01_Grid_At
      simp only [hj2, decide_false, Bool.false_eq_true, if_false, Option.bind_some, e]
theorem near_ok {k : Nat} {g : List Int} {e : Int} (hg : (g.Pairwise fun x y => x < y)) (hk : g[k]? = some e) : (∃ k' : Nat, (k : Int) - 1 = k' ∧ ∃ x, g[k']? = some x ∧ x < e ∧ g[k' + 1]? = some e) ∨ ((k : Int) - 1 = -1 ∧ g[0]? = some e) := by
  rcases Nat.eq_zero_or_pos k with q | q
  · subst q; exact .inr ⟨by omega, hk⟩
  · left
    have := lt_of_get hk
    obtain ⟨x, hx⟩ : ∃ x, g[k - 1]? = some x := ⟨_, List.getElem?_eq_getElem (by omega)⟩
    exact ⟨k - 1, by omega, x, hx, asc_get hg (show k - 1 < k by omega) hx hk, by rw [show k - 1 + 1 = k from by omega]; exact hk⟩
theorem one_sub (a b : Bool) : isub (one a) (one b) = one a - one b := by cases a <;> cases b <;> decide
/-- the sides of a cell at a line -/
theorem sideH {i j : Nat} {x y : Int} (hx : xs[i]? = some x) (hy : ys[j]? = some y) : geom_Outline_2 (i : Int) (mat xs ys (cov l)) (j : Int) = some (hl (cov l) y x) ∧
    ∃ b, (∀ X Y, sheetmetalref01_Grid_At ⟨X, Y, mat xs ys (cov l)⟩ (i : Int) (j : Int) = some (cov l x y)) ∧ (∀ X Y, sheetmetalref01_Grid_At ⟨X, Y, mat xs ys (cov l)⟩ (i : Int) (isub (j : Int) 1) = some b) ∧ b = cov l x (y - 1) := by
  have hyl := h.Y.len
  have hjl := lt_of_get hy
  have a1 := at_ok h (i := i) (j := j) (x := x) (y := y) (.inl ⟨i, rfl, hx⟩) (.inl ⟨j, rfl, hy⟩)
  have hs : isub (j : Int) 1 = (j : Int) - 1 := isub_eq (by omega) (by omega)
  have a2 : geom_Outline_1 (i : Int) ((j : Int) - 1) (mat xs ys (cov l)) = some (one (cov l x (y - 1))) ∧ ∀ X Y, sheetmetalref01_Grid_At ⟨X, Y, mat xs ys (cov l)⟩ (i : Int) ((j : Int) - 1) = some (cov l x (y - 1)) := by
    rcases near_ok h h.Y.asc hy with ⟨k', e1, w, hw, hlt, hw1⟩ | ⟨e1, h0⟩
    · rw [e1]
      have := at_ok h (i := i) (j := k') (x := x) (y := w) (.inl ⟨i, rfl, hx⟩) (.inl ⟨k', rfl, hw⟩)
      have st := (gsteps_get (steps_y h x) hw hw1).2 (y - 1) (by omega) (by omega)
      rw [st]; exact this
    · rw [e1]
      exact at_ok h (i := i) (j := -1) (x := x) (y := y - 1) (.inl ⟨i, rfl, hx⟩) (.inr ⟨rfl, y, h0, by omega⟩)
  refine ⟨?_, _, a1.2, fun X Y => by rw [hs]; exact a2.2 X Y, rfl⟩
  unfold geom_Outline_2 hl
  rw [a1.1, hs, a2.1]
  simp only [Option.bind_some, one_sub h]
theorem sideV {i j : Nat} {x y : Int} (hx : xs[i]? = some x) (hy : ys[j]? = some y) : geom_Outline_4 (j : Int) (mat xs ys (cov l)) (i : Int) = some (vl (cov l) x y) ∧
    ∃ b, (∀ X Y, sheetmetalref01_Grid_At ⟨X, Y, mat xs ys (cov l)⟩ (i : Int) (j : Int) = some (cov l x y)) ∧ (∀ X Y, sheetmetalref01_Grid_At ⟨X, Y, mat xs ys (cov l)⟩ (isub (i : Int) 1) (j : Int) = some b) ∧ b = cov l (x - 1) y := by
  have hxl := h.X.len
  have hil := lt_of_get hx
  have a1 := at_ok h (i := i) (j := j) (x := x) (y := y) (.inl ⟨i, rfl, hx⟩) (.inl ⟨j, rfl, hy⟩)
  have hs : isub (i : Int) 1 = (i : Int) - 1 := isub_eq (by omega) (by omega)
  have a2 : geom_Outline_1 ((i : Int) - 1) (j : Int) (mat xs ys (cov l)) = some (one (cov l (x - 1) y)) ∧ ∀ X Y, sheetmetalref01_Grid_At ⟨X, Y, mat xs ys (cov l)⟩ ((i : Int) - 1) (j : Int) = some (cov l (x - 1) y) := by
    rcases near_ok h h.X.asc hx with ⟨k', e1, w, hw, hlt, hw1⟩ | ⟨e1, h0⟩
    · rw [e1]
      have := at_ok h (i := k') (j := j) (x := w) (y := y) (.inl ⟨k', rfl, hw⟩) (.inl ⟨j, rfl, hy⟩)
      have st := (gsteps_get (steps_x h) hw hw1).2 (x - 1) (by omega) (by omega)
      rw [congrFun st y]; exact this
    · rw [e1]
      exact at_ok h (i := -1) (j := j) (x := x - 1) (y := y) (.inr ⟨rfl, x, h0, by omega⟩) (.inl ⟨j, rfl, hy⟩)
  refine ⟨?_, _, a1.2, fun X Y => by rw [hs]; exact a2.2 X Y, rfl⟩
  unfold geom_Outline_4 vl
  rw [a1.1, hs, a2.1]
  simp only [Option.bind_some, one_sub h]
/-- the program's outline -/
theorem outline_loops : ∃ r, loopT (geom_Outline_l1 ⟨xs, ys⟩ (mat xs ys (cov l))) (0, []) = some r ∧ loopT (geom_Outline_l2 ⟨xs, ys⟩ (mat xs ys (cov l))) (0, r) = some (outl (cov l) xs ys) ∧ (outl (cov l) xs ys).length ≤ 2000000 ∧ r = ys.flatMap fun y => (runsL (hl (cov l) y)).map (mkH y) := by
  have hX := h.X.len
  have hY := h.Y.len
  obtain ⟨r, q1, q2, q3⟩ := loop_rel ys (fun k (s : List Segment) => ((k : Int), s)) (geom_Outline_l1 ⟨xs, ys⟩ (mat xs ys (cov l))) (fun s => s) (fun k s => s = (ys.take k).flatMap (fun y => (runsL (hl (cov l) y)).map (mkH y)) ∧ s.length ≤ 1000 * k) [] ⟨rfl, by simp⟩
    (fun k y s hy hI => by
      have hk := lt_of_get hy
      have hd : decide ((k : Int) < (ys.length : Int)) = true := by simp [hk]
      obtain ⟨L, g1, g2, g3⟩ := gr_ok (along_h h y) (side := fun i => geom_Outline_2 i (mat xs ys (cov l)) (k : Int)) (fun i x hx hi => (sideH h hx hy).1) (found := fun a b s => geom_Outline_3 a b y s) (mk := mkH y) (fun a b s hs => by
        unfold geom_Outline_3
        rw [app_eq (by simp [LIM]; omega)]; rfl) (out0 := s) (by omega)
      have gl : (runsL (hl (cov l) y)) = L := runsL_eq g2
      unfold geom_Outline_l1
      simp only [hd, if_true, idx_of hy, Option.bind_some, runsH_eq, g1, succ_cast k (by omega)]
      refine ⟨_, rfl, ?_, by simp; omega⟩
      rw [take_snoc hy, List.flatMap_append, hI.1]
      simp [gl]) (fun s _ => by simp [geom_Outline_l1])
  rw [List.take_length] at q2
  obtain ⟨r', t1, t2, t3⟩ := loop_rel xs (fun k (s : List Segment) => ((k : Int), s)) (geom_Outline_l2 ⟨xs, ys⟩ (mat xs ys (cov l))) (fun s => s) (fun k s => s = r ++ (xs.take k).flatMap (fun x => (runsL (vl (cov l) x)).map (mkV x)) ∧ s.length ≤ 1000000 + 1000 * k) r ⟨by simp, by omega⟩
    (fun k x s hx hI => by
      have hk := lt_of_get hx
      have hd : decide ((k : Int) < (xs.length : Int)) = true := by simp [hk]
      obtain ⟨L, g1, g2, g3⟩ := gr_ok (along_v h x) (side := fun i => geom_Outline_4 i (mat xs ys (cov l)) (k : Int)) (fun i y hy hi => (sideV h hx hy).1) (found := fun a b s => geom_Outline_5 a b x s) (mk := mkV x) (fun a b s hs => by
        unfold geom_Outline_5
        rw [app_eq (by simp [LIM]; omega)]; rfl) (out0 := s) (by omega)
      have gl : (runsL (vl (cov l) x)) = L := runsL_eq g2
      unfold geom_Outline_l2
      simp only [hd, if_true, idx_of hx, Option.bind_some, runsV_eq, g1, succ_cast k (by omega)]
      refine ⟨_, rfl, ?_, by simp; omega⟩
      rw [take_snoc hx, List.flatMap_append, hI.1]
      simp [gl]) (fun s _ => by simp [geom_Outline_l2])
  rw [List.take_length] at t2
  have e : r' = outl (cov l) xs ys := by rw [t2, q2]; rfl
  refine ⟨r, by rw [show ((0 : Int), ([] : List Segment)) = (((0 : Nat) : Int), []) from rfl, q1], by rw [show ((0 : Int), r) = (((0 : Nat) : Int), r) from rfl, t1, e], by rw [← e]; omega, q2⟩
end
theorem Outline_ok {l : List Rect} (hc : codeL [l] = 0) : ∃ xs ys, geom_Outline l = some (outl (cov l) xs ys, 0) ∧ IsGrid xs (xsL l) ∧ IsGrid ys (ysL l) ∧ (outl (cov l) xs ys).length ≤ 2000000 := by
  obtain ⟨hl, hv⟩ := code_one hc
  obtain ⟨xs, ys, g1, g2, g3⟩ := newGrid_ok (lists := [l]) (by simp) (fun x hx => by simp at hx; subst hx; exact ⟨hv, by omega⟩)
  simp only [List.flatMap_cons, List.flatMap_nil, List.append_nil] at g2 g3
  have hH := has_of hv (by omega) g2 g3 (fun r hr => hr)
  obtain ⟨r, o1, o2, o3, _⟩ := outline_loops hH
  refine ⟨xs, ys, ?_, g2, g3, o3⟩
  unfold geom_Outline
  rw [rects_ok (by simp), Option.bind_some]
  simp only [hc, bne_self_eq_false, Bool.false_eq_true, if_false, g1, Option.bind_some, covered_ok hv (show l.length ≤ 1000 by omega) hH.X.len hH.Y.len (grid_some g2 g3), o1, o2]
end Go.SM
