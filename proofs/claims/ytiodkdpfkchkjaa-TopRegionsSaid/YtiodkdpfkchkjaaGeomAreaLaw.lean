/- The law GeomAreas, on the models. -/
import Derived.Test.YtiodkdpfkchkjaaGeomArea
set_option linter.unusedVariables false
set_option linter.unusedSimpArgs false
set_option linter.unusedSectionVars false
namespace Go.SM
open Go Go.VI Go.Cells
/-- the cell in which a place lies -/
theorem cell_at {β : Type} {f : Int → β} : ∀ (x0 : Int) (t : List Int), GSteps f (x0 :: t) → ∀ z, x0 ≤ z → z < (x0 :: t).getLast (by simp) → ∃ (i : Nat) (a : Int), (x0 :: t)[i]? = some a ∧ i + 1 < (x0 :: t).length ∧ a ≤ z ∧ f z = f a
  | x0, [], _, z, h1, h2 => by simp at h2; omega
  | x0, y :: t, h, z, h1, h2 => by
    by_cases q : z < y
    · exact ⟨0, x0, rfl, by simp, h1, h.2.1 z h1 q⟩
    · obtain ⟨i, a, a1, a2, a3, a4⟩ := cell_at y t h.2.2 z (by omega) (by rwa [List.getLast_cons (by simp)] at h2)
      exact ⟨i + 1, a, by simpa using a1, by simp at a2 ⊢; omega, a3, a4⟩
theorem mat_ext {xs ys : List Int} {p q : Int → Int → Bool} (h : mat xs ys p = mat xs ys q) {i j : Nat} {x y : Int} (hx : xs[i]? = some x) (hi : i + 1 < xs.length) (hy : ys[j]? = some y) (hj : j + 1 < ys.length) : p x y = q x y := by
  have h1 := mat_get (p := p) (ys := ys) hx hi
  have h2 := mat_get (p := q) (ys := ys) hx hi
  rw [h, h2] at h1
  injection h1 with h1
  have h3 := row_get (q := fun y => p x y) hy hj
  have h4 := row_get (q := fun y => q x y) hy hj
  rw [h1] at h4
  rw [h3] at h4
  injection h4
theorem mat_same {xs ys : List Int} {a b : List Rect} (ha : Has xs ys a) (hb : Has xs ys b) : mat xs ys (cov a) = mat xs ys (cov b) ↔ ∀ x y, cov a x y = cov b x y := by
  constructor
  · intro h x y
    -- the pair of both
    have both : ∀ x y, (cov a x y = true ∨ cov b x y = true) → cov a x y = cov b x y := fun x y hab => by
      have hin : (∃ c ∈ xs, c ≤ x) ∧ (∃ c ∈ xs, x < c) ∧ (∃ c ∈ ys, c ≤ y) ∧ (∃ c ∈ ys, y < c) := hab.elim (cov_in ha) (cov_in hb)
      have sx : GSteps (fun x => (cov a x, cov b x)) xs := steps_cov (C := fun c => c ∈ xsL a ∨ c ∈ xsL b) (fun x z hxz hC => by
        have e1 : cov a z = cov a x := funext fun y => any_congr' fun r hr => by
          have h1 := hC _ (.inl (xs_mem hr).1)
          have h2 := hC _ (.inl (xs_mem hr).2)
          unfold inB
          rw [show decide (r.X ≤ z) = decide (r.X ≤ x) from by simp only [h1], show decide (z < r.X + r.W) = decide (x < r.X + r.W) from by
            have : (z < r.X + r.W) = (x < r.X + r.W) := by apply propext; omega
            simp only [this]]
        have e2 : cov b z = cov b x := funext fun y => any_congr' fun r hr => by
          have h1 := hC _ (.inr (xs_mem hr).1)
          have h2 := hC _ (.inr (xs_mem hr).2)
          unfold inB
          rw [show decide (r.X ≤ z) = decide (r.X ≤ x) from by simp only [h1], show decide (z < r.X + r.W) = decide (x < r.X + r.W) from by
            have : (z < r.X + r.W) = (x < r.X + r.W) := by apply propext; omega
            simp only [this]]
        rw [e1, e2]) xs ha.X.asc fun c hc => .inr (hc.elim (ha.x c) (hb.x c))
      have sy : GSteps (fun y => (fun x => cov a x y, fun x => cov b x y)) ys := steps_cov (C := fun c => c ∈ ysL a ∨ c ∈ ysL b) (fun y z hyz hC => by
        have e1 : (fun x => cov a x z) = fun x => cov a x y := funext fun x => any_congr' fun r hr => by
          have h1 := hC _ (.inl (ys_mem hr).1)
          have h2 := hC _ (.inl (ys_mem hr).2)
          unfold inB
          rw [show decide (r.Y ≤ z) = decide (r.Y ≤ y) from by simp only [h1], show decide (z < r.Y + r.H) = decide (y < r.Y + r.H) from by
            have : (z < r.Y + r.H) = (y < r.Y + r.H) := by apply propext; omega
            simp only [this]]
        have e2 : (fun x => cov b x z) = fun x => cov b x y := funext fun x => any_congr' fun r hr => by
          have h1 := hC _ (.inr (ys_mem hr).1)
          have h2 := hC _ (.inr (ys_mem hr).2)
          unfold inB
          rw [show decide (r.Y ≤ z) = decide (r.Y ≤ y) from by simp only [h1], show decide (z < r.Y + r.H) = decide (y < r.Y + r.H) from by
            have : (z < r.Y + r.H) = (y < r.Y + r.H) := by apply propext; omega
            simp only [this]]
        rw [e1, e2]) ys ha.Y.asc fun c hc => .inr (hc.elim (ha.y c) (hb.y c))
      obtain ⟨⟨c1, m1, l1⟩, ⟨c2, m2, l2⟩, ⟨c3, m3, l3⟩, ⟨c4, m4, l4⟩⟩ := hin
      have hX := ha.X
      have hY := ha.Y
      clear ha hb
      cases xs with
      | nil => simp at m1
      | cons x0 xs =>
        cases ys with
        | nil => simp at m3
        | cons y0 ys =>
          have ex := ends hX.asc
          have ey := ends hY.asc
          have q1 := ex c1 m1
          have q2 := ex c2 m2
          have q3 := ey c3 m3
          have q4 := ey c4 m4
          obtain ⟨i, u, u1, u2, _, u4⟩ := cell_at x0 xs sx x (by omega) (by omega)
          obtain ⟨j, v, v1, v2, _, v4⟩ := cell_at y0 ys sy y (by omega) (by omega)
          injection u4 with u4 u5
          injection v4 with v4 v5
          rw [u4, u5, congrFun v4 u, congrFun v5 u]
          exact mat_ext h u1 u2 v1 v2
    cases h1 : cov a x y with
    | true => rw [← both x y (.inl h1), h1]
    | false => cases h2 : cov b x y with
      | true => have := both x y (.inr h2); rw [h1, h2] at this; exact this
      | false => rfl
  · intro h
    have : cov a = cov b := funext fun x => funext fun y => h x y
    rw [this]
theorem equal_ok {a b : List Bool} (hl : a.length = b.length) (h1 : a.length ≤ 1000) : slices_Equal_Lbool_bool a b = some (decide (a = b)) := by
  unfold slices_Equal_Lbool_bool
  have e : ((a.length : Int) != (b.length : Int)) = false := by rw [hl]; simp
  simp only [e, Bool.false_eq_true, if_false]
  rw [loop_all (List.range a.length) (slices_Equal_Lbool_bool_l1 a b) (fun i => a.getD i false == b.getD i false) (.inl ()) (.inr ()) (fun k x hx => ?s) ?f]
  · rw [Option.bind_some]
    by_cases hab : a = b
    · have : (List.range a.length).all (fun i => a.getD i false == b.getD i false) = true := by simp [hab]
      rw [this]; simp [hab]
    · have : (List.range a.length).all (fun i => a.getD i false == b.getD i false) = false := by
        rw [← Bool.not_eq_true, List.all_eq_true]
        intro q
        refine hab (List.ext_getElem? fun i => ?_)
        by_cases hi : i < a.length
        · have := q i (List.mem_range.2 hi)
          rw [beq_iff_eq, List.getD_eq_getElem?_getD, List.getD_eq_getElem?_getD, List.getElem?_eq_getElem hi, List.getElem?_eq_getElem (show i < b.length by omega)] at this
          rw [List.getElem?_eq_getElem hi, List.getElem?_eq_getElem (show i < b.length by omega)]
          exact congrArg some this
        · rw [List.getElem?_eq_none (by omega), List.getElem?_eq_none (by omega)]
      rw [this]; simp [hab]
  case s =>
    obtain ⟨rfl, hk⟩ : x = k ∧ k < a.length := by
      have := lt_of_get hx
      simp at this
      rw [List.getElem?_range this] at hx
      exact ⟨(Option.some.inj hx).symm, this⟩
    have g1 : a[x]? = some a[x] := List.getElem?_eq_getElem hk
    have g2 : b[x]? = some (b[x]'(by omega)) := List.getElem?_eq_getElem (by omega)
    have hd : decide ((x : Int) < (a.length : Int)) = true := by simp [hk]
    unfold slices_Equal_Lbool_bool_l1
    simp only [hd, if_true, idx_of g1, idx_of g2, Option.bind_some, getD_of g1, getD_of g2, succ_cast x (by omega)]
    cases a[x] == b[x]'(by omega) <;> rfl
  case f => simp [slices_Equal_Lbool_bool_l1]
theorem same_loop {xs ys : List Int} (hX : xs.length ≤ 1000) (hY : ys.length ≤ 1000) (p q : Int → Int → Bool) : loopT (geom_SameRegion_l1 (mat xs ys p) (mat xs ys q)) 0 = some (if mat xs ys p = mat xs ys q then .inr () else .inl ()) := by
  rw [loop_all xs.dropLast (geom_SameRegion_l1 (mat xs ys p) (mat xs ys q)) (fun x => decide ((ys.dropLast.map fun y => p x y) = (ys.dropLast.map fun y => q x y))) (.inl ()) (.inr ()) (fun k x hx => ?s) ?f]
  · congr 1
    by_cases h : mat xs ys p = mat xs ys q
    · rw [if_pos h, if_pos]
      rw [List.all_eq_true]
      intro x hx
      rw [decide_eq_true_eq]
      exact List.map_inj_left.1 h x hx
    · rw [if_neg h, if_neg]
      intro h2
      refine h (List.map_inj_left.2 fun x hx => ?_)
      have := List.all_eq_true.1 h2 x hx
      rwa [decide_eq_true_eq] at this
  case s =>
    obtain ⟨gx, kx⟩ := dropLast_get hx
    have hd : decide ((k : Int) < ((mat xs ys p).length : Int)) = true := by rw [mat_len]; simp; omega
    unfold geom_SameRegion_l1
    simp only [hd, if_true, idx_of (mat_get gx kx), Option.bind_some]
    rw [equal_ok (by simp) (by simp; omega)]
    simp only [Option.bind_some, succ_cast k (by omega)]
    cases decide ((ys.dropLast.map fun y => p x y) = (ys.dropLast.map fun y => q x y)) <;> rfl
  case f =>
    have : ¬ ((xs.dropLast.length : Nat) : Int) < ((mat xs ys p).length : Int) := by rw [mat_len]; simp
    unfold geom_SameRegion_l1
    simp only [this, decide_false, Bool.false_eq_true, if_false]
theorem rsame_loop {xs ys : List Int} (hX : xs.length ≤ 1000) (hY : ys.length ≤ 1000) (p q : Int → Int → Bool) (X1 Y1 X2 Y2 : List Int) : loopT (sheetmetalref01_sameCells_l2 (⟨X1, Y1, mat xs ys p⟩, xs, ys) (⟨X2, Y2, mat xs ys q⟩, xs, ys)) 0 = some (if mat xs ys p = mat xs ys q then .inr () else .inl ()) := by
  rw [loop_all xs.dropLast (sheetmetalref01_sameCells_l2 (⟨X1, Y1, mat xs ys p⟩, xs, ys) (⟨X2, Y2, mat xs ys q⟩, xs, ys)) (fun x => ys.dropLast.all fun y => p x y == q x y) (.inl ()) (.inr ()) (fun k x hx => ?s) ?f]
  · congr 1
    by_cases h : mat xs ys p = mat xs ys q
    · rw [if_pos h, if_pos]
      rw [List.all_eq_true]
      intro x hx
      rw [List.all_eq_true]
      intro y hy
      have := List.map_inj_left.1 (List.map_inj_left.1 h x hx) y hy
      simp [this]
    · rw [if_neg h, if_neg]
      intro h2
      refine h (List.map_inj_left.2 fun x hx => List.map_inj_left.2 fun y hy => ?_)
      have := List.all_eq_true.1 (List.all_eq_true.1 h2 x hx) y hy
      simpa using this
  case s =>
    obtain ⟨gx, kx⟩ := dropLast_get hx
    have hd : decide ((k : Int) < ((mat xs ys p).length : Int)) = true := by rw [mat_len]; simp; omega
    unfold sheetmetalref01_sameCells_l2
    simp only [hd, if_true]
    rw [loop_all ys.dropLast (sheetmetalref01_sameCells_l1 (⟨X1, Y1, mat xs ys p⟩, xs, ys) (⟨X2, Y2, mat xs ys q⟩, xs, ys) (k : Int)) (fun y => p x y == q x y) (.inl ()) (.inr ()) (fun j y hy => ?s1) ?f1]
    · rw [Option.bind_some, succ_cast k (by omega)]
      cases ys.dropLast.all (fun y => p x y == q x y) <;> rfl
    case s1 =>
      obtain ⟨gy, ky⟩ := dropLast_get hy
      have jl := lt_of_get hy
      have hd : decide ((j : Int) < ((ys.dropLast.map fun y => p x y).length : Int)) = true := by rw [List.length_map, List.length_dropLast]; simp; omega
      unfold sheetmetalref01_sameCells_l1
      simp only [idx_of (mat_get gx kx), Option.bind_some, hd, if_true, idx_of (row_get (q := fun y => p x y) gy ky), idx_of (row_get (q := fun y => q x y) gy ky), succ_cast j (by omega)]
      cases p x y == q x y <;> rfl
    case f1 =>
      unfold sheetmetalref01_sameCells_l1
      simp only [idx_of (mat_get gx kx), Option.bind_some]
      simp
  case f =>
    have : ¬ ((xs.dropLast.length : Nat) : Int) < ((mat xs ys p).length : Int) := by rw [mat_len]; simp
    unfold sheetmetalref01_sameCells_l2
    simp only [this, decide_false, Bool.false_eq_true, if_false]
theorem both_ok {a b : List Rect} (ha : a.length ≤ 1000) (hb : b.length ≤ 1000) : sheetmetalref01_Both a b = some (a ++ b) := by
  unfold sheetmetalref01_Both
  obtain ⟨r, q1, q2⟩ := loop_rel a (fun k (s : List Rect) => ((k : Int), s)) (sheetmetalref01_Both_l1 a) (fun s => s) (fun k s => s = a.take k) [] (by simp)
    (fun k x s hx hI => by
      have h1 := lt_of_get hx
      have hd : decide ((k : Int) < (a.length : Int)) = true := by simp [h1]
      unfold sheetmetalref01_Both_l1
      simp only [hd, if_true, idx_of hx, Option.bind_some, succ_cast k (by omega)]
      rw [app_eq (by subst hI; simp [LIM]; omega)]
      exact ⟨_, rfl, by rw [take_snoc hx, hI]⟩) (fun s _ => by simp [sheetmetalref01_Both_l1])
  rw [List.take_length] at q2
  rw [show ((0 : Int), ([] : List Rect)) = (((0 : Nat) : Int), []) from rfl, q1, Option.bind_some, q2]
  obtain ⟨r, t1, t2⟩ := loop_rel b (fun k (s : List Rect) => ((k : Int), s)) (sheetmetalref01_Both_l2 b) (fun s => s) (fun k s => s = a ++ b.take k) a (by simp)
    (fun k x s hx hI => by
      have h1 := lt_of_get hx
      have hd : decide ((k : Int) < (b.length : Int)) = true := by simp [h1]
      unfold sheetmetalref01_Both_l2
      simp only [hd, if_true, idx_of hx, Option.bind_some, succ_cast k (by omega)]
      rw [app_eq (by subst hI; simp [LIM]; omega)]
      exact ⟨_, rfl, by rw [take_snoc hx, hI, List.append_assoc]⟩) (fun s _ => by simp [sheetmetalref01_Both_l2])
  rw [List.take_length] at t2
  rw [show ((0 : Int), a) = (((0 : Nat) : Int), a) from rfl, t1, t2]; rfl
theorem checkRects_ok (l : List Rect) : sheetmetalref01_CheckRects l = some (codeL [l]) := by
  unfold sheetmetalref01_CheckRects codeL
  by_cases h : l.length > 48
  · have : (l.length : Int) > 48 := by omega
    simp [h, this]
  · have h' : ¬ (l.length : Int) > 48 := by omega
    simp only [h', decide_false, Bool.false_eq_true, if_false]
    rw [loop_all l (sheetmetalref01_CheckRects_l1 l) (fun r => decide (vR r)) (.inl ()) (.inr ()) (fun k x hx => ?s) ?f]
    case s =>
      have h1 := lt_of_get hx
      unfold sheetmetalref01_CheckRects_l1
      rw [if_pos (by simp; omega), idx_of hx]
      simp only [Option.bind_some, rValidRect_eq, succ_cast k (by omega)]
      cases decide (vR x) <;> rfl
    case f => simp [sheetmetalref01_CheckRects_l1]
    simp only [List.any_cons, List.any_nil, Bool.or_false, h, decide_false, Bool.false_eq_true, if_false, List.all_cons, List.all_nil, Bool.and_true, Option.bind_some]
    unfold validB
    cases l.all (fun r => decide (vR r)) <;> rfl
theorem rArea_ok (l : List Rect) : sheetmetalref01_Area l = some (areaA l) := by
  unfold sheetmetalref01_Area areaA
  rw [checkRects_ok, Option.bind_some]
  by_cases hc : codeL [l] = 0
  case neg => simp [hc]
  obtain ⟨hl, hv⟩ := code_one hc
  obtain ⟨xs, ys, g1, g2, g3, _⟩ := makeGrid_ok (lines := l) (l := l) hv (by omega) hv (by omega)
  have hH := has_of hv (by omega) g2 g3 (fun r hr => hr)
  simp only [hc, bne_self_eq_false, Bool.false_eq_true, if_false, if_true, g1, Option.bind_some, size_loop hH.X hH.Y, area_val hH]
theorem code_two (a b : List Rect) : (codeL [a, b] = 0 ↔ codeL [a] = 0 ∧ codeL [b] = 0) ∧ (codeL [a, b] = if codeL [a] = 4 ∨ codeL [b] = 4 then 4 else if codeL [a] ≠ 0 ∨ codeL [b] ≠ 0 then 1 else 0) := by
  unfold codeL
  simp only [List.any_cons, List.any_nil, Bool.or_false, List.all_cons, List.all_nil, Bool.and_true, Bool.or_eq_true, decide_eq_true_eq, Bool.and_eq_true]
  by_cases h1 : a.length > 48 <;> by_cases h2 : b.length > 48 <;> cases validB a <;> cases validB b <;> simp [h1, h2]
theorem sameRegion_ok (a b : List Rect) : ∃ s, geom_SameRegion a b = some (s, codeL [a, b]) ∧ sheetmetalref01_SameRegion a b = some (s, codeL [a, b]) ∧ (codeL [a, b] ≠ 0 → s = false) ∧ (codeL [a, b] = 0 → (s = true ↔ ∀ x y, cov a x y = cov b x y)) := by
  obtain ⟨c1, c2⟩ := code_two a b
  have hr : sheetmetalref01_SameRegion a b = if codeL [a, b] = 0 then (sheetmetalref01_sameCells a b).bind fun r10 => some (r10, 0) else some (false, codeL [a, b]) := by
    unfold sheetmetalref01_SameRegion
    simp only [checkRects_ok, Option.bind_some]
    rw [c2]
    have cc : ∀ l, codeL [l] = 4 ∨ codeL [l] = 0 ∨ codeL [l] = 1 := fun l => by
      unfold codeL
      split
      · exact .inl rfl
      · split
        · exact .inr (.inl rfl)
        · exact .inr (.inr rfl)
    rcases cc a with e1 | e1 | e1 <;> rcases cc b with e2 | e2 | e2 <;> simp [e1, e2]
  rw [hr]
  unfold geom_SameRegion
  rw [rects_ok (by simp), Option.bind_some]
  by_cases hc : codeL [a, b] = 0
  case neg => exact ⟨false, by simp [hc], by rw [if_neg hc], fun _ => rfl, fun q => absurd q hc⟩
  obtain ⟨ha, hb⟩ := c1.1 hc
  obtain ⟨la, va⟩ := code_one ha
  obtain ⟨lb, vb⟩ := code_one hb
  have vab : AllV (a ++ b) := fun r hr => (List.mem_append.1 hr).elim (va r) (vb r)
  obtain ⟨xs, ys, g1, g2, g3⟩ := newGrid_ok (lists := [a, b]) (by simp) (fun x hx => by
    simp at hx
    rcases hx with rfl | rfl
    · exact ⟨va, by omega⟩
    · exact ⟨vb, by omega⟩)
  simp only [List.flatMap_cons, List.flatMap_nil, List.append_nil] at g2 g3
  rw [← xsL_append] at g2
  rw [← ysL_append] at g3
  have hA := has_of (l := a) vab (by simp; omega) g2 g3 (fun r hr => List.mem_append_left _ hr)
  have hB := has_of (l := b) vab (by simp; omega) g2 g3 (fun r hr => List.mem_append_right _ hr)
  obtain ⟨xs1, ys1, m1, m2, m3, _⟩ := makeGrid_ok (lines := a ++ b) (l := a) vab (by simp; omega) va (by omega)
  obtain ⟨xs2, ys2, n1, n2, n3, _⟩ := makeGrid_ok (lines := a ++ b) (l := b) vab (by simp; omega) vb (by omega)
  obtain rfl := grid_unique g2 m2
  obtain rfl := grid_unique g2 n2
  obtain rfl := grid_unique g3 m3
  obtain rfl := grid_unique g3 n3
  have hs := mat_same hA hB
  refine ⟨decide (mat xs ys (cov a) = mat xs ys (cov b)), ?_, ?_, fun q => absurd hc q, fun _ => by rw [decide_eq_true_eq]; exact hs⟩
  · simp only [hc, bne_self_eq_false, Bool.false_eq_true, if_false, g1, Option.bind_some, covered_ok va (show a.length ≤ 1000 by omega) hA.X.len hA.Y.len (grid_some g2 g3), covered_ok vb (show b.length ≤ 1000 by omega) hA.X.len hA.Y.len (grid_some g2 g3), same_loop hA.X.len hA.Y.len]
    by_cases q : mat xs ys (cov a) = mat xs ys (cov b)
    · simp [q]
    · simp [q]
  · rw [if_pos hc]
    unfold sheetmetalref01_sameCells
    simp only [both_ok (show a.length ≤ 1000 by omega) (show b.length ≤ 1000 by omega), Option.bind_some, m1, n1, rsame_loop hA.X.len hA.Y.len, hc]
    by_cases q : mat xs ys (cov a) = mat xs ys (cov b)
    · simp [q]
    · simp [q]
theorem law_GeomAreas (a b : List Rect) : sheetmetallaw01_GeomAreas a b = some true := by
  unfold sheetmetallaw01_GeomAreas sheetmetallaw01_Many
  simp only [Option.bind_some, known_eq]
  by_cases h1 : (a.length : Int) > 60
  · simp [h1]
  by_cases h2 : (b.length : Int) > 60
  · simp [h1, h2]
  obtain ⟨s, s1, s2, _⟩ := sameRegion_ok a b
  simp [h1, h2, Area_ok, rArea_ok, s1, s2]
end Go.SM
