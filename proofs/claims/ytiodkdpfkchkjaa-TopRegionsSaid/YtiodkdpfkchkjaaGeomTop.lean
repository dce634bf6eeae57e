/- The law TopRegions, on the models. -/
import Derived.Test.YtiodkdpfkchkjaaGeomOutLaw
import Derived.Test.YtiodkdpfkchkjaaGeMP
set_option linter.unusedVariables false
set_option linter.unusedSimpArgs false
set_option linter.unusedSectionVars false
namespace Go.SM
open Go Go.VI Go.Cells
theorem along_runs {s : Int → Int} {xs : List Int} (h : Along s xs) : RunsOf s (runsL s) := by
  obtain ⟨L, _, g, _⟩ := gr_ok h (side := fun i => some (s (xs.getD i.toNat 0))) (fun i x hx _ => by simp only [Int.toNat_natCast, getD_of hx]) (found := fun a b l => some (l ++ [mkH 0 (a, b)])) (mk := mkH 0) (fun a b l _ => rfl) (out0 := []) (by simp)
  rw [runsL_eq g]; exact g
theorem runs_zero' {s : Int → Int} (h : ∀ z, s z = 0) : runsL s = [] := runsL_eq ⟨.nil, fun a b => ⟨fun m => by simp at m, fun m => absurd (h a) m.2.1⟩⟩
theorem flatMap_sub {β : Type} {U g : List Int} (hU : U.Pairwise fun x y => x < y) (hg : g.Pairwise fun x y => x < y) (hs : ∀ x ∈ g, x ∈ U) {f : Int → List β} (hf : ∀ x ∈ U, x ∉ g → f x = []) : U.flatMap f = g.flatMap f := by
  have e : U.filter (fun x => decide (x ∈ g)) = g := by
    refine sorted_unique (lt := fun x y => x < y) (fun _ => Int.lt_irrefl _) (fun _ _ _ => Int.lt_trans) (hU.filter _) hg fun x => ?_
    rw [List.mem_filter, decide_eq_true_eq]
    exact ⟨fun q => q.2, fun q => ⟨hs x q, q⟩⟩
  have key : ∀ U : List Int, (∀ x ∈ U, x ∉ g → f x = []) → U.flatMap f = (U.filter fun x => decide (x ∈ g)).flatMap f := fun U => by
    induction U with
    | nil => intro _; rfl
    | cons x U ih =>
      intro h
      have := ih fun y hy => h y (List.mem_cons_of_mem _ hy)
      rw [List.flatMap_cons, List.filter_cons, this]
      by_cases hx : x ∈ g
      · simp [hx]
      · simp [hx, h x List.mem_cons_self hx]
  rw [key U hf, e]
theorem hl_off {l : List Rect} {y : Int} (hy : y ∉ ysL l) (z : Int) : hl (cov l) y z = 0 := by
  have : cov l z y = cov l z (y - 1) := any_congr' fun r hr => by
    have h1 : r.Y ≠ y := fun e => hy (e ▸ (ys_mem hr).1)
    have h2 : r.Y + r.H ≠ y := fun e => hy (e ▸ (ys_mem hr).2)
    unfold inB
    rw [show decide (r.Y ≤ y) = decide (r.Y ≤ y - 1) from by
      have : (r.Y ≤ y) = (r.Y ≤ y - 1) := by apply propext; omega
      simp only [this], show decide (y < r.Y + r.H) = decide (y - 1 < r.Y + r.H) from by
      have : (y < r.Y + r.H) = (y - 1 < r.Y + r.H) := by apply propext; omega
      simp only [this]]
  unfold hl; rw [this]; omega
theorem vl_off {l : List Rect} {x : Int} (hx : x ∉ xsL l) (z : Int) : vl (cov l) x z = 0 := by
  have : cov l x z = cov l (x - 1) z := any_congr' fun r hr => by
    have h1 : r.X ≠ x := fun e => hx (e ▸ (xs_mem hr).1)
    have h2 : r.X + r.W ≠ x := fun e => hx (e ▸ (xs_mem hr).2)
    unfold inB
    rw [show decide (r.X ≤ x) = decide (r.X ≤ x - 1) from by
      have : (r.X ≤ x) = (r.X ≤ x - 1) := by apply propext; omega
      simp only [this], show decide (x < r.X + r.W) = decide (x - 1 < r.X + r.W) from by
      have : (x < r.X + r.W) = (x - 1 < r.X + r.W) := by apply propext; omega
      simp only [this]]
  unfold vl; rw [this]; omega
/-- the outline depends on the region alone -/
theorem outl_region {a b : List Rect} {xa ya xb yb : List Int} (h1 : IsGrid xa (xsL a)) (h2 : IsGrid ya (ysL a)) (h3 : IsGrid xb (xsL b)) (h4 : IsGrid yb (ysL b)) (hl1 : a.length ≤ 400) (hl2 : b.length ≤ 400) (h : ∀ x y, cov a x y = cov b x y) : outl (cov a) xa ya = outl (cov b) xb yb := by
  have e : cov a = cov b := funext fun x => funext fun y => h x y
  have w1 := xsL_len a
  have w2 := xsL_len b
  have w3 := ysL_len a
  have w4 := ysL_len b
  obtain ⟨X, _, X1, X2⟩ := sortedInt_ok (l := xsL a ++ xsL b) (by simp; omega)
  obtain ⟨Y, _, Y1, Y2⟩ := sortedInt_ok (l := ysL a ++ ysL b) (by simp; omega)
  unfold outl
  rw [← flatMap_sub X1 h1.1 (fun x m => (X2 x).2 (List.mem_append_left _ ((h1.2 x).1 m))) (fun x _ m => by rw [runs_zero' (vl_off fun q => m ((h1.2 x).2 q))]; rfl),
    ← flatMap_sub Y1 h2.1 (fun x m => (Y2 x).2 (List.mem_append_left _ ((h2.2 x).1 m))) (fun x _ m => by rw [runs_zero' (hl_off fun q => m ((h2.2 x).2 q))]; rfl),
    ← flatMap_sub X1 h3.1 (fun x m => (X2 x).2 (List.mem_append_right _ ((h3.2 x).1 m))) (fun x _ m => by rw [runs_zero' (vl_off fun q => m ((h3.2 x).2 q))]; rfl),
    ← flatMap_sub Y1 h4.1 (fun x m => (Y2 x).2 (List.mem_append_right _ ((h4.2 x).1 m))) (fun x _ m => by rw [runs_zero' (hl_off fun q => m ((h4.2 x).2 q))]; rfl), e]
theorem mem_outl {l : List Rect} {xs ys : List Int} (hx : IsGrid xs (xsL l)) (hy : IsGrid ys (ysL l)) (hH : Has xs ys l) {a y b : Int} (hab : a < b) : (⟨a, y, b, y⟩ : Segment) ∈ outl (cov l) xs ys ↔ IsRun (hl (cov l) y) a b := by
  unfold outl
  rw [List.mem_append]
  constructor
  · rintro (m | m)
    · obtain ⟨y', _, m⟩ := List.mem_flatMap.1 m
      obtain ⟨q, hq, e⟩ := List.mem_map.1 m
      unfold mkH at e
      injection e with e1 e2 e3 e4
      subst e1 e2 e3
      exact ((along_runs (along_h hH y')).2 q.1 q.2).1 hq
    · obtain ⟨x', _, m⟩ := List.mem_flatMap.1 m
      obtain ⟨q, hq, e⟩ := List.mem_map.1 m
      unfold mkV at e
      injection e with e1 e2 e3 e4
      omega
  · intro m
    left
    have hr := ((along_runs (along_h hH y)).2 a b).2 m
    refine List.mem_flatMap.2 ⟨y, ?_, List.mem_map.2 ⟨(a, b), hr, rfl⟩⟩
    rcases Classical.em (y ∈ ysL l) with q | q
    · exact (hy.2 y).2 q
    · exact absurd (hl_off q a) m.2.1
theorem region_outl {a b : List Rect} {xa ya xb yb : List Int} (h1 : IsGrid xa (xsL a)) (h2 : IsGrid ya (ysL a)) (h3 : IsGrid xb (xsL b)) (h4 : IsGrid yb (ysL b)) (hA : Has xa ya a) (hB : Has xb yb b) (h : outl (cov a) xa ya = outl (cov b) xb yb) : ∀ x y, cov a x y = cov b x y := by
  have runs : ∀ y u v, IsRun (hl (cov a) y) u v ↔ IsRun (hl (cov b) y) u v := fun y u v => by
    constructor
    · intro m; exact (mem_outl h3 h4 hB m.1).1 (h ▸ (mem_outl h1 h2 hA m.1).2 m)
    · intro m; exact (mem_outl h1 h2 hA m.1).1 (h ▸ (mem_outl h3 h4 hB m.1).2 m)
  have sup : ∀ {l : List Rect} {xs ys : List Int}, Has xs ys l → ∀ y, (∀ z, z < -1048576 → hl (cov l) y z = 0) ∧ ∀ z, 1048576 ≤ z → hl (cov l) y z = 0 := fun {l xs ys} hH y => by
    have out : ∀ z w, (z < -1048576 ∨ 1048576 ≤ z) → cov l z w = false := fun z w hz => by
      cases hc : cov l z w with
      | false => rfl
      | true =>
        obtain ⟨⟨c, hc, c1⟩, ⟨d, hd, d1⟩, _⟩ := cov_in hH hc
        have := hH.X.within c hc
        have := hH.X.within d hd
        omega
    exact ⟨fun z hz => by unfold hl; rw [out z y (.inl hz), out z (y - 1) (.inl hz)]; rfl, fun z hz => by unfold hl; rw [out z y (.inr hz), out z (y - 1) (.inr hz)]; rfl⟩
  have supp : ∀ y z, hl (cov a) y z ≠ 0 ↔ hl (cov b) y z ≠ 0 := fun y z => by
    constructor
    · intro hz
      obtain ⟨u, v, m, m1, m2⟩ := run_at (sup hA y).1 (sup hA y).2 hz
      have m' := (runs y u v).1 m
      rw [m'.2.2.1 z m1 m2]; exact m'.2.1
    · intro hz
      obtain ⟨u, v, m, m1, m2⟩ := run_at (sup hB y).1 (sup hB y).2 hz
      have m' := (runs y u v).2 m
      rw [m'.2.2.1 z m1 m2]; exact m'.2.1
  have low : ∀ {l : List Rect} {xs ys : List Int}, Has xs ys l → ∀ z w, w < -1048576 → cov l z w = false := fun {l xs ys} hH z w hw => by
    cases hc : cov l z w with
    | false => rfl
    | true =>
      obtain ⟨_, _, ⟨c, hc, c1⟩, _⟩ := cov_in hH hc
      have := hH.Y.within c hc
      omega
  intro x y
  have key : ∀ n : Nat, ∀ y : Int, y < -1048576 + n → cov a x y = cov b x y := by
    intro n
    induction n with
    | zero => intro y hy; rw [low hA x y (by omega), low hB x y (by omega)]
    | succ n ih =>
      intro y hy
      by_cases q : y < -1048576 + n
      · exact ih y q
      · have h0 := ih (y - 1) (by omega)
        have hs := supp y x
        unfold hl at hs
        rw [h0] at hs
        have one_ne : ∀ u v : Bool, (one u - one v ≠ 0) ↔ u ≠ v := fun u v => by cases u <;> cases v <;> decide
        rw [one_ne, one_ne] at hs
        cases h1 : cov a x y <;> cases h2 : cov b x y <;> cases h3 : cov b x (y - 1) <;> simp_all
  exact key (y + 1048577).toNat y (by omega)
theorem cov_append (a b : List Rect) (x y : Int) : cov (a ++ b) x y = (cov a x y || cov b x y) := by unfold cov; rw [List.any_append]
theorem inB_rect {r : Rect} (h : vR r) : area MM (inB r) = r.W * r.H := by
  unfold vR at h
  have e : inB r = inR r.X (r.X + r.W) r.Y (r.Y + r.H) := by
    funext x y
    unfold inB inR
    by_cases h1 : r.X ≤ x <;> by_cases h2 : x < r.X + r.W <;> by_cases h3 : r.Y ≤ y <;> by_cases h4 : y < r.Y + r.H <;> simp [h1, h2, h3, h4]
  rw [e, area_rect (by unfold MM; omega) (by omega) (by unfold MM; omega) (by unfold MM; omega) (by omega) (by unfold MM; omega)]
  congr 1 <;> omega
theorem inB_in {r : Rect} (h : vR r) {x y : Int} (hb : inB r x y = true) : (-MM ≤ x ∧ x < MM) ∧ -MM ≤ y ∧ y < MM := by
  unfold vR at h
  unfold inB at hb
  unfold MM
  simp only [Bool.and_eq_true, decide_eq_true_eq] at hb
  omega
theorem cov_in' {l : List Rect} (h : AllV l) {x y : Int} (hb : cov l x y = true) : (-MM ≤ x ∧ x < MM) ∧ -MM ≤ y ∧ y < MM := by
  obtain ⟨r, hr, hb⟩ := List.any_eq_true.1 hb
  exact inB_in (h r hr) hb
/-- rectangles overlap if they have a cell in common -/
theorem ov_cells {r s : Rect} (hr : vR r) (hs : vR s) : ovR r s ↔ ∃ x y, inB r x y = true ∧ inB s x y = true := by
  constructor
  · rintro ⟨_, _, h1, h2, h3, h4⟩
    refine ⟨max r.X s.X, max r.Y s.Y, ?_, ?_⟩
    · unfold inB vR at *; simp only [Bool.and_eq_true, decide_eq_true_eq]; omega
    · unfold inB vR at *; simp only [Bool.and_eq_true, decide_eq_true_eq]; omega
  · rintro ⟨x, y, h1, h2⟩
    unfold inB at h1 h2
    simp only [Bool.and_eq_true, decide_eq_true_eq] at h1 h2
    exact ⟨hr, hs, by omega, by omega, by omega, by omega⟩
theorem area_next {l : List Rect} {r : Rect} (hl : AllV l) (hr : vR r) : ∃ i, 0 ≤ i ∧ area MM (cov (l ++ [r])) = area MM (cov l) + r.W * r.H - i ∧ (i = 0 ↔ ∀ s ∈ l, ¬ ovR r s) := by
  have e1 : area MM (cov (l ++ [r])) = area MM (fun x y => cov l x y || inB r x y) := area_congr fun x y => by rw [cov_append]; simp [cov]
  have e2 := area_or (M := MM) (cov l) (inB r)
  rw [inB_rect hr] at e2
  refine ⟨area MM fun x y => cov l x y && inB r x y, area_nonneg _, by rw [e1]; omega, ?_⟩
  constructor
  · intro h0 s hs hov
    obtain ⟨x, y, h1, h2⟩ := (ov_cells hr (hl s hs)).1 hov
    have hc : cov l x y = true := List.any_eq_true.2 ⟨s, hs, h2⟩
    have hin := inB_in hr h1
    have := area_pos (M := MM) (p := fun x y => cov l x y && inB r x y) hin.1.1 hin.1.2 hin.2.1 hin.2.2 (by simp only [hc, h1]; rfl)
    omega
  · intro h
    refine area_zero fun x y => ?_
    cases h1 : cov l x y with
    | false => rfl
    | true =>
      cases h2 : inB r x y with
      | false => rfl
      | true =>
        obtain ⟨s, hs, h3⟩ := List.any_eq_true.1 h1
        exact absurd ((ov_cells hr (hl s hs)).2 ⟨x, y, h2, h3⟩) (h s hs)
theorem area_le_big {l : List Rect} (hl : AllV l) : area MM (cov l) ≤ 4398046511104 := by
  have := area_le (M := MM) (p := cov l) (q := inR (-MM) MM (-MM) MM) fun x y h => by
    have := cov_in' hl h
    unfold inR
    simp only [Bool.and_eq_true, decide_eq_true_eq]
    exact ⟨this.1, this.2⟩
  rw [area_rect (by unfold MM; omega) (by unfold MM; omega) (Int.le_refl _) (by unfold MM; omega) (by unfold MM; omega) (Int.le_refl _)] at this
  unfold MM at this ⊢
  omega
theorem sum_loop {a : List Rect} (hv : AllV a) (hl : a.length ≤ 48) : ∃ s ap, loopT (sheetmetaltop_TopRegions_l2 a) (0, true, 0) = some (s, ap) ∧ area MM (cov a) ≤ s ∧ (area MM (cov a) = s ↔ ap = true) := by
  have inner : ∀ (n : Nat) (r : Rect) (s0 : Int) (ap b : Bool), a[n]? = some r → loopT (sheetmetaltop_TopRegions_l1 a (s0, b, (n : Int))) (ap, 0) = some (ap && (a.take n).all fun t => !decide (ovR r t)) := fun n r s0 ap b hn => by
    have hnl := lt_of_get hn
    obtain ⟨q, q1, q2⟩ := loop_rel (a.take n) (fun k (s : Bool) => (s, (k : Int))) (sheetmetaltop_TopRegions_l1 a (s0, b, (n : Int))) (fun s => s) (fun k s => s = (ap && ((a.take n).take k).all fun t => !decide (ovR r t))) ap (by simp)
      (fun k t s ht hI => by
        have hk := lt_of_get ht
        have hkn : k < n := by simp at hk; omega
        have hd : (k : Int) < (n : Int) := by omega
        have ht' : a[k]? = some t := by rwa [List.getElem?_take, if_pos hkn] at ht
        unfold sheetmetaltop_TopRegions_l1
        simp only [hd, decide_true, if_true, idx_of hn, idx_of ht', Overlap_eq, Option.bind_some, succ_cast k (by omega)]
        subst hI
        rw [take_snoc ht, List.all_append]
        cases hq : (ap && ((a.take n).take k).all fun t => !decide (ovR r t)) with
        | true =>
          simp only [if_true, Option.bind_some]
          refine ⟨_, rfl, ?_⟩
          rw [← Bool.and_assoc, hq]; simp
        | false =>
          simp only [Bool.false_eq_true, if_false, Option.bind_some]
          refine ⟨_, rfl, ?_⟩
          rw [← Bool.and_assoc, hq]; simp) (fun s _ => by
        have : ¬ ((a.take n).length : Int) < (n : Int) := by simp; omega
        unfold sheetmetaltop_TopRegions_l1
        simp only [this, decide_false, Bool.false_eq_true, if_false])
    rw [List.take_length] at q2
    rw [show (ap, (0 : Int)) = (ap, ((0 : Nat) : Int)) from rfl, q1, q2]
  obtain ⟨⟨s, ap⟩, q1, q2, q3, _⟩ := loop_rel a (fun k (s : Int × Bool) => (s.1, s.2, (k : Int))) (sheetmetaltop_TopRegions_l2 a) (fun s => (s.1, s.2)) (fun k s => area MM (cov (a.take k)) ≤ s.1 ∧ (area MM (cov (a.take k)) = s.1 ↔ s.2 = true) ∧ s.1 ≤ k * 4398046511104) (0, true)
    ⟨by rw [show area MM (cov (a.take 0)) = 0 from area_zero fun _ _ => rfl]; exact Int.le_refl _, by rw [show area MM (cov (a.take 0)) = 0 from area_zero fun _ _ => rfl]; simp, by simp⟩
    (fun k r s hr hI => by
      obtain ⟨i1, i2, i3⟩ := hI
      have hk := lt_of_get hr
      have hd : (k : Int) < (a.length : Int) := by omega
      have hvr := hv r (List.mem_of_getElem? hr)
      have hvt : AllV (a.take k) := fun t ht => hv t (List.mem_of_mem_take ht)
      obtain ⟨i, n1, n2, n3⟩ := area_next hvt hvr
      have hn := area_nonneg (M := MM) (cov (a.take k))
      have wh : 0 ≤ r.W * r.H ∧ r.W * r.H ≤ 2097152 * 2097152 := by
        unfold vR at hvr
        exact ⟨Int.mul_nonneg (by omega) (by omega), Int.mul_le_mul (by omega) (by omega) (by omega) (by omega)⟩
      have im : imul r.W r.H = r.W * r.H := imul_eq (by omega) (by omega)
      have ia : iadd s.1 (r.W * r.H) = s.1 + r.W * r.H := iadd_eq (by omega) (by omega)
      unfold sheetmetaltop_TopRegions_l2
      simp only [hd, decide_true, if_true, idx_of hr, Option.bind_some, inner k r s.1 s.2 s.2 hr, im, ia, succ_cast k (by omega)]
      refine ⟨(s.1 + r.W * r.H, s.2 && (a.take k).all fun t => !decide (ovR r t)), rfl, ?_, ?_, ?_⟩
      · rw [take_snoc hr]; simp only; omega
      · rw [take_snoc hr]
        simp only [Bool.and_eq_true, List.all_eq_true, Bool.not_eq_true', decide_eq_false_iff_not]
        rw [← n3, ← i2]
        omega
      · simp only; omega) (fun s _ => by simp [sheetmetaltop_TopRegions_l2])
  rw [List.take_length] at q2 q3
  exact ⟨s, ap, by rw [show ((0 : Int), true, (0 : Int)) = ((0, true).1, (0, true).2, ((0 : Nat) : Int)) from rfl, q1], q2, q3⟩
theorem unit_ok : sheetmetaltop_unit = some true := by
  unfold sheetmetaltop_unit
  have hv : vR ⟨0, 0, 2, 3⟩ := by simp [vR]
  have hc : codeL [[(⟨0, 0, 2, 3⟩ : Rect)]] = 0 := by
    unfold codeL validB
    simp [hv]
  have ha : area MM (cov [(⟨0, 0, 2, 3⟩ : Rect)]) = 6 := by
    rw [area_congr (q := inB ⟨0, 0, 2, 3⟩) fun x y => by simp [cov], inB_rect hv]; rfl
  rw [Area_ok]
  unfold areaA
  rw [if_pos hc, ha]; rfl
theorem ar_aux (A B C D : Int) (h : C + D = A + B) (h0 : 0 ≤ D) (h1 : A ≤ C) (h2 : B ≤ C) (b1 : A ≤ 4398046511104) (b2 : B ≤ 4398046511104) (z1 : 0 ≤ A) (z2 : 0 ≤ B) :
    iadd A B = A + B ∧ decide (C < A) = false ∧ decide (C < B) = false ∧ decide (C > A + B) = false := by
  refine ⟨iadd_eq (by omega) (by omega), ?_, ?_, ?_⟩ <;> rw [decide_eq_false_iff_not] <;> omega
theorem law_TopRegions (a b : List Rect) : sheetmetaltop_TopRegions a b = some true := by
  unfold sheetmetaltop_TopRegions sheetmetallaw01_Many
  simp only [Option.bind_some, unit_ok]
  by_cases h1 : (a.length : Int) > 60
  · simp [h1]
  by_cases h2 : (b.length : Int) > 60
  · simp [h1, h2]
  obtain ⟨s, s1, _, s3, s4⟩ := sameRegion_ok a b
  obtain ⟨c1, _⟩ := code_two a b
  simp only [h1, h2, decide_false, Bool.false_eq_true, if_false, Option.bind_some, Area_ok, s1]
  have hsnd : ∀ l, (areaA l).2 = codeL [l] := fun l => by unfold areaA; split <;> simp_all
  have hfst : ∀ l, codeL [l] = 0 → (areaA l).1 = area MM (cov l) := fun l hc => by unfold areaA; rw [if_pos hc]
  rw [hsnd a, hsnd b]
  by_cases hc : codeL [a, b] = 0
  case neg =>
    have hcb : (codeL [a, b] != 0) = true := by simp [hc]
    have : ¬ (codeL [a] = 0 ∧ codeL [b] = 0) := fun q => hc (c1.2 q)
    rw [s3 hc]
    by_cases ha : codeL [a] = 0
    · have hb : codeL [b] ≠ 0 := fun q => this ⟨ha, q⟩
      simp [ha, hb, hcb]
    · simp [ha, hcb]
  obtain ⟨ha, hb⟩ := c1.1 hc
  obtain ⟨la, va⟩ := code_one ha
  obtain ⟨lb, vb⟩ := code_one hb
  obtain ⟨xa, ya, oa, ga1, ga2, ga3⟩ := Outline_ok ha
  obtain ⟨xb, yb, ob, gb1, gb2, gb3⟩ := Outline_ok hb
  have hA := has_of va (by omega) ga1 ga2 (fun r hr => hr)
  have hB := has_of vb (by omega) gb1 gb2 (fun r hr => hr)
  obtain ⟨t, t1, t2⟩ := sameSegments_ok (a := outl (cov a) xa ya) (b := outl (cov b) xb yb) (by omega) (by omega)
  have hst : s = t := by
    have h5 := s4 hc
    have : s = true ↔ t = true := by
      rw [h5, t2]
      exact ⟨fun q => outl_region ga1 ga2 gb1 gb2 (by omega) (by omega) q, fun q => region_outl ga1 ga2 gb1 gb2 hA hB q⟩
    cases s <;> cases t <;> simp_all
  subst hst
  obtain ⟨sm, ap, m1, m2, m3⟩ := sum_loop va la
  have hempty : ((a.length : Int) == 0) = (((outl (cov a) xa ya).length : Int) == 0) := by
    by_cases q : a = []
    · subst q
      have e1 : xa = [] := by
        cases xa with
        | nil => rfl
        | cons u v => exact absurd ((ga1.2 u).1 List.mem_cons_self) (by simp [xsL])
      have e2 : ya = [] := by
        cases ya with
        | nil => rfl
        | cons u v => exact absurd ((ga2.2 u).1 List.mem_cons_self) (by simp [ysL])
      subst e1 e2
      rfl
    · have h3 : ((a.length : Int) == 0) = false := by
        have := List.length_pos_iff.2 q
        simp; exact q
      rw [h3]
      symm
      rw [beq_eq_false_iff_ne]
      intro h0
      have h0 : outl (cov a) xa ya = [] := List.eq_nil_of_length_eq_zero (by omega)
      have gx : IsGrid [] (xsL []) := ⟨.nil, by simp [xsL]⟩
      have gy : IsGrid [] (ysL []) := ⟨.nil, by simp [ysL]⟩
      have hE : Has [] [] ([] : List Rect) := has_of (lines := []) (fun r hr => by simp at hr) (by simp) gx gy (fun r hr => hr)
      have := region_outl ga1 ga2 gx gy hA hE (by rw [h0]; rfl)
      obtain ⟨r, hr⟩ := List.exists_mem_of_ne_nil a q
      have hvr := va r hr
      have hcv : cov a r.X r.Y = true := List.any_eq_true.2 ⟨r, hr, by unfold inB vR at *; simp only [Bool.and_eq_true, decide_eq_true_eq]; omega⟩
      have := this r.X r.Y
      rw [hcv] at this
      simp [cov] at this
  have fin : ∀ j : Bool, j = false → (if j then some false else (loopT (sheetmetaltop_TopRegions_l2 a) (0, true, 0)).bind fun x912 => (if (decide ((areaA a).1 ≤ x912.1)) then (if (((areaA a).1 == x912.1) == x912.2) then (if (((a.length : Int) == 0) == (((outl (cov a) xa ya).length : Int) == 0)) then (some true) else (some false)) else (some false)) else (some false)).bind fun j914 => some j914) = some true := fun j hj => by
    have e3 : ((area MM (cov a) == sm) == ap) = true := by
      by_cases q : area MM (cov a) = sm
      · rw [m3.1 q, q]; simp
      · have : ap = false := by
          cases hap : ap with
          | false => rfl
          | true => exact absurd (m3.2 hap) q
        rw [this]; simp [q]
    subst hj
    simp only [Bool.false_eq_true, if_false, m1, Option.bind_some, hfst a ha, m2, decide_true, if_true, e3, hempty, beq_self_eq_true]
  simp only [ha, hb, hc, bne_self_eq_false, Bool.false_eq_true, if_false, Option.bind_some, oa, ob, t1, beq_self_eq_true, Bool.not_true, both_ok (show a.length ≤ 1000 by omega) (show b.length ≤ 1000 by omega), hsnd, unit_ok]
  by_cases hk : codeL [a ++ b] = 0
  case neg =>
    have : (codeL [a ++ b] == 0) = false := by simp [hk]
    simp only [this, Bool.false_eq_true, if_false, Option.bind_some]
    exact fin false rfl
  have hk' : (codeL [a ++ b] == 0) = true := by simp [hk]
  -- the area of both
  have e0 : area MM (cov (a ++ b)) = area MM (fun x y => cov a x y || cov b x y) := area_congr fun x y => cov_append a b x y
  have e1 := area_or (M := MM) (cov a) (cov b)
  have n1 := area_nonneg (M := MM) (fun x y => cov a x y && cov b x y)
  have n2 := area_le (M := MM) (p := cov a) (q := fun x y => cov a x y || cov b x y) fun x y q => by simp [q]
  have n3 := area_le (M := MM) (p := cov b) (q := fun x y => cov a x y || cov b x y) fun x y q => by simp [q]
  have b1 := area_le_big va
  have b2 := area_le_big vb
  have z1 := area_nonneg (M := MM) (cov a)
  have z2 := area_nonneg (M := MM) (cov b)
  have same : s = true ↔ (area MM (cov (a ++ b)) = area MM (cov a) ∧ area MM (cov (a ++ b)) = area MM (cov b)) := by
    rw [s4 hc]
    constructor
    · intro q
      rw [e0]
      exact ⟨area_congr fun x y => by rw [q x y, Bool.or_self], area_congr fun x y => by rw [q x y, Bool.or_self]⟩
    · rintro ⟨q1, q2⟩ x y
      rw [e0] at q1 q2
      rcases Classical.em (cov a x y = true ∨ cov b x y = true) with q | q
      · have hin : (-MM ≤ x ∧ x < MM) ∧ -MM ≤ y ∧ y < MM := q.elim (cov_in' va) (cov_in' vb)
        have p1 := area_same (M := MM) (p := cov a) (q := fun x y => cov a x y || cov b x y) (fun x y q => by simp [q]) q1.symm hin.1.1 hin.1.2 hin.2.1 hin.2.2
        have p2 := area_same (M := MM) (p := cov b) (q := fun x y => cov a x y || cov b x y) (fun x y q => by simp [q]) q2.symm hin.1.1 hin.1.2 hin.2.1 hin.2.2
        exact p1.trans p2.symm
      · cases h3 : cov a x y <;> cases h4 : cov b x y <;> simp_all
  obtain ⟨i1, l1, l2, l3⟩ := ar_aux (area MM (cov a)) (area MM (cov b)) (area MM (cov (a ++ b))) _ (by rw [e0]; exact e1) n1 (by rw [e0]; exact n2) (by rw [e0]; exact n3) b1 b2 z1 z2
  simp only [hk', if_true, hfst _ hk, hfst a ha, hfst b hb, i1, l1, l2, l3, Bool.false_eq_true, if_false]
  have fin' := fin false rfl
  rw [hfst a ha] at fin'
  by_cases q1 : area MM (cov (a ++ b)) = area MM (cov a)
  · have hq : (s == (area MM (cov (a ++ b)) == area MM (cov b))) = true := by
      by_cases q2 : area MM (cov (a ++ b)) = area MM (cov b)
      · rw [same.2 ⟨q1, q2⟩]; simp [q2]
      · have : s = false := by
          cases hs : s with
          | false => rfl
          | true => exact absurd (same.1 hs).2 q2
        rw [this]; simp [q2]
    have hq1 : (area MM (cov (a ++ b)) == area MM (cov a)) = true := by simp [q1]
    simp only [hq1, if_true, hq, Option.bind_some]
    exact fin'
  · have hs : s = false := by
      cases hs : s with
      | false => rfl
      | true => exact absurd (same.1 hs).1 q1
    have hq1 : (area MM (cov (a ++ b)) == area MM (cov a)) = false := by simp [q1]
    simp only [hq1, Bool.false_eq_true, if_false, hs, beq_self_eq_true, if_true, Option.bind_some]
    exact fin'
end Go.SM
