/- Areas of unions of rectangles. -/
import Derived.Test.YtiodkdpfkchkjaaGeomMake
set_option linter.unusedVariables false
set_option linter.unusedSimpArgs false
set_option linter.unusedSectionVars false
namespace Go.SM
open Go Go.VI Go.Cells
def MM : Int := 1048576
def ps (g : Int → Int) (xs : List Int) (k : Nat) : Int := sumN (fun i => (xs.getD (i + 1) 0 - xs.getD i 0) * g (xs.getD i 0)) k
theorem ps_gsum (g : Int → Int) : ∀ xs : List Int, ps g xs (xs.length - 1) = gsum g xs
  | [] => rfl
  | [_] => rfl
  | x :: y :: t => by
    have ih := ps_gsum g (y :: t)
    unfold ps at ih ⊢
    rw [show (x :: y :: t).length - 1 = 1 + ((y :: t).length - 1) from by simp; omega, sumN_add]
    simp only [gsum]
    rw [← ih]
    congr 1
    · simp [sumN]
    · refine sumN_congr fun k _ => ?_
      rw [show 1 + k = k + 1 from by omega]
      simp
theorem asc_get {xs : List Int} (h : xs.Pairwise fun x y => x < y) {i j : Nat} {x y : Int} (hij : i < j) (hx : xs[i]? = some x) (hy : xs[j]? = some y) : x < y := by
  obtain ⟨a, rfl⟩ := List.getElem?_eq_some_iff.1 hx
  obtain ⟨b, rfl⟩ := List.getElem?_eq_some_iff.1 hy
  exact List.pairwise_iff_getElem.1 h i j a b hij
theorem ps_bound {xs : List Int} (h : xs.Pairwise fun x y => x < y) {g : Int → Int} {c : Int} (hc : 0 ≤ c) (hg : ∀ x, 0 ≤ g x ∧ g x ≤ c) : ∀ k, k < xs.length → 0 ≤ ps g xs k ∧ ps g xs k ≤ c * (xs.getD k 0 - xs.getD 0 0)
  | 0, _ => by simp [ps, sumN]
  | k + 1, hk => by
    obtain ⟨a1, a2⟩ := ps_bound h hc hg k (by omega)
    obtain ⟨x, hx⟩ : ∃ x, xs[k]? = some x := ⟨_, List.getElem?_eq_getElem (by omega)⟩
    obtain ⟨y, hy⟩ : ∃ y, xs[k + 1]? = some y := ⟨_, List.getElem?_eq_getElem hk⟩
    have hxy := asc_get h (Nat.lt_succ_self k) hx hy
    have e : ps g xs (k + 1) = ps g xs k + (y - x) * g x := by
      show sumN _ (k + 1) = _
      simp only [sumN, getD_of hx, getD_of hy]; rfl
    rw [getD_of hx] at a2
    rw [e, getD_of hy]
    obtain ⟨g1, g2⟩ := hg x
    have m1 : 0 ≤ (y - x) * g x := Int.mul_nonneg (by omega) g1
    have m2 : (y - x) * g x ≤ (y - x) * c := Int.mul_le_mul_of_nonneg_left g2 (by omega)
    have m3 : c * (y - xs.getD 0 0) = c * (x - xs.getD 0 0) + (y - x) * c := by grind
    omega
/-- coordinates in order, within the plane -/
structure Lines (xs : List Int) : Prop where
  asc : xs.Pairwise fun x y => x < y
  within : ∀ x ∈ xs, -1048576 ≤ x ∧ x ≤ 1048576
  len : xs.length ≤ 1000
theorem one_le (b : Bool) : 0 ≤ one b ∧ one b ≤ 1 := by cases b <;> decide
theorem gsum_bound {xs : List Int} (h : Lines xs) {g : Int → Int} {c : Int} (hc : 0 ≤ c) (hg : ∀ x, 0 ≤ g x ∧ g x ≤ c) : 0 ≤ gsum g xs ∧ gsum g xs ≤ c * 2097152 := by
  rw [← ps_gsum]
  rcases Nat.eq_zero_or_pos xs.length with q | q
  · rw [List.eq_nil_of_length_eq_zero q]
    have : 0 ≤ c * 2097152 := Int.mul_nonneg hc (by omega)
    simpa [ps, sumN] using this
  · obtain ⟨b1, b2⟩ := ps_bound h.asc hc hg (xs.length - 1) (by omega)
    obtain ⟨x, hx⟩ : ∃ x, xs[xs.length - 1]? = some x := ⟨_, List.getElem?_eq_getElem (by omega)⟩
    obtain ⟨y, hy⟩ : ∃ y, xs[0]? = some y := ⟨_, List.getElem?_eq_getElem (by omega)⟩
    rw [getD_of hx, getD_of hy] at b2
    have wx := h.within x (List.mem_of_getElem? hx)
    have wy := h.within y (List.mem_of_getElem? hy)
    have : c * (x - y) ≤ c * 2097152 := Int.mul_le_mul_of_nonneg_left (by omega) hc
    exact ⟨b1, by omega⟩
theorem ps_step (g : Int → Int) {l : List Int} {k : Nat} {x y : Int} (hx : l[k]? = some x) (hy : l[k + 1]? = some y) : ps g l (k + 1) = ps g l k + (y - x) * g x := by
  show sumN _ (k + 1) = _
  simp only [sumN, getD_of hx, getD_of hy]; rfl
section
variable {xs ys : List Int} (hX : Lines xs) (hY : Lines ys) (p : Int → Int → Bool)
include hX hY
theorem area_inner {i : Nat} {x x' : Int} (hx : xs[i]? = some x) (hx' : xs[i + 1]? = some x') (s s0 : Int) (h0 : 0 ≤ s0) (h1 : s0 ≤ 8796093022208) :
    loopT (geom_Area_l2 ⟨xs, ys⟩ (s, (i : Int)) (ys.dropLast.map fun y => p x y)) (s0, 0) = some (s0 + (x' - x) * gsum (fun y => one (p x y)) ys) := by
  have hxx := asc_get hX.asc (Nat.lt_succ_self i) hx hx'
  have wx := hX.within x (List.mem_of_getElem? hx)
  have wx' := hX.within x' (List.mem_of_getElem? hx')
  have hi := lt_of_get hx
  have hXl := hX.len
  have hYl := hY.len
  obtain ⟨r, q1, q2⟩ := loop_rel ys.dropLast (fun k (a : Int) => (a, (k : Int))) (geom_Area_l2 ⟨xs, ys⟩ (s, (i : Int)) (ys.dropLast.map fun y => p x y)) (fun a => a) (fun k a => a = s0 + (x' - x) * ps (fun y => one (p x y)) ys k) s0 (by simp [ps, sumN])
    (fun k y a hy hI => by
      obtain ⟨gy, ky⟩ := dropLast_get hy
      have kl := lt_of_get hy
      obtain ⟨y', gy'⟩ : ∃ y', ys[k + 1]? = some y' := ⟨_, List.getElem?_eq_getElem ky⟩
      have hyy := asc_get hY.asc (Nat.lt_succ_self k) gy gy'
      have wy := hY.within y (List.mem_of_getElem? gy)
      have wy' := hY.within y' (List.mem_of_getElem? gy')
      have hd : decide ((k : Int) < ((ys.dropLast.map fun y => p x y).length : Int)) = true := by rw [List.length_map, List.length_dropLast]; simp; omega
      have e1 : isub x' x = x' - x := isub_eq (by omega) (by omega)
      have e2 : isub y' y = y' - y := isub_eq (by omega) (by omega)
      have m1 : 0 ≤ (x' - x) * (y' - y) := Int.mul_nonneg (by omega) (by omega)
      have m2 : (x' - x) * (y' - y) ≤ 2097152 * 2097152 := Int.mul_le_mul (by omega) (by omega) (by omega) (by omega)
      have e3 : imul (x' - x) (y' - y) = (x' - x) * (y' - y) := imul_eq (by omega) (by omega)
      obtain ⟨b1, b2⟩ := ps_bound hY.asc (g := fun y => one (p x y)) (c := 1) (by omega) (fun y => one_le _) k (by omega)
      obtain ⟨y0, gy0⟩ : ∃ y0, ys[0]? = some y0 := ⟨_, List.getElem?_eq_getElem (by omega)⟩
      rw [getD_of gy, getD_of gy0] at b2
      have wy0 := hY.within y0 (List.mem_of_getElem? gy0)
      have m3 : 0 ≤ (x' - x) * ps (fun y => one (p x y)) ys k := Int.mul_nonneg (by omega) b1
      have m4 : (x' - x) * ps (fun y => one (p x y)) ys k ≤ 2097152 * 2097152 := Int.mul_le_mul (by omega) (by omega) b1 (by omega)
      have st := ps_step (fun y => one (p x y)) gy gy'
      unfold geom_Area_l2
      have hrow := row_get (q := fun y => p x y) gy ky
      have si : iadd (i : Int) 1 = ((i + 1 : Nat) : Int) := succ_cast i (by omega)
      have sk : iadd (k : Int) 1 = ((k + 1 : Nat) : Int) := succ_cast k (by omega)
      simp only [hd, if_true, idx_of hrow, Option.bind_some, si, sk, idx_of hx, idx_of hx', idx_of gy, idx_of gy', e1, e2, e3, geom_Area_k1]
      subst hI
      cases hp : p x y with
      | true =>
        simp only [if_true]
        rw [iadd_eq (by omega) (by omega)]
        refine ⟨_, rfl, ?_⟩
        rw [st, hp, show one true = 1 from rfl]
        grind
      | false =>
        simp only [Bool.false_eq_true, if_false]
        refine ⟨_, rfl, ?_⟩
        rw [st, hp, show one false = 0 from rfl, Int.mul_zero, Int.add_zero]) (fun a _ => by simp [geom_Area_l2])
  rw [List.length_dropLast, ps_gsum] at q2
  rw [show (s0, (0 : Int)) = (s0, ((0 : Nat) : Int)) from rfl, q1, q2]
theorem area_loop : loopT (geom_Area_l3 ⟨xs, ys⟩ (mat xs ys p)) (0, 0) = some (gsum (fun x => gsum (fun y => one (p x y)) ys) xs) := by
  have hXl := hX.len
  have hg := fun x => gsum_bound hY (g := fun y => one (p x y)) (c := 1) (by omega) (fun y => one_le _)
  obtain ⟨r, q1, q2⟩ := loop_rel xs.dropLast (fun k (a : Int) => (a, (k : Int))) (geom_Area_l3 ⟨xs, ys⟩ (mat xs ys p)) (fun a => a) (fun k a => a = ps (fun x => gsum (fun y => one (p x y)) ys) xs k) 0 (by simp [ps, sumN])
    (fun k x a hx hI => by
      obtain ⟨gx, kx⟩ := dropLast_get hx
      have kl := lt_of_get hx
      obtain ⟨x', gx'⟩ : ∃ x', xs[k + 1]? = some x' := ⟨_, List.getElem?_eq_getElem kx⟩
      obtain ⟨b1, b2⟩ := ps_bound hX.asc (g := fun x => gsum (fun y => one (p x y)) ys) (c := 2097152) (by omega) (fun x => by have := hg x; omega) k (by omega)
      obtain ⟨x0, gx0⟩ : ∃ x0, xs[0]? = some x0 := ⟨_, List.getElem?_eq_getElem (by omega)⟩
      rw [getD_of gx, getD_of gx0] at b2
      have wx := hX.within x (List.mem_of_getElem? gx)
      have wx0 := hX.within x0 (List.mem_of_getElem? gx0)
      have hd : decide ((k : Int) < ((mat xs ys p).length : Int)) = true := by rw [mat_len]; simp; omega
      unfold geom_Area_l3
      subst hI
      simp only [hd, if_true, idx_of (mat_get gx kx), Option.bind_some, area_inner hX hY p gx gx' _ _ b1 (by omega), succ_cast k (by omega)]
      exact ⟨_, rfl, (ps_step _ gx gx').symm⟩) (fun a _ => by
      have : ¬ ((xs.dropLast.length : Nat) : Int) < ((mat xs ys p).length : Int) := by rw [mat_len]; simp
      unfold geom_Area_l3
      simp only [this, decide_false, Bool.false_eq_true, if_false])
  rw [List.length_dropLast, ps_gsum] at q2
  rw [show ((0 : Int), (0 : Int)) = (0, ((0 : Nat) : Int)) from rfl, q1, q2]
theorem size_loop : sheetmetalref01_Grid_Size ⟨xs, ys, mat xs ys p⟩ = some (gsum (fun x => gsum (fun y => one (p x y)) ys) xs) := by
  have e : ∀ (i : Nat) (x s : Int), xs[i]? = some x → i + 1 < xs.length → sheetmetalref01_Grid_Size_l2 ⟨xs, ys, mat xs ys p⟩ (s, (i : Int)) = geom_Area_l2 ⟨xs, ys⟩ (s, (i : Int)) (ys.dropLast.map fun y => p x y) := fun i x s hx hi => by
    funext s1
    unfold sheetmetalref01_Grid_Size_l2 geom_Area_l2
    simp only [idx_of (mat_get hx hi), Option.bind_some]
    rfl
  have e2 : loopT (sheetmetalref01_Grid_Size_l3 ⟨xs, ys, mat xs ys p⟩) (0, 0) = loopT (geom_Area_l3 ⟨xs, ys⟩ (mat xs ys p)) (0, 0) := by
    congr 1
    funext s
    unfold sheetmetalref01_Grid_Size_l3 geom_Area_l3
    by_cases h : s.2 < ((mat xs ys p).length : Int)
    · simp only [h, decide_true, if_true]
      by_cases h0 : 0 ≤ s.2
      · obtain ⟨i, hi⟩ : ∃ i : Nat, s.2 = i := ⟨s.2.toNat, by omega⟩
        rw [mat_len] at h
        obtain ⟨x, hx⟩ : ∃ x, xs[i]? = some x := ⟨_, List.getElem?_eq_getElem (by omega)⟩
        have es : s = (s.1, (i : Int)) := Prod.ext rfl hi
        rw [hi, idx_of (mat_get hx (by omega)), Option.bind_some, es, e i x s.1 hx (by omega)]
      · have hn : idx (mat xs ys p) s.2 = none := by unfold idx; rw [if_neg h0]
        have hb : sheetmetalref01_Grid_Size_l2 ⟨xs, ys, mat xs ys p⟩ s (s.1, 0) = none := by
          unfold sheetmetalref01_Grid_Size_l2
          simp only [hn, Option.bind_none]
        rw [loopT_eq, hb, hn]; rfl
    · simp only [h, decide_false, Bool.false_eq_true, if_false]
  unfold sheetmetalref01_Grid_Size
  rw [e2, area_loop hX hY p]; rfl
end
/-! ### a grid that has all coordinates -/
theorem steps_cov {β : Type} {f : Int → β} {C : Int → Prop} (hf : ∀ x z, x ≤ z → (∀ c, C c → (c ≤ z ↔ c ≤ x)) → f z = f x) : ∀ g : List Int, g.Pairwise (fun x y => x < y) → (∀ c, C c → (∀ x, g.head? = some x → c < x) ∨ c ∈ g) → GSteps f g
  | [], _, _ => trivial
  | [_], _, _ => trivial
  | x :: y :: t, h, hc => by
    have hxy := (List.pairwise_cons.1 h).1 y List.mem_cons_self
    have ht := (List.pairwise_cons.1 h).2
    refine ⟨hxy, fun z h1 h2 => hf x z h1 fun c hC => ?_, steps_cov hf (y :: t) ht fun c hC => ?_⟩
    · rcases hc c hC with q | q
      · have := q x rfl; omega
      · rcases List.mem_cons.1 q with rfl | q
        · omega
        · rcases List.mem_cons.1 q with rfl | q
          · omega
          · have := (List.pairwise_cons.1 ht).1 c q; omega
    · rcases hc c hC with q | q
      · left; intro w hw; simp at hw; subst hw; have := q x rfl; omega
      · rcases List.mem_cons.1 q with rfl | q
        · left; intro w hw; simp at hw; subst hw; exact hxy
        · exact .inr q
theorem xs_mem {l : List Rect} {r : Rect} (h : r ∈ l) : r.X ∈ xsL l ∧ r.X + r.W ∈ xsL l := by
  unfold xsL
  exact ⟨List.mem_flatMap.2 ⟨r, h, by simp⟩, List.mem_flatMap.2 ⟨r, h, by simp⟩⟩
theorem ys_mem {l : List Rect} {r : Rect} (h : r ∈ l) : r.Y ∈ ysL l ∧ r.Y + r.H ∈ ysL l := by
  unfold ysL
  exact ⟨List.mem_flatMap.2 ⟨r, h, by simp⟩, List.mem_flatMap.2 ⟨r, h, by simp⟩⟩
theorem any_congr' {α : Type} {l : List α} {f g : α → Bool} (h : ∀ x ∈ l, f x = g x) : l.any f = l.any g := by
  induction l with
  | nil => rfl
  | cons x l ih => simp only [List.any_cons]; rw [h x List.mem_cons_self, ih fun y hy => h y (List.mem_cons_of_mem _ hy)]
/-- grids in x and y that have all coordinates of l -/
structure Has (xs ys : List Int) (l : List Rect) : Prop where
  X : Lines xs
  Y : Lines ys
  x : ∀ c ∈ xsL l, c ∈ xs
  y : ∀ c ∈ ysL l, c ∈ ys
  v : AllV l
section
variable {xs ys : List Int} {l : List Rect} (h : Has xs ys l)
include h
theorem steps_x : GSteps (fun x => cov l x) xs := steps_cov (C := fun c => c ∈ xsL l) (fun x z hxz hC => funext fun y => any_congr' fun r hr => by
  have h1 := hC _ (xs_mem hr).1
  have h2 := hC _ (xs_mem hr).2
  unfold inB
  rw [show decide (r.X ≤ z) = decide (r.X ≤ x) from by simp only [h1], show decide (z < r.X + r.W) = decide (x < r.X + r.W) from by
    have : (z < r.X + r.W) = (x < r.X + r.W) := by apply propext; omega
    simp only [this]]) xs h.X.asc fun c hc => .inr (h.x c hc)
theorem steps_y (x : Int) : GSteps (fun y => cov l x y) ys := steps_cov (C := fun c => c ∈ ysL l) (fun y z hyz hC => any_congr' fun r hr => by
  have h1 := hC _ (ys_mem hr).1
  have h2 := hC _ (ys_mem hr).2
  unfold inB
  rw [show decide (r.Y ≤ z) = decide (r.Y ≤ y) from by simp only [h1], show decide (z < r.Y + r.H) = decide (y < r.Y + r.H) from by
    have : (z < r.Y + r.H) = (y < r.Y + r.H) := by apply propext; omega
    simp only [this]]) ys h.Y.asc fun c hc => .inr (h.y c hc)
theorem cov_in {x y : Int} (hc : cov l x y = true) : (∃ a ∈ xs, a ≤ x) ∧ (∃ a ∈ xs, x < a) ∧ (∃ a ∈ ys, a ≤ y) ∧ (∃ a ∈ ys, y < a) := by
  obtain ⟨r, hr, hb⟩ := List.any_eq_true.1 hc
  unfold inB at hb
  simp only [Bool.and_eq_true, decide_eq_true_eq] at hb
  exact ⟨⟨_, h.x _ (xs_mem hr).1, hb.1⟩, ⟨_, h.x _ (xs_mem hr).2, hb.2.1⟩, ⟨_, h.y _ (ys_mem hr).1, hb.2.2.1⟩, ⟨_, h.y _ (ys_mem hr).2, hb.2.2.2⟩⟩
omit h in
theorem ends {x0 : Int} {t : List Int} (ha : (x0 :: t).Pairwise fun x y => x < y) : ∀ a ∈ x0 :: t, x0 ≤ a ∧ a ≤ (x0 :: t).getLast (by simp) := fun a m => by
  constructor
  · rcases List.mem_cons.1 m with rfl | m
    · exact Int.le_refl _
    · exact Int.le_of_lt ((List.pairwise_cons.1 ha).1 a m)
  · have e : x0 :: t = (x0 :: t).dropLast ++ [(x0 :: t).getLast (by simp)] := (List.dropLast_concat_getLast (by simp)).symm
    rw [e, List.pairwise_append] at ha
    rw [e] at m
    rcases List.mem_append.1 m with m | m
    · exact Int.le_of_lt (ha.2.2 a m _ (by simp))
    · simp at m; omega
theorem area_val : gsum (fun x => gsum (fun y => one (cov l x y)) ys) xs = area MM (cov l) := by
  have hx := steps_x h
  have hy := steps_y h
  have hi := @cov_in xs ys l h
  have hX := h.X
  have hY := h.Y
  clear h
  cases xs with
  | nil =>
    rw [area_zero fun x y => ?_]
    · rfl
    · cases hc : cov l x y with
      | false => rfl
      | true => obtain ⟨⟨a, ha, _⟩, _⟩ := hi hc; simp at ha
  | cons x0 xs =>
    cases ys with
    | nil =>
      rw [area_zero fun x y => ?_]
      · have e : ∀ l : List Int, gsum (fun _ => gsum (fun _ => (0 : Int)) []) l = 0 := fun l => by
          have : ∀ l : List Int, gsum (fun _ => (0 : Int)) l = 0 := fun l => by
            induction l with
            | nil => rfl
            | cons x t ih => cases t with
              | nil => rfl
              | cons y t => simp only [gsum, ih]; simp
          exact this l
        exact e _
      · cases hc : cov l x y with
        | false => rfl
        | true => obtain ⟨_, _, ⟨a, ha, _⟩, _⟩ := hi hc; simp at ha
    | cons y0 ys =>
      have ex := ends hX.asc
      have ey := ends hY.asc
      have wx0 := hX.within x0 List.mem_cons_self
      have wy0 := hY.within y0 List.mem_cons_self
      have wx1 := hX.within _ (List.getLast_mem (l := x0 :: xs) (by simp))
      have wy1 := hY.within _ (List.getLast_mem (l := y0 :: ys) (by simp))
      refine (area_grid hx hy (by unfold MM; omega) (by unfold MM; omega) (by unfold MM; omega) (by unfold MM; omega) (fun x y q => ?_) (fun x y q => ?_)).symm
      · cases hc : cov l x y with
        | false => rfl
        | true =>
          obtain ⟨⟨a, ha, a1⟩, ⟨b, hb, b1⟩, _⟩ := hi hc
          have := ex a ha
          have := ex b hb
          omega
      · cases hc : cov l x y with
        | false => rfl
        | true =>
          obtain ⟨_, _, ⟨a, ha, a1⟩, ⟨b, hb, b1⟩⟩ := hi hc
          have := ey a ha
          have := ey b hb
          omega
end
theorem lines_within {l : List Rect} (hv : AllV l) : (∀ c ∈ xsL l, -1048576 ≤ c ∧ c ≤ 1048576) ∧ ∀ c ∈ ysL l, -1048576 ≤ c ∧ c ≤ 1048576 := by
  constructor
  · intro c hc
    obtain ⟨r, hr, hm⟩ := List.mem_flatMap.1 hc
    have := hv r hr
    unfold vR at this
    simp at hm
    omega
  · intro c hc
    obtain ⟨r, hr, hm⟩ := List.mem_flatMap.1 hc
    have := hv r hr
    unfold vR at this
    simp at hm
    omega
theorem nodup_len {α : Type} [BEq α] [LawfulBEq α] : ∀ {g l : List α}, g.Nodup → (∀ x ∈ g, x ∈ l) → g.length ≤ l.length
  | [], _, _, _ => by simp
  | x :: g, l, hn, h => by
    rw [List.nodup_cons] at hn
    have := nodup_len (g := g) (l := l.erase x) hn.2 fun y hy => (List.mem_erase_of_ne (fun e => hn.1 (by rw [← e]; exact hy))).2 (h y (List.mem_cons_of_mem _ hy))
    rw [List.length_erase_of_mem (h x List.mem_cons_self)] at this
    have hp := List.length_pos_of_mem (h x List.mem_cons_self)
    simp only [List.length_cons]; omega
theorem pairwise_le_len {g l : List Int} (hg : g.Pairwise fun x y => x < y) (h : ∀ x ∈ g, x ∈ l) : g.length ≤ l.length := by
  have hn : g.Nodup := hg.imp fun q => by omega
  exact nodup_len hn h
/-- the grid of rectangles -/
theorem has_of {xs ys : List Int} {lines l : List Rect} (hv : AllV lines) (hl : lines.length ≤ 400) (hx : IsGrid xs (xsL lines)) (hy : IsGrid ys (ysL lines)) (hs : ∀ r ∈ l, r ∈ lines) : Has xs ys l := by
  have w := lines_within hv
  have lx := pairwise_le_len hx.1 fun x m => (hx.2 x).1 m
  have ly := pairwise_le_len hy.1 fun x m => (hy.2 x).1 m
  rw [xsL_len] at lx
  rw [ysL_len] at ly
  refine ⟨⟨hx.1, fun x m => w.1 x ((hx.2 x).1 m), by omega⟩, ⟨hy.1, fun x m => w.2 x ((hy.2 x).1 m), by omega⟩, fun c hc => ?_, fun c hc => ?_, fun r hr => hv r (hs r hr)⟩
  · obtain ⟨r, hr, hm⟩ := List.mem_flatMap.1 hc
    exact (hx.2 c).2 (List.mem_flatMap.2 ⟨r, hs r hr, hm⟩)
  · obtain ⟨r, hr, hm⟩ := List.mem_flatMap.1 hc
    exact (hy.2 c).2 (List.mem_flatMap.2 ⟨r, hs r hr, hm⟩)
theorem grid_some {xs ys : List Int} {l : List Rect} (hx : IsGrid xs (xsL l)) (hy : IsGrid ys (ysL l)) : 2 ≤ xs.length → 1 ≤ ys.length := fun h => by
  cases l with
  | nil =>
    have : xs = [] := by
      cases xs with
      | nil => rfl
      | cons a t => exact absurd ((hx.2 a).1 List.mem_cons_self) (by simp [xsL])
    rw [this] at h; simp at h
  | cons r l =>
    have := (hy.2 r.Y).2 (ys_mem List.mem_cons_self).1
    cases ys with
    | nil => simp at this
    | cons => simp
def areaA (l : List Rect) : Int × Int := if codeL [l] = 0 then (area MM (cov l), 0) else (0, codeL [l])
theorem code_one {l : List Rect} : codeL [l] = 0 → l.length ≤ 48 ∧ AllV l := by
  unfold codeL
  simp only [List.any_cons, List.any_nil, Bool.or_false, List.all_cons, List.all_nil, Bool.and_true, decide_eq_true_eq]
  intro h
  split at h
  · cases h
  · split at h
    · rename_i q; exact ⟨by omega, validB_iff.1 q⟩
    · cases h
theorem Area_ok (l : List Rect) : geom_Area l = some (areaA l) := by
  unfold geom_Area areaA
  rw [rects_ok (by simp), Option.bind_some]
  by_cases hc : codeL [l] = 0
  case neg => simp [hc]
  obtain ⟨hl, hv⟩ := code_one hc
  obtain ⟨xs, ys, g1, g2, g3⟩ := newGrid_ok (lists := [l]) (by simp) (fun x hx => by simp at hx; subst hx; exact ⟨hv, by omega⟩)
  simp only [List.flatMap_cons, List.flatMap_nil, List.append_nil] at g2 g3
  have hH := has_of hv (by omega) g2 g3 (fun r hr => hr)
  simp only [hc, bne_self_eq_false, Bool.false_eq_true, if_false, if_true, g1, Option.bind_some, covered_ok hv (show l.length ≤ 1000 by omega) hH.X.len hH.Y.len (grid_some g2 g3), area_loop hH.X hH.Y, area_val hH]
end Go.SM
