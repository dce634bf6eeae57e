/- The laws GeomMeets and GeomMeetsMore, on the models. -/
import Derived.Test.YtiodkdpfkchkjaaHullEx
set_option linter.unusedVariables false
set_option linter.unusedSimpArgs false
set_option linter.unusedSectionVars false
namespace Go.SM
open Go Go.VI Go.Geo R3
theorem outside_ok {a b : Point} {l : List Point} (ha : pIn a = true) (hb : pIn b = true) (hl : Pts l) (hn : l.length ≤ 100000) : ∃ r, geom_outside a b l = some r ∧ (r = true ↔ ∀ z ∈ l, orR a b z ≤ 0) := by
  have := loop_all l (geom_outside_l1 a b l) (fun z => decide (orR a b z ≤ 0)) (.inl ()) (.inr ()) (fun k z hz => ?s) ?f
  case s =>
    have h1 := lt_of_get hz
    have hd : (k : Int) < (l.length : Int) := by omega
    unfold geom_outside_l1
    simp only [hd, decide_true, if_true, idx_of hz, Option.bind_some, (orient_eq a b z ha hb (hl z (List.mem_of_getElem? hz))).1, succ_cast k (by omega)]
    by_cases q : orR a b z ≤ 0
    · have q' : ¬ orR a b z > 0 := by omega
      simp [q, q']
    · have q' : orR a b z > 0 := by omega
      simp [q, q']
  case f => simp [geom_outside_l1]
  unfold geom_outside
  rw [this]
  refine ⟨l.all fun z => decide (orR a b z ≤ 0), by cases l.all (fun z => decide (orR a b z ≤ 0)) <;> rfl, ?_⟩
  rw [List.all_eq_true]
  simp only [decide_eq_true_eq]
theorem apart_ok {x y : List Point} (hx : Pts x) (hy : Pts y) (hxl : x.length ≤ 100000) (hyl : y.length ≤ 100000) : ∃ r, geom_apart x y = some r ∧ (r = true ↔ Apart x y) := by
  obtain ⟨r, r1, r2⟩ := loop_wf (fun s : Int => ((x.length : Int) - s).toNat) (fun s : Int => ∃ i : Nat, s = (i : Int) ∧ i ≤ x.length ∧ ∀ (j : Nat) u v, j < i → x[j]? = some u → x[(j + 1) % x.length]? = some v → v ≠ u → ¬ ∀ z ∈ y, orR u v z ≤ 0)
    (fun r : Unit ⊕ Unit => (r = .inl ()) ↔ Apart x y) (geom_apart_l1 x y) (by
      rintro s ⟨i, rfl, hi, hall⟩
      unfold geom_apart_l1
      by_cases hil : i < x.length
      · obtain ⟨u, v, hu, hv, t⟩ := corner_at hxl hil
        have hd : (i : Int) < (x.length : Int) := by omega
        have hnz : ((x.length : Int) != 0) = true := by rw [bne_iff_ne]; omega
        obtain ⟨b, b1, b2⟩ := outside_ok (hx u (List.mem_of_getElem? hu)) (hx v (List.mem_of_getElem? hv)) hy hyl
        simp only [hd, decide_true, if_true, hnz, t, idx_of hu, idx_of hv, Option.bind_some, b1]
        rw [show ((v.X.A == u.X.A) && ((v.X.B == u.X.B) && ((v.Y.A == u.Y.A) && ((v.Y.B == u.Y.B) && true)))) = eqP v u from rfl]
        have next : ∀ (q : v ≠ u → ¬ ∀ z ∈ y, orR u v z ≤ 0) (j : Nat) (a c : Point), j < i + 1 → x[j]? = some a → x[(j + 1) % x.length]? = some c → c ≠ a → ¬ ∀ z ∈ y, orR a c z ≤ 0 := fun q j a c hj ha hc => by
          by_cases e : j = i
          · subst e
            rw [hu] at ha
            rw [hv] at hc
            injection ha with ha
            injection hc with hc
            subst ha hc
            exact q
          · exact hall j a c (by omega) ha hc
        by_cases hvu : v = u
        · left
          have : eqP v u = true := (eqP_iff v u).2 hvu
          refine ⟨((i + 1 : Nat) : Int), by simp only [this, if_true, Option.bind_some, Bool.false_eq_true, if_false, succ_cast i (show (i : Int) < 9223372036854775807 by omega)], ⟨i + 1, rfl, by omega, next fun q => absurd hvu q⟩, by omega⟩
        · have : eqP v u = false := by
            cases h : eqP v u with
            | false => rfl
            | true => exact absurd ((eqP_iff v u).1 h) hvu
          cases b with
          | true =>
            right
            refine ⟨.inl (), by simp only [this, if_true, Option.bind_some, Bool.false_eq_true, if_false], ?_⟩
            exact ⟨fun _ => ⟨i, u, v, hu, hv, hvu, b2.1 rfl⟩, fun _ => rfl⟩
          | false =>
            left
            refine ⟨((i + 1 : Nat) : Int), by simp only [this, Option.bind_some, Bool.false_eq_true, if_false, succ_cast i (show (i : Int) < 9223372036854775807 by omega)], ⟨i + 1, rfl, by omega, next fun _ q => by have := b2.2 q; cases this⟩, by omega⟩
      · right
        have hd : ¬ (i : Int) < (x.length : Int) := by omega
        refine ⟨.inr (), by simp only [hd, decide_false, Bool.false_eq_true, if_false], ?_⟩
        constructor
        · intro e; cases e
        · rintro ⟨j, u, v, hu, hv, hne, hz⟩
          exact absurd hz (hall j u v (by have := lt_of_get hu; omega) hu hv hne)) 0 ⟨0, rfl, by omega, fun j _ _ hj => absurd hj (by omega)⟩
  unfold geom_apart
  rw [r1]
  rcases r with r | r
  · exact ⟨true, rfl, ⟨fun _ => r2.1 rfl, fun _ => rfl⟩⟩
  · exact ⟨false, rfl, ⟨(fun e => by cases e), (fun e => by have := r2.2 e; cases this)⟩⟩
theorem pcode_cases (l : List Point) : (pcode l = 1 ∧ (l.length = 0 ∨ l.length > 24)) ∨ (pcode l = 4 ∧ ¬ (l.length = 0 ∨ l.length > 24) ∧ l.all pIn = false) ∨ (pcode l = 0 ∧ ¬ (l.length = 0 ∨ l.length > 24) ∧ l.all pIn = true) := by
  unfold pcode
  by_cases h : l.length = 0 ∨ l.length > 24
  · left; exact ⟨if_pos h, h⟩
  · right
    rw [if_neg h]
    cases q : l.all pIn
    · exact .inl ⟨rfl, h, rfl⟩
    · exact .inr ⟨rfl, h, rfl⟩
/-- what an answer says when nothing is amiss -/
def Good (a b : List Point) (g : Bool × Int) : Prop := ∃ x y, IsHull orR ltQ a x ∧ IsHull orR ltQ b y ∧ ((y.length < 3 ∧ g = (false, 6)) ∨ (3 ≤ y.length ∧ g.2 = 0 ∧ (g.1 = true ↔ ¬ Sep a b)))
def MAns (a b : List Point) (g : Bool × Int) : Prop :=
  ((pcode a = 1 ∨ pcode b = 1) ∧ g = (false, 1)) ∨ (¬ (pcode a = 1 ∨ pcode b = 1) ∧ (pcode a ≠ 0 ∨ pcode b ≠ 0) ∧ g = (false, 4)) ∨ (pcode a = 0 ∧ pcode b = 0 ∧ Good a b g)
theorem mans_one {a b : List Point} {g g' : Bool × Int} (h : MAns a b g) (h' : MAns a b g') : g = g' := by
  rcases h with ⟨h1, rfl⟩ | ⟨h1, h2, rfl⟩ | ⟨h1, h2, x, y, hx, hy, h3⟩ <;> rcases h' with ⟨k1, rfl⟩ | ⟨k1, k2, rfl⟩ | ⟨k1, k2, x', y', hx', hy', k3⟩
  any_goals rfl
  any_goals omega
  have e1 := hull_unique planeP hy hy'
  subst e1
  rcases h3 with ⟨h3, rfl⟩ | ⟨h3, h4, h5⟩ <;> rcases k3 with ⟨k3, rfl⟩ | ⟨k3, k4, k5⟩
  any_goals rfl
  any_goals omega
  obtain ⟨g1, g2⟩ := g
  obtain ⟨g1', g2'⟩ := g'
  simp only at h4 h5 k4 k5
  rw [h4, k4]
  have : g1 = g1' := by rw [Bool.eq_iff_iff, h5, k5]
  rw [this]
theorem Meets_ok (a b : List Point) : ∃ g, geom_Meets a b = some g ∧ MAns a b g := by
  unfold geom_Meets
  simp only [points_ok, Option.bind_some]
  rcases pcode_cases a with ⟨ha, _⟩ | ⟨ha, _, _⟩ | ⟨ha, _, _⟩
  · exact ⟨(false, 1), by simp [ha], .inl ⟨.inl ha, rfl⟩⟩
  · rcases pcode_cases b with ⟨hb, _⟩ | ⟨hb, _, _⟩ | ⟨hb, _, _⟩
    · exact ⟨(false, 1), by simp [ha, hb], .inl ⟨.inr hb, rfl⟩⟩
    · exact ⟨(false, 4), by simp [ha, hb], .inr (.inl ⟨by omega, by omega, rfl⟩)⟩
    · exact ⟨(false, 4), by simp [ha, hb], .inr (.inl ⟨by omega, by omega, rfl⟩)⟩
  · rcases pcode_cases b with ⟨hb, _⟩ | ⟨hb, _, _⟩ | ⟨hb, _, _⟩
    · exact ⟨(false, 1), by simp [ha, hb], .inl ⟨.inr hb, rfl⟩⟩
    · exact ⟨(false, 4), by simp [ha, hb], .inr (.inl ⟨by omega, by omega, rfl⟩)⟩
    · obtain ⟨a1, a2, a3⟩ := pcode_zero ha
      obtain ⟨b1, b2, b3⟩ := pcode_zero hb
      obtain ⟨x, x1, hx⟩ := hull_ok a3 (by omega) a1
      obtain ⟨y, y1, hy⟩ := hull_ok b3 (by omega) b1
      have px : Pts x := fun p hp => a3 p (hx.sub p hp)
      have py : Pts y := fun p hp => b3 p (hy.sub p hp)
      have lx := hull_len hx
      have ly := hull_len hy
      simp only [ha, hb, x1, y1, Option.bind_some]
      by_cases h3 : y.length < 3
      · have : (y.length : Int) < 3 := by omega
        exact ⟨(false, 6), by simp [this], .inr (.inr ⟨ha, hb, x, y, hx, hy, .inl ⟨h3, rfl⟩⟩)⟩
      · have h3' : ¬ (y.length : Int) < 3 := by omega
        obtain ⟨r, r1, r2⟩ := apart_ok py px (by omega) (by omega)
        obtain ⟨s, s1, s2⟩ := apart_ok px py (by omega) (by omega)
        obtain ⟨hD, hh⟩ : ∃ h, IsHull orR ltQ (dL x y) h := hull_exists fun e => by
          have := congrArg List.length e
          rw [dL_len] at this
          obtain ⟨m, m1, _⟩ := hx.min
          have h0 := (List.getElem?_eq_some_iff.1 m1).1
          have := Nat.mul_pos h0 (show 0 < y.length by omega)
          simp at *; omega
        have key : (r = false ∧ s = false) ↔ ¬ Sep a b := by
          rw [← sep_points hx hy]
          constructor
          · rintro ⟨rfl, rfl⟩ q
            rcases sep_apart hx hy hh (by omega) q with t | t
            · have := s2.2 t; cases this
            · have := r2.2 t; cases this
          · intro q
            constructor
            · cases h : r with
              | false => rfl
              | true => exact absurd (sep_comm (apart_sep1 (hull_self hy) (r2.1 h))) (fun t => q t)
            · cases h : s with
              | false => rfl
              | true => exact absurd (apart_sep1 (hull_self hx) (s2.1 h)) q
        refine ⟨(!r && !s, 0), ?_, .inr (.inr ⟨ha, hb, x, y, hx, hy, .inr ⟨by omega, rfl, ?_⟩⟩)⟩
        · simp only [h3', r1, s1, Option.bind_some]
          cases r <;> cases s <;> rfl
        · rw [← key]; simp
theorem pointsIn_ok (l : List Point) : sheetmetalref01_pointsIn l = some (if l.length = 0 ∨ l.length > 24 then 1 else 0) := by
  unfold sheetmetalref01_pointsIn
  by_cases h0 : l.length = 0
  · simp [h0]
  have h0' : ((l.length : Int) == 0) = false := by simp; intro e; exact h0 (by rw [e]; rfl)
  simp only [h0', Bool.false_eq_true, if_false, Option.bind_some]
  by_cases h1 : l.length > 24
  · have : (l.length : Int) > 24 := by omega
    simp [h1, this]
  · have : ¬ (l.length : Int) > 24 := by omega
    simp [h0, h1, this]
theorem allSmall_ok {l : List Point} (hl : l.length ≤ 24) : sheetmetalref01_allSmall l = some (l.all pIn) := by
  unfold sheetmetalref01_allSmall
  rw [loop_all l (sheetmetalref01_allSmall_l1 l) pIn (.inl ()) (.inr ()) (fun k x hx => ?s) ?f]
  · cases l.all pIn <;> rfl
  case s =>
    have h1 := lt_of_get hx
    unfold sheetmetalref01_allSmall_l1
    rw [if_pos (by simp; omega), idx_of hx]
    simp only [Option.bind_some, pointIn_eq, succ_cast k (by omega)]
    cases pIn x <;> rfl
  case f => simp [sheetmetalref01_allSmall_l1]
theorem rMeets_ok (a b : List Point) : ∃ g, sheetmetalref01_Meets a b = some g ∧ MAns a b g := by
  unfold sheetmetalref01_Meets
  simp only [pointsIn_ok, Option.bind_some]
  rcases pcode_cases a with ⟨ha, la⟩ | ⟨ha, la, sa⟩ | ⟨ha, la, sa⟩
  · exact ⟨(false, 1), by rw [if_pos la]; simp, .inl ⟨.inl ha, rfl⟩⟩
  · rcases pcode_cases b with ⟨hb, lb⟩ | ⟨hb, lb, sb⟩ | ⟨hb, lb, sb⟩
    · exact ⟨(false, 1), by rw [if_neg la, if_pos lb]; simp, .inl ⟨.inr hb, rfl⟩⟩
    · exact ⟨(false, 4), by rw [if_neg la, if_neg lb, allSmall_ok (by omega), sa]; simp, .inr (.inl ⟨by omega, by omega, rfl⟩)⟩
    · exact ⟨(false, 4), by rw [if_neg la, if_neg lb, allSmall_ok (by omega), sa]; simp, .inr (.inl ⟨by omega, by omega, rfl⟩)⟩
  · rcases pcode_cases b with ⟨hb, lb⟩ | ⟨hb, lb, sb⟩ | ⟨hb, lb, sb⟩
    · exact ⟨(false, 1), by rw [if_neg la, if_pos lb]; simp, .inl ⟨.inr hb, rfl⟩⟩
    · exact ⟨(false, 4), by rw [if_neg la, if_neg lb, allSmall_ok (show a.length ≤ 24 by omega), allSmall_ok (show b.length ≤ 24 by omega), sa, sb]; simp, .inr (.inl ⟨by omega, by omega, rfl⟩)⟩
    · obtain ⟨a1, a2, a3⟩ := pcode_zero ha
      obtain ⟨b1, b2, b3⟩ := pcode_zero hb
      obtain ⟨x, hx⟩ := hull_exists a1
      obtain ⟨y, hy⟩ := hull_exists b1
      rw [if_neg la, if_neg lb, allSmall_ok a2, allSmall_ok b2, sa, sb]
      simp only [wrap_ok (fit_pts b3 (by omega)) hy, Option.bind_some]
      by_cases h3 : y.length < 3
      · have : (y.length : Int) < 3 := by omega
        exact ⟨(false, 6), by simp [this], .inr (.inr ⟨ha, hb, x, y, hx, hy, .inl ⟨h3, rfl⟩⟩)⟩
      · have h3' : ¬ (y.length : Int) < 3 := by omega
        obtain ⟨r, r1, r2⟩ := rmeets_ok a3 b3 a2 b2 hx hy
        exact ⟨(r, 0), by simp [h3', r1], .inr (.inr ⟨ha, hb, x, y, hx, hy, .inr ⟨by omega, rfl, r2⟩⟩)⟩
theorem law_GeomMeets (a b : List Point) : sheetmetallaw01_GeomMeets a b = some true := by
  obtain ⟨g, g1, g2⟩ := Meets_ok a b
  obtain ⟨h, h1, h2⟩ := rMeets_ok a b
  have e := mans_one g2 h2
  subst e
  unfold sheetmetallaw01_GeomMeets sheetmetallaw01_long
  simp only [Option.bind_some, known_eq, g1, h1, beq_self_eq_true, if_true]
  by_cases q1 : (a.length : Int) > 60
  · simp [q1]
  · by_cases q2 : (b.length : Int) > 60 <;> simp [q1, q2]
theorem sep_more {a b : List Point} {p : Point} (h : Sep (a ++ [p]) b) : Sep a b ∧ Sep [p] b := by
  obtain ⟨e, he, h⟩ := h
  exact ⟨⟨e, he, fun x hx => h x (List.mem_append_left _ hx)⟩, ⟨e, he, fun x hx => h x (List.mem_append_right _ hx)⟩⟩
/-- an answer with no code -/
theorem mans_zero {a b : List Point} {g : Bool × Int} (h : MAns a b g) (hz : g.2 = 0) : pcode a = 0 ∧ pcode b = 0 ∧ (∃ x y, IsHull orR ltQ a x ∧ IsHull orR ltQ b y ∧ 3 ≤ y.length) ∧ (g.1 = true ↔ ¬ Sep a b) := by
  rcases h with ⟨_, rfl⟩ | ⟨_, _, rfl⟩ | ⟨h1, h2, x, y, hx, hy, ⟨_, rfl⟩ | ⟨h3, h4, h5⟩⟩
  · simp at hz
  · simp at hz
  · simp at hz
  · exact ⟨h1, h2, ⟨x, y, hx, hy, h3⟩, h5⟩
theorem mans_false {a b : List Point} {g : Bool × Int} (h : MAns a b g) (hz : g.2 ≠ 0) : g.1 = false := by
  rcases h with ⟨_, rfl⟩ | ⟨_, _, rfl⟩ | ⟨h1, h2, x, y, hx, hy, ⟨_, rfl⟩ | ⟨h3, h4, h5⟩⟩
  · rfl
  · rfl
  · rfl
  · exact absurd h4 hz
theorem mans_good {a b : List Point} {g : Bool × Int} (h : MAns a b g) (ha : pcode a = 0) (hb : pcode b = 0) {y : List Point} (hy : IsHull orR ltQ b y) (h3 : 3 ≤ y.length) : g.2 = 0 ∧ (g.1 = true ↔ ¬ Sep a b) := by
  rcases h with ⟨h, _⟩ | ⟨_, h, _⟩ | ⟨h1, h2, x, y', hx, hy', ⟨h4, rfl⟩ | ⟨_, h4, h5⟩⟩
  · omega
  · omega
  · have := hull_unique planeP hy hy'
    subst this
    omega
  · exact ⟨h4, h5⟩
theorem law_GeomMeetsMore (a b : List Point) (p : Point) : sheetmetallaw01_GeomMeetsMore a b p = some true := by
  unfold sheetmetallaw01_GeomMeetsMore sheetmetallaw01_long
  simp only [Option.bind_some, known_eq]
  by_cases q1 : (a.length : Int) > 60
  · simp [q1]
  by_cases q2 : (b.length : Int) > 60
  · simp [q1, q2]
  obtain ⟨g, g1, g2⟩ := Meets_ok a b
  simp only [q1, q2, decide_false, Bool.false_eq_true, if_false, Option.bind_some, g1]
  by_cases hz : g.2 = 0
  · obtain ⟨pa, pb, ⟨x, y, hx, hy, h3⟩, hs⟩ := mans_zero g2 hz
    obtain ⟨a1, a2, a3⟩ := pcode_zero pa
    obtain ⟨b1, b2, b3⟩ := pcode_zero pb
    have hH : geom_Hull a = some (x, 0) := by
      rcases Hull_ok a with ⟨hc', _⟩ | ⟨_, h', q', hh'⟩
      · exact absurd pa hc'
      · rw [q', hull_unique planeP hh' hx]
    have lx := hull_len hx
    have px : pcode x = 0 := by
      obtain ⟨m, m1, _⟩ := hx.min
      have h0 := (List.getElem?_eq_some_iff.1 m1).1
      unfold pcode
      rw [if_neg (by omega), if_pos (List.all_eq_true.2 fun r hr => a3 r (hx.sub r hr))]
    obtain ⟨k, k1, k2⟩ := Meets_ok x b
    obtain ⟨k3, k4⟩ := mans_good k2 px pb hy h3
    have ek : g.1 = k.1 := by
      rw [Bool.eq_iff_iff, hs, k4, ← sep_points (hull_self hx) hy, ← sep_points hx hy]
    have n1 : (g.2 != 0) = false := by simp [hz]
    have n2 : (k.2 != 0) = false := by simp [k3]
    obtain ⟨c, c1, c2⟩ := Meets_ok b a
    have ec : (if (c.2 == 0) then (some (!(c.1 == g.1))) else (some false)) = some false := by
      by_cases hc : c.2 = 0
      · obtain ⟨_, _, _, hc'⟩ := mans_zero c2 hc
        have : c.1 = g.1 := by
          rw [Bool.eq_iff_iff, hc', hs]
          exact ⟨fun q t => q (sep_comm t), fun q t => q (sep_comm t)⟩
        simp [hc, this]
      · have : (c.2 == 0) = false := by simp [hc]
        simp [this]
    obtain ⟨d, d1, d2⟩ := Meets_ok (a ++ [p]) b
    have ed : (if (d.2 == 0) then (if g.1 then (some (!d.1)) else (some false)) else (some false)) = some false := by
      by_cases hd : d.2 = 0
      · obtain ⟨_, _, _, hd'⟩ := mans_zero d2 hd
        cases hg : g.1 with
        | false => simp
        | true =>
          have : d.1 = true := hd'.2 fun t => hs.1 hg (sep_more t).1
          simp [this]
      · have : (d.2 == 0) = false := by simp [hd]
        simp [this]
    obtain ⟨f, f1, f2⟩ := Meets_ok [p] b
    simp only [n1, Bool.false_eq_true, if_false, hH, Option.bind_some, k1, n2, ek, beq_self_eq_true, Bool.not_true, bne_self_eq_false]
    rw [← ek]
    have ap : app a [p] = some (a ++ [p]) := app_eq (by simp [LIM]; omega)
    simp only [c1, Option.bind_some, ec, copyPoints_ok (show a.length ≤ 1000 by omega), ap, d1, ed, f1, Bool.false_eq_true, if_false]
    by_cases hf : f.2 = 0
    · have hf' : (f.2 != 0) = false := by simp [hf]
      simp only [hf', Bool.false_eq_true, if_false]
      cases hf1 : f.1 with
      | false => simp
      | true =>
        simp only [if_true]
        by_cases hl : (a.length : Int) ≥ 24
        · cases d.1 <;> simp [hl]
        · obtain ⟨pp, _, _, hff⟩ := mans_zero f2 hf
          obtain ⟨_, _, pp3⟩ := pcode_zero pp
          have pd : pcode (a ++ [p]) = 0 := by
            unfold pcode
            have hlen : (a ++ [p]).length = a.length + 1 := by simp
            rw [hlen, if_neg (by omega), if_pos (List.all_eq_true.2 fun r hr => ?_)]
            rcases List.mem_append.1 hr with hr | hr
            · exact a3 r hr
            · exact pp3 r hr
          have hd := (mans_good d2 pd pb hy h3).2.2 fun t => hff.1 hf1 (sep_more t).2
          simp [hd]
    · have hf' : (f.2 != 0) = true := by simp [hf]
      simp [hf']
  · have := mans_false g2 hz
    have hz' : (g.2 != 0) = true := by simp [hz]
    simp [hz', this]
end Go.SM
