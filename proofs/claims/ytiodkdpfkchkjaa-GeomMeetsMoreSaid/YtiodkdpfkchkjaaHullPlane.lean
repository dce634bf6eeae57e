/- The plane of points with exact coordinates. -/
import Derived.Test.YtiodkdpfkchkjaaHull
import Derived.Test.YtiodkdpfkchkjaaGeomP
import Derived.Test.YtiodkdpfkchkjaaGeMH
import Derived.Test.YtiodkdpfkchkjaaSortBase
set_option linter.unusedVariables false
set_option linter.unusedSimpArgs false
set_option linter.unusedSectionVars false
namespace Go.Geo
namespace R3
theorem add_comm' (x y : R3) : x + y = y + x := by ext <;> simp <;> omega
theorem sg_add_nn {x y : R3} (hx : 0 ≤ sg x) (hy : 0 ≤ sg y) : 0 ≤ sg (x + y) := by
  rw [sg_nn] at *; exact nn_add hx hy
theorem sg_add_pos {x y : R3} (hx : sg x = 1) (hy : 0 ≤ sg y) : sg (x + y) = 1 := by
  have h := sg_add_nn (x := x) (y := y) (by omega) hy
  have h1 := sg_le_one (x + y)
  rcases Int.lt_or_le (sg (x + y)) 1 with q | q
  · exfalso
    have h0 := sg_eq_zero.1 (show sg (x + y) = 0 by omega)
    have e : x = -y := by
      have ha : (x + y).a = 0 := by rw [h0]; rfl
      have hb : (x + y).b = 0 := by rw [h0]; rfl
      simp at ha hb
      ext <;> simp <;> omega
    rw [e, sg_neg] at hx
    omega
  · omega
def lexp (u v : R3) : Prop := sg u = 1 ∨ (u = 0 ∧ sg v = 1)
def cross (a b c d : R3) : R3 := a * d - b * c
theorem zero_mul' (x : R3) : 0 * x = 0 := by ext <;> simp
theorem mul_zero' (x : R3) : x * 0 = 0 := by ext <;> simp
theorem cross_T {a b c d e f : R3} (h1 : lexp a b) (h2 : lexp c d) (h3 : lexp e f) (p : 0 ≤ sg (cross a b c d)) (q : 0 ≤ sg (cross c d e f)) :
    0 ≤ sg (cross a b e f) ∧ ((sg (cross a b c d) = 1 ∨ sg (cross c d e f) = 1) → sg (cross a b e f) = 1) := by
  have id1 : c * cross a b e f = a * cross c d e f + e * cross a b c d := by unfold cross; ext <;> simp <;> grind
  have na : 0 ≤ sg a := by rcases h1 with h | ⟨h, _⟩ <;> first | omega | (rw [h, sg_zero]; omega)
  have ne : 0 ≤ sg e := by rcases h3 with h | ⟨h, _⟩ <;> first | omega | (rw [h, sg_zero]; omega)
  have m1 : 0 ≤ sg (a * cross c d e f) := by rw [sg_mul]; exact Int.mul_nonneg na q
  have m2 : 0 ≤ sg (e * cross a b c d) := by rw [sg_mul]; exact Int.mul_nonneg ne p
  rcases h2 with hc | ⟨rfl, hd⟩
  · have e1 : sg (cross a b e f) = sg (a * cross c d e f + e * cross a b c d) := by rw [← id1, sg_mul, hc]; omega
    refine ⟨by rw [e1]; exact sg_add_nn m1 m2, fun hs => ?_⟩
    rcases hs with hs | hs
    · rcases h3 with h | ⟨h, h'⟩
      · rw [e1, add_comm']
        exact sg_add_pos (by rw [sg_mul, h, hs]; rfl) m1
      · -- e = 0
        have ha : sg a = 1 := by
          rcases h1 with g | ⟨g, g'⟩
          · exact g
          · exfalso
            have : cross a b c d = -(b * c) := by subst g; unfold cross; ext <;> simp
            rw [this, sg_neg, sg_mul, g', hc] at hs; omega
        have : cross a b e f = a * f := by subst h; unfold cross; ext <;> simp
        rw [this, sg_mul, ha, h']; rfl
    · have ha : sg a = 1 := by
        rcases h1 with g | ⟨g, g'⟩
        · exact g
        · exfalso
          have : cross a b c d = -(b * c) := by subst g; unfold cross; ext <;> simp
          rw [this, sg_neg, sg_mul, g', hc] at p; omega
      rw [e1]
      exact sg_add_pos (by rw [sg_mul, ha, hs]; rfl) m2
  · have q' : cross 0 d e f = -(d * e) := by unfold cross; ext <;> simp
    rw [q', sg_neg, sg_mul, hd] at q
    have he : e = 0 := sg_eq_zero.1 (by omega)
    subst he
    have hf : sg f = 1 := by
      rcases h3 with h | ⟨_, h⟩
      · rw [sg_zero] at h; omega
      · exact h
    have c1 : cross a b 0 f = a * f := by unfold cross; ext <;> simp
    have c2 : cross a b 0 d = a * d := by unfold cross; ext <;> simp
    have c3 : cross 0 d 0 f = 0 := by unfold cross; ext <;> simp
    rw [c1, c2, c3, sg_mul, sg_mul, hf, hd, sg_zero]
    rw [c2, sg_mul, hd] at p
    omega
theorem lexp_add {a b c d : R3} (h1 : lexp a b) (h2 : lexp c d) : lexp (a + c) (b + d) := by
  rcases h1 with h | ⟨rfl, h⟩
  · left
    rcases h2 with g | ⟨rfl, g⟩
    · exact sg_add_pos h (by omega)
    · exact sg_add_pos h (by rw [sg_zero]; omega)
  · rcases h2 with g | ⟨rfl, g⟩
    · left
      rw [add_comm']
      exact sg_add_pos g (by rw [sg_zero]; omega)
    · right
      exact ⟨by ext <;> simp, sg_add_pos h (by omega)⟩
theorem not_lexp_neg {a b : R3} (h : lexp a b) : ¬ lexp (-a) (-b) := by
  rintro (g | ⟨g, g'⟩)
  · rw [sg_neg] at g
    rcases h with h | ⟨h, _⟩
    · omega
    · rw [h, sg_zero] at g; omega
  · rw [sg_neg] at g'
    rcases h with h | ⟨_, h⟩
    · have : sg (-a) = 0 := by rw [g]; exact sg_zero
      rw [sg_neg] at this; omega
    · omega
theorem lexp_tri (a b : R3) : (a = 0 ∧ b = 0) ∨ lexp a b ∨ lexp (-a) (-b) := by
  rcases sg_cases a with ⟨_, h⟩ | ⟨h, _⟩ | ⟨h, _⟩
  · subst h
    rcases sg_cases b with ⟨_, g⟩ | ⟨g, _⟩ | ⟨g, _⟩
    · exact .inl ⟨rfl, g⟩
    · exact .inr (.inl (.inr ⟨rfl, g⟩))
    · exact .inr (.inr (.inr ⟨neg_zero', by rw [sg_neg]; omega⟩))
  · exact .inr (.inl (.inl h))
  · exact .inr (.inr (.inl (by rw [sg_neg]; omega)))
end R3
end Go.Geo
namespace Go.SM
open Go Go.VI Go.Geo R3
def vx (a b : Point) : R3 := rt b.X - rt a.X
def vy (a b : Point) : R3 := rt b.Y - rt a.Y
def ltQ (a b : Point) : Prop := lexp (vx a b) (vy a b)
theorem rt_inj {a b : Root} (h : rt a = rt b) : a = b := by
  cases a; cases b
  unfold rt at h
  injection h with h1 h2
  simp only at h1 h2
  rw [h1, h2]
theorem point_ext {a b : Point} (h1 : rt a.X = rt b.X) (h2 : rt a.Y = rt b.Y) : a = b := by
  have e1 := rt_inj h1
  have e2 := rt_inj h2
  cases a; cases b
  simp only at e1 e2
  rw [e1, e2]
theorem vneg (a b : Point) : vx b a = -vx a b ∧ vy b a = -vy a b := by
  constructor
  · unfold vx; ext <;> simp <;> omega
  · unfold vy; ext <;> simp <;> omega
theorem vadd (a b c : Point) : vx a c = vx a b + vx b c ∧ vy a c = vy a b + vy b c := by
  constructor
  · unfold vx; ext <;> simp <;> omega
  · unfold vy; ext <;> simp <;> omega
theorem det1 (a b c : Point) : det a b c = cross (vx a b) (vy a b) (vx a c) (vy a c) := by unfold det cross vx vy; rfl
theorem det2 (a b c : Point) : det a b c = cross (vx a b) (vy a b) (vx b c) (vy b c) := by unfold det cross vx vy; ext <;> simp <;> grind
theorem det3 (a b c : Point) : det a b c = cross (vx c b) (vy c b) (vx a b) (vy a b) := by unfold det cross vx vy; ext <;> simp <;> grind
theorem det4 (a b c : Point) : det a b c = cross (vx c a) (vy c a) (vx a b) (vy a b) := by unfold det cross vx vy; ext <;> simp <;> grind
theorem det5 (a b c : Point) : det a b c = cross (vx b a) (vy b a) (vx c a) (vy c a) := by unfold det cross vx vy; ext <;> simp <;> grind
theorem det6 (a b c : Point) : det a b c = cross (vx b a) (vy b a) (vx c b) (vy c b) := by unfold det cross vx vy; ext <;> simp <;> grind
theorem det7 (a b c : Point) : det a b c = cross (vx b c) (vy b c) (vx b a) (vy b a) := by unfold det cross vx vy; ext <;> simp <;> grind
theorem det8 (a b c : Point) : det a b c = cross (vx a c) (vy a c) (vx b a) (vy b a) := by unfold det cross vx vy; ext <;> simp <;> grind
theorem ltQ_tri (a b : Point) : a = b ∨ ltQ a b ∨ ltQ b a := by
  unfold ltQ
  rcases lexp_tri (vx a b) (vy a b) with ⟨h1, h2⟩ | h | h
  · left
    refine point_ext ?_ ?_
    · have ha := congrArg R3.a h1
      have hb := congrArg R3.b h1
      unfold vx at ha hb; simp at ha hb
      ext <;> omega
    · have ha := congrArg R3.a h2
      have hb := congrArg R3.b h2
      unfold vy at ha hb; simp at ha hb
      ext <;> omega
  · exact .inr (.inl h)
  · right; right; rw [(vneg a b).1, (vneg a b).2]; exact h
theorem ltQ_irr (a : Point) : ¬ ltQ a a := fun h => by
  have := not_lexp_neg h
  rw [← (vneg a a).1, ← (vneg a a).2] at this
  exact this h
theorem ltQ_trans {a b c : Point} (h1 : ltQ a b) (h2 : ltQ b c) : ltQ a c := by
  unfold ltQ at *
  rw [(vadd a b c).1, (vadd a b c).2]
  exact lexp_add h1 h2
theorem planeP : Plane orR ltQ := by
  refine ⟨orR_rot, orR_swap, ltQ_irr, fun a b c => ltQ_trans, ltQ_tri, fun a p q r h1 h2 h3 h4 h5 => ?_, fun a b c d h1 h2 h3 h4 h5 => ?_, fun z a p r h1 h2 h3 h4 h5 => ?_⟩
  · unfold orR at *
    rw [det1] at *
    exact (cross_T h1 h2 h3 h4 h5).1
  · unfold orR at *
    rw [det2] at h4
    rw [det1] at h5
    rw [det2]
    have := sg_le_one (cross (vx a b) (vy a b) (vx b c) (vy b c))
    have := (cross_T h1 h2 h3 (by omega) h5).2 (.inl (by omega))
    omega
  · unfold orR at *
    rw [det2] at h4
    rw [det3] at h5
    rw [det4]
    have := sg_le_one (cross (vx z a) (vy z a) (vx a p) (vy a p))
    have := (cross_T h3 h1 h2 h5 (by omega)).2 (.inr (by omega))
    omega
theorem planeN : Plane orR fun a b => ltQ b a := by
  refine ⟨orR_rot, orR_swap, ltQ_irr, fun a b c h1 h2 => ltQ_trans h2 h1, fun a b => (ltQ_tri a b).elim .inl fun q => .inr q.symm, fun a p q r h1 h2 h3 h4 h5 => ?_, fun a b c d h1 h2 h3 h4 h5 => ?_, fun z a p r h1 h2 h3 h4 h5 => ?_⟩
  · unfold orR at *
    rw [det5] at *
    exact (cross_T h1 h2 h3 h4 h5).1
  · unfold orR at *
    rw [det6] at h4
    rw [det5] at h5
    rw [det6]
    have := sg_le_one (cross (vx b a) (vy b a) (vx c b) (vy c b))
    have := (cross_T h1 h2 h3 (by omega) h5).2 (.inl (by omega))
    omega
  · unfold orR at *
    rw [det6] at h4
    rw [det7] at h5
    rw [det8]
    have := sg_le_one (cross (vx a z) (vy a z) (vx p a) (vy p a))
    have := (cross_T h3 h1 h2 h5 (by omega)).2 (.inr (by omega))
    omega
/-- the comparison of points -/
noncomputable def cmpP (a b : Point) : Int := if sg (rt a.X - rt b.X) ≠ 0 then sg (rt a.X - rt b.X) else sg (rt a.Y - rt b.Y)
theorem cmpP_lt {a b : Point} : cmpP a b < 0 ↔ ltQ a b := by
  have e1 : rt a.X - rt b.X = -vx a b := by unfold vx; ext <;> simp <;> omega
  have e2 : rt a.Y - rt b.Y = -vy a b := by unfold vy; ext <;> simp <;> omega
  unfold cmpP ltQ lexp
  rw [e1, e2, sg_neg, sg_neg]
  have h1 := sg_le_one (vx a b)
  have h2 := sg_le_one (vy a b)
  by_cases h : sg (vx a b) = 0
  · have h0 := sg_eq_zero.1 h
    rw [if_neg (by omega), h, h0]; simp; omega
  · have h0 : vx a b ≠ 0 := fun e => h (by rw [e]; exact sg_zero)
    rw [if_pos (by omega)]
    constructor
    · intro q; left; omega
    · rintro (q | ⟨q, _⟩)
      · omega
      · exact absurd q h0
theorem cmpP_neg (a b : Point) : cmpP b a = -cmpP a b := by
  have e1 : rt b.X - rt a.X = -(rt a.X - rt b.X) := by ext <;> simp <;> omega
  have e2 : rt b.Y - rt a.Y = -(rt a.Y - rt b.Y) := by ext <;> simp <;> omega
  unfold cmpP
  rw [e1, e2, sg_neg, sg_neg]
  by_cases h : sg (rt a.X - rt b.X) = 0
  · rw [if_neg (by omega), if_neg (by omega)]
  · rw [if_pos (by omega), if_pos h]
theorem cmpP_zero {a b : Point} : cmpP a b = 0 ↔ a = b := by
  constructor
  · intro h
    rcases ltQ_tri a b with q | q | q
    · exact q
    · have := cmpP_lt.2 q; omega
    · have := cmpP_lt.2 q; rw [cmpP_neg] at this; omega
  · rintro rfl
    have := cmpP_neg a a
    omega
theorem comparePoints_eq {a b : Point} {m : Int} (hm : m ≤ 100000000) (ha : rIn m a.X = true ∧ rIn m a.Y = true) (hb : rIn m b.X = true ∧ rIn m b.Y = true) : geom_comparePoints a b = some (cmpP a b) := by
  obtain ⟨u1, _, w1⟩ := minus_eq (by omega) ha.1 hb.1
  obtain ⟨u2, _, w2⟩ := minus_eq (by omega) ha.2 hb.2
  unfold geom_comparePoints cmpP
  simp only [u1, u2, Option.bind_some, signOf_eq _ (rIn_mono (n := 1000000000) (by omega) w1), signOf_eq _ (rIn_mono (n := 1000000000) (by omega) w2), rt_minus]
  by_cases h : sg (rt a.X - rt b.X) = 0
  · simp [h]
  · simp [h]
end Go.SM
