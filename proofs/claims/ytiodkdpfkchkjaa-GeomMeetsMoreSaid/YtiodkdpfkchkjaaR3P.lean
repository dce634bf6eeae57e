/- The ring of the numbers a + b times the root of three, and its order. -/
set_option linter.unusedVariables false
set_option linter.unusedSimpArgs false
set_option linter.unusedSectionVars false
namespace Go.Geo
theorem sq_nn (a : Int) : 0 ≤ a * a := by
  rcases Int.le_total 0 a with h | h
  · exact Int.mul_nonneg h h
  · exact Int.mul_nonneg_of_nonpos_of_nonpos h h
/-- from the squares to the numbers -/
theorem le_of_sq {x y : Int} (hy : 0 ≤ y) (h : x * x ≤ y * y) : x ≤ y := by
  rcases Int.lt_or_le y x with hlt | hle
  · have := Int.mul_self_lt_mul_self hy hlt; omega
  · exact hle
theorem neg_le_of_sq {x y : Int} (hy : 0 ≤ y) (h : x * x ≤ y * y) : -x ≤ y :=
  le_of_sq hy (by rw [Int.neg_mul_neg]; exact h)
theorem cs {a b c d : Int} (ha : 0 ≤ a) (hc : 0 ≤ c) (h1 : 3*(b*b) ≤ a*a) (h2 : 3*(d*d) ≤ c*c) : 3*(b*d) ≤ a*c ∧ -(3*(b*d)) ≤ a*c := by
  have hac := Int.mul_nonneg ha hc
  have hb : 0 ≤ 3*(b*b) := by have := sq_nn b; omega
  have hd : 0 ≤ 3*(d*d) := by have := sq_nn d; omega
  have h := Int.mul_le_mul h1 h2 hd (Int.le_trans hb h1)
  have e : (3*(b*b))*(3*(d*d)) = (3*(b*d))*(3*(b*d)) := by grind
  have e2 : a*a*(c*c) = (a*c)*(a*c) := by grind
  rw [e, e2] at h
  exact ⟨le_of_sq hac h, neg_le_of_sq hac h⟩
/-- with both on the side of the root -/
theorem cs' {a b c d : Int} (hb : 0 ≤ b) (hd : 0 ≤ d) (h1 : a*a ≤ 3*(b*b)) (h2 : c*c ≤ 3*(d*d)) : a*c ≤ 3*(b*d) ∧ -(a*c) ≤ 3*(b*d) := by
  have hbd := Int.mul_nonneg hb hd
  have h := Int.mul_le_mul h1 h2 (sq_nn c) (Int.le_trans (sq_nn a) h1)
  have e : (3*(b*b))*(3*(d*d)) = (3*(b*d))*(3*(b*d)) := by grind
  have e2 : a*a*(c*c) = (a*c)*(a*c) := by grind
  rw [e, e2] at h
  exact ⟨le_of_sq (by omega) h, neg_le_of_sq (by omega) h⟩
theorem cs'' {a b c d : Int} (ha : 0 ≤ a) (hd : 0 ≤ d) (h1 : 3*(b*b) ≤ a*a) (h2 : c*c ≤ 3*(d*d)) : b*c ≤ a*d ∧ -(b*c) ≤ a*d := by
  have had := Int.mul_nonneg ha hd
  have h := Int.mul_le_mul h1 h2 (sq_nn c) (sq_nn a)
  have e : (3*(b*b))*(c*c) = 3*((b*c)*(b*c)) := by grind
  have e2 : a*a*(3*(d*d)) = 3*((a*d)*(a*d)) := by grind
  rw [e, e2] at h
  exact ⟨le_of_sq had (by omega), neg_le_of_sq had (by omega)⟩

/-- the square root of 3 is no fraction -/
theorem irr_nat : ∀ n a b : Nat, a ≤ n → a*a = 3*(b*b) → a = 0 ∧ b = 0 := by
  intro n
  induction n with
  | zero =>
    intro a b h e
    obtain rfl : a = 0 := by omega
    refine ⟨rfl, ?_⟩
    rcases Nat.eq_zero_or_pos b with h | h
    · exact h
    · have := Nat.mul_pos h h; omega
  | succ n ih =>
    intro a b h e
    have h3 : a % 3 = 0 := by
      have e1 : (a*a) % 3 = 0 := by rw [e]; exact Nat.mul_mod_right _ _
      rw [Nat.mul_mod] at e1
      have := Nat.mod_lt a (show 3 > 0 by decide)
      generalize a % 3 = r at *
      match r, this with
      | 0, _ => rfl
      | 1, _ => simp at e1
      | 2, _ => simp at e1
    obtain ⟨c, rfl⟩ : ∃ c, a = 3*c := ⟨a/3, by omega⟩
    have e2 : b*b = 3*(c*c) := by
      have : 3*c*(3*c) = 9*(c*c) := by grind
      omega
    rcases Nat.eq_zero_or_pos c with hc | hc
    · subst hc
      refine ⟨by omega, ?_⟩
      rcases Nat.eq_zero_or_pos b with h | h
      · exact h
      · have := Nat.mul_pos h h; omega
    · have hb : b ≤ n := by
        rcases Nat.lt_or_ge n b with hlt | hge
        · have h1 : b*b ≥ (n+1)*(n+1) := Nat.mul_le_mul hlt hlt
          have h2 : 3*c*(3*c) ≤ (n+1)*(n+1) := Nat.mul_le_mul h h
          have : 3*c*(3*c) = 9*(c*c) := by grind
          have := Nat.mul_pos hc hc
          omega
        · exact hge
      obtain ⟨rfl, rfl⟩ := ih b c hb e2
      exact ⟨rfl, rfl⟩
theorem irr {a b : Int} (h : a*a = 3*(b*b)) : a = 0 ∧ b = 0 := by
  have := irr_nat a.natAbs a.natAbs b.natAbs (Nat.le_refl _) (by
    have h1 := Int.natAbs_mul_self (a := a)
    have h2 := Int.natAbs_mul_self (a := b)
    omega)
  omega

/-- A + B * sqrt 3 -/
@[ext] structure R3 where
  a : Int
  b : Int
deriving DecidableEq
namespace R3
instance : Add R3 := ⟨fun x y => ⟨x.a + y.a, x.b + y.b⟩⟩
instance : Neg R3 := ⟨fun x => ⟨-x.a, -x.b⟩⟩
instance : Sub R3 := ⟨fun x y => ⟨x.a - y.a, x.b - y.b⟩⟩
instance : Mul R3 := ⟨fun x y => ⟨x.a * y.a + 3 * x.b * y.b, x.a * y.b + x.b * y.a⟩⟩
instance : NatCast R3 := ⟨fun n => ⟨n, 0⟩⟩
instance : IntCast R3 := ⟨fun n => ⟨n, 0⟩⟩
instance (n : Nat) : OfNat R3 n := ⟨⟨n, 0⟩⟩
instance : SMul Nat R3 := ⟨fun n x => ⟨n * x.a, n * x.b⟩⟩
instance : SMul Int R3 := ⟨fun n x => ⟨n * x.a, n * x.b⟩⟩
def pow (x : R3) : Nat → R3
  | 0 => 1
  | n + 1 => pow x n * x
instance : HPow R3 Nat R3 := ⟨pow⟩
@[simp] theorem add_a (x y : R3) : (x + y).a = x.a + y.a := rfl
@[simp] theorem add_b (x y : R3) : (x + y).b = x.b + y.b := rfl
@[simp] theorem neg_a (x : R3) : (-x).a = -x.a := rfl
@[simp] theorem neg_b (x : R3) : (-x).b = -x.b := rfl
@[simp] theorem sub_a (x y : R3) : (x - y).a = x.a - y.a := rfl
@[simp] theorem sub_b (x y : R3) : (x - y).b = x.b - y.b := rfl
@[simp] theorem mul_a (x y : R3) : (x * y).a = x.a * y.a + 3 * x.b * y.b := rfl
@[simp] theorem mul_b (x y : R3) : (x * y).b = x.a * y.b + x.b * y.a := rfl
@[simp] theorem zero_a : (0 : R3).a = 0 := rfl
@[simp] theorem zero_b : (0 : R3).b = 0 := rfl
@[simp] theorem one_a : (1 : R3).a = 1 := rfl
@[simp] theorem one_b : (1 : R3).b = 0 := rfl
@[simp] theorem natCast_a (n : Nat) : (n : R3).a = (n : Int) := rfl
@[simp] theorem natCast_b (n : Nat) : (n : R3).b = 0 := rfl
@[simp] theorem intCast_a (n : Int) : (n : R3).a = n := rfl
@[simp] theorem intCast_b (n : Int) : (n : R3).b = 0 := rfl
@[simp] theorem nsmul_a (n : Nat) (x : R3) : (n • x).a = n * x.a := rfl
@[simp] theorem nsmul_b (n : Nat) (x : R3) : (n • x).b = n * x.b := rfl
@[simp] theorem zsmul_a (n : Int) (x : R3) : (n • x).a = n * x.a := rfl
@[simp] theorem zsmul_b (n : Int) (x : R3) : (n • x).b = n * x.b := rfl

/-- at least 0 -/
def Nn (x : R3) : Prop := (0 ≤ x.a ∧ 3 * (x.b * x.b) ≤ x.a * x.a) ∨ (0 ≤ x.b ∧ x.a * x.a ≤ 3 * (x.b * x.b))
instance (x : R3) : Decidable (Nn x) := by unfold Nn; infer_instance
theorem nn_total (x : R3) : Nn x ∨ Nn (-x) := by
  simp only [Nn, neg_a, neg_b, Int.neg_mul_neg]
  omega
theorem nn_anti {x : R3} (h : Nn x) (h' : Nn (-x)) : x = 0 := by
  have : x.a = 0 ∧ x.b = 0 := by
    simp only [Nn, neg_a, neg_b, Int.neg_mul_neg] at h h'
    rcases h with ⟨h1, h2⟩ | ⟨h1, h2⟩ <;> rcases h' with ⟨h3, h4⟩ | ⟨h3, h4⟩
    · have : x.a = 0 := by omega
      rw [this] at h2
      exact irr (by rw [this]; have := sq_nn x.b; omega)
    · exact irr (by omega)
    · exact irr (by omega)
    · have : x.b = 0 := by omega
      rw [this] at h2
      exact irr (by rw [this]; have := sq_nn x.a; omega)
  ext <;> simp [this]
theorem nn_mul {x y : R3} (hx : Nn x) (hy : Nn y) : Nn (x * y) := by
  obtain ⟨a, b⟩ := x
  obtain ⟨c, d⟩ := y
  simp only [Nn, mul_a, mul_b] at *
  have n1 : (a*c+3*b*d)*(a*c+3*b*d) - 3*((a*d+b*c)*(a*d+b*c)) = (a*a-3*(b*b))*(c*c-3*(d*d)) := by grind
  have e : 3*b*d = 3*(b*d) := by grind
  rcases hx with ⟨h1, h2⟩ | ⟨h1, h2⟩ <;> rcases hy with ⟨h3, h4⟩ | ⟨h3, h4⟩
  · have := cs h1 h3 h2 h4
    have := Int.mul_nonneg (show 0 ≤ a*a-3*(b*b) by omega) (show 0 ≤ c*c-3*(d*d) by omega)
    left; omega
  · have := cs'' h1 h3 h2 h4
    have := Int.mul_nonneg (show 0 ≤ a*a-3*(b*b) by omega) (show 0 ≤ -(c*c-3*(d*d)) by omega)
    rw [Int.mul_neg] at this
    right; omega
  · have := cs'' h3 h1 h4 h2
    have := Int.mul_nonneg (show 0 ≤ -(a*a-3*(b*b)) by omega) (show 0 ≤ (c*c-3*(d*d)) by omega)
    rw [Int.neg_mul] at this
    have e1 := Int.mul_comm d a
    have e2 := Int.mul_comm c b
    right; omega
  · have := cs' h1 h3 h2 h4
    have := Int.mul_nonneg (show 0 ≤ -(a*a-3*(b*b)) by omega) (show 0 ≤ -(c*c-3*(d*d)) by omega)
    rw [Int.neg_mul_neg] at this
    left; omega
theorem aa {a b c d : Int} (h1 : 0 ≤ a) (h2 : 3 * (b * b) ≤ a * a) (h3 : 0 ≤ c) (h4 : 3 * (d * d) ≤ c * c) : 3 * ((b + d) * (b + d)) ≤ (a + c) * (a + c) := by
  have := cs h1 h3 h2 h4
  have : 3 * ((b + d) * (b + d)) = 3*(b*b) + 2*(3*(b*d)) + 3*(d*d) := by grind
  have : (a + c) * (a + c) = a*a + 2*(a*c) + c*c := by grind
  omega
theorem bb {a b c d : Int} (h1 : 0 ≤ b) (h2 : a * a ≤ 3 * (b * b)) (h3 : 0 ≤ d) (h4 : c * c ≤ 3 * (d * d)) : (a + c) * (a + c) ≤ 3 * ((b + d) * (b + d)) := by
  have := cs' h1 h3 h2 h4
  have : 3 * ((b + d) * (b + d)) = 3*(b*b) + 2*(3*(b*d)) + 3*(d*d) := by grind
  have : (a + c) * (a + c) = a*a + 2*(a*c) + c*c := by grind
  omega
theorem ab {a b c d : Int} (h1 : 0 ≤ a) (h2 : 3 * (b * b) ≤ a * a) (h3 : 0 ≤ d) (h4 : c * c ≤ 3 * (d * d)) : Nn ⟨a + c, b + d⟩ := by
  simp only [Nn]
  by_cases p : 3 * ((b + d) * (b + d)) ≤ (a + c) * (a + c)
  · left
    refine ⟨?_, p⟩
    apply Classical.byContradiction
    intro hn
    -- the sum is below 0 and of the make a: then (-(a+c), ..) + (a, ..) is
    have := aa (a := -(a+c)) (b := b + d) (c := a) (d := -b) (by omega) (by rw [Int.neg_mul_neg]; exact p) h1 (by rw [Int.neg_mul_neg]; exact h2)
    have e1 : b + d + -b = d := by omega
    have e2 : -(a + c) + a = -c := by omega
    rw [e1, e2, Int.neg_mul_neg] at this
    have := irr (a := c) (b := d) (by omega)
    omega
  · right
    refine ⟨?_, by omega⟩
    apply Classical.byContradiction
    intro hn
    have := bb (a := a + c) (b := -(b+d)) (c := -c) (d := d) (by omega) (by rw [Int.neg_mul_neg]; omega) h3 (by rw [Int.neg_mul_neg]; exact h4)
    have e1 : -(b + d) + d = -b := by omega
    have e2 : a + c + -c = a := by omega
    rw [e1, e2, Int.neg_mul_neg] at this
    have := irr (a := a) (b := b) (by omega)
    omega
theorem nn_add {x y : R3} (hx : Nn x) (hy : Nn y) : Nn (x + y) := by
  obtain ⟨a, b⟩ := x
  obtain ⟨c, d⟩ := y
  rcases hx with ⟨h1, h2⟩ | ⟨h1, h2⟩ <;> rcases hy with ⟨h3, h4⟩ | ⟨h3, h4⟩ <;> simp only at h1 h2 h3 h4
  · exact .inl ⟨by simp only [add_a]; omega, aa h1 h2 h3 h4⟩
  · exact ab h1 h2 h3 h4
  · have := ab h3 h4 h1 h2
    have e : (⟨c + a, d + b⟩ : R3) = ⟨a, b⟩ + ⟨c, d⟩ := by ext <;> simp <;> omega
    rw [← e]; exact this
  · exact .inr ⟨by simp only [add_b]; omega, bb h1 h2 h3 h4⟩
theorem mul_eq_zero {x y : R3} (h : x * y = 0) : x = 0 ∨ y = 0 := by
  have n1 : (x.a*x.a-3*(x.b*x.b))*(y.a*y.a-3*(y.b*y.b)) = 0 := by
    have ha : (x * y).a = 0 := by rw [h]; rfl
    have hb : (x * y).b = 0 := by rw [h]; rfl
    have e : (x.a*x.a-3*(x.b*x.b))*(y.a*y.a-3*(y.b*y.b)) = (x * y).a * (x * y).a - 3 * ((x * y).b * (x * y).b) := by
      simp only [mul_a, mul_b]; grind
    rw [e, ha, hb]; rfl
  rcases Int.mul_eq_zero.1 n1 with h | h
  · left; have := irr (a := x.a) (b := x.b) (by omega); ext <;> simp [this]
  · right; have := irr (a := y.a) (b := y.b) (by omega); ext <;> simp [this]

/-- the sign -/
def sg (x : R3) : Int := if Nn x then (if Nn (-x) then 0 else 1) else -1
theorem neg_neg' (x : R3) : - -x = x := by ext <;> simp
theorem sg_cases (x : R3) : (sg x = 0 ∧ x = 0) ∨ (sg x = 1 ∧ Nn x ∧ ¬ Nn (-x)) ∨ (sg x = -1 ∧ ¬ Nn x ∧ Nn (-x)) := by
  unfold sg
  by_cases h : Nn x
  · by_cases k : Nn (-x)
    · left; rw [if_pos h, if_pos k]; exact ⟨rfl, nn_anti h k⟩
    · right; left; rw [if_pos h, if_neg k]; exact ⟨rfl, h, k⟩
  · right; right; rw [if_neg h]; exact ⟨rfl, h, (nn_total x).resolve_left h⟩
theorem nn_zero : Nn 0 := by left; simp
theorem neg_zero' : (-(0 : R3)) = 0 := by ext <;> simp
theorem sg_zero : sg 0 = 0 := by
  unfold sg; rw [neg_zero', if_pos nn_zero, if_pos nn_zero]
theorem sg_nn {x : R3} : 0 ≤ sg x ↔ Nn x := by
  rcases sg_cases x with ⟨h, e⟩ | ⟨h, e, _⟩ | ⟨h, e, _⟩
  · subst e; simp [h, nn_zero]
  · simp [h, e]
  · simp [h, e]
theorem sg_neg (x : R3) : sg (-x) = - sg x := by
  rcases sg_cases x with ⟨h, e⟩ | ⟨h, e1, e2⟩ | ⟨h, e1, e2⟩
  · subst e; rw [neg_zero', sg_zero]; rfl
  · rw [h]; unfold sg; rw [if_neg e2]
  · rw [h]; unfold sg; rw [if_pos e2, neg_neg', if_neg e1]; rfl
theorem sg_eq_zero {x : R3} : sg x = 0 ↔ x = 0 := by
  rcases sg_cases x with ⟨h, e⟩ | ⟨h, e1, e2⟩ | ⟨h, e1, e2⟩
  · exact ⟨fun _ => e, fun _ => h⟩
  · rw [h]; refine ⟨fun q => by omega, fun q => ?_⟩; subst q; exact absurd (neg_zero' ▸ nn_zero) e2
  · rw [h]; refine ⟨fun q => by omega, fun q => ?_⟩; subst q; exact absurd nn_zero e1
theorem sg_mul (x y : R3) : sg (x * y) = sg x * sg y := by
  have zl : ∀ y : R3, 0 * y = 0 := fun y => by ext <;> simp
  have zr : ∀ y : R3, y * 0 = 0 := fun y => by ext <;> simp
  have pp : ∀ {x y : R3}, sg x = 1 → sg y = 1 → sg (x * y) = 1 := by
    intro x y hx hy
    have h1 := nn_mul (sg_nn.1 (by omega : 0 ≤ sg x)) (sg_nn.1 (by omega : 0 ≤ sg y))
    have h2 := sg_nn.2 h1
    have h3 : sg (x * y) ≠ 0 := fun e => by
      rcases mul_eq_zero (sg_eq_zero.1 e) with q | q
      · subst q; rw [sg_zero] at hx; omega
      · subst q; rw [sg_zero] at hy; omega
    rcases sg_cases (x * y) with ⟨h, _⟩ | ⟨h, _⟩ | ⟨h, _⟩ <;> omega
  have nl : ∀ x y : R3, -x * y = -(x * y) := fun x y => by ext <;> simp <;> grind
  have nr : ∀ x y : R3, x * -y = -(x * y) := fun x y => by ext <;> simp <;> grind
  rcases sg_cases x with ⟨h, e⟩ | ⟨h, _⟩ | ⟨h, _⟩
  · subst e; rw [zl, sg_zero]; simp
  · rcases sg_cases y with ⟨k, e⟩ | ⟨k, _⟩ | ⟨k, _⟩
    · subst e; rw [zr, sg_zero]; simp
    · rw [h, k, pp h k]; rfl
    · have := pp h (by rw [sg_neg, k]; rfl : sg (-y) = 1)
      rw [nr, sg_neg] at this; rw [h, k]; omega
  · rcases sg_cases y with ⟨k, e⟩ | ⟨k, _⟩ | ⟨k, _⟩
    · subst e; rw [zr, sg_zero]; simp
    · have := pp (by rw [sg_neg, h]; rfl : sg (-x) = 1) k
      rw [nl, sg_neg] at this; rw [h, k]; omega
    · have := pp (by rw [sg_neg, h]; rfl : sg (-x) = 1) (by rw [sg_neg, k]; rfl : sg (-y) = 1)
      rw [nl, nr, neg_neg'] at this; rw [h, k]; omega
theorem sg_le_one (x : R3) : -1 ≤ sg x ∧ sg x ≤ 1 := by rcases sg_cases x with ⟨h, _⟩ | ⟨h, _⟩ | ⟨h, _⟩ <;> omega
end R3
end Go.Geo
