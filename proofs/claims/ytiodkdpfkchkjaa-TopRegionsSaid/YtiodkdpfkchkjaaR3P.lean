/- The ring of the numbers a + b times the root of three, and its order. -/
set_option linter.unusedVariables false
set_option linter.unusedSimpArgs false
set_option linter.unusedSectionVars false
namespace Go.Geo
theorem sq_nn (a : Int) : 0 ≤ a * a := by
  rcases Int.le_total 0 a with h | h
  · exact Int.mul_nonneg h h
  · exact Int.mul_nonneg_of_nonpos_of_nonpos h h
/-- from the squares to the numbers -/
theorem le_of_sq {x y : Int} (hy : 0 ≤ y) (h : x * x ≤ y * y) : x ≤ y := by
  rcases Int.lt_or_le y x with hlt | hle
  · have := Int.mul_self_lt_mul_self hy hlt; omega
  · exact hle
theorem neg_le_of_sq {x y : Int} (hy : 0 ≤ y) (h : x * x ≤ y * y) : -x ≤ y :=
  le_of_sq hy (by rw [Int.neg_mul_neg]; exact h)
theorem cs {a b c d : Int} (ha : 0 ≤ a) (hc : 0 ≤ c) (h1 : 3*(b*b) ≤ a*a) (h2 : 3*(d*d) ≤ c*c) : 3*(b*d) ≤ a*c ∧ -(3*(b*d)) ≤ a*c := by
  have hac := Int.mul_nonneg ha hc
  have hb : 0 ≤ 3*(b*b) := by have := sq_nn b; omega
  have hd : 0 ≤ 3*(d*d) := by have := sq_nn d; omega
  have h := Int.mul_le_mul h1 h2 hd (Int.le_trans hb h1)
  have e : (3*(b*b))*(3*(d*d)) = (3*(b*d))*(3*(b*d)) := by grind
  have e2 : a*a*(c*c) = (a*c)*(a*c) := by grind
  rw [e, e2] at h
  exact ⟨le_of_sq hac h, neg_le_of_sq hac h⟩
/-- with both on the side of the root -/
theorem cs' {a b c d : Int} (hb : 0 ≤ b) (hd : 0 ≤ d) (h1 : a*a ≤ 3*(b*b)) (h2 : c*c ≤ 3*(d*d)) : a*c ≤ 3*(b*d) ∧ -(a*c) ≤ 3*(b*d) := by
  have hbd := Int.mul_nonneg hb hd
  have h := Int.mul_le_mul h1 h2 (sq_nn c) (Int.le_trans (sq_nn a) h1)
  have e : (3*(b*b))*(3*(d*d)) = (3*(b*d))*(3*(b*d)) := by grind
  have e2 : a*a*(c*c) = (a*c)*(a*c) := by grind
  rw [e, e2] at h
  exact ⟨le_of_sq (by omega) h, neg_le_of_sq (by omega) h⟩
/-- the square root of 3 is no fraction -/
theorem irr_nat : ∀ n a b : Nat, a ≤ n → a*a = 3*(b*b) → a = 0 ∧ b = 0 := by
  intro n
  induction n with
  | zero =>
    intro a b h e
    obtain rfl : a = 0 := by omega
    refine ⟨rfl, ?_⟩
    rcases Nat.eq_zero_or_pos b with h | h
    · exact h
    · have := Nat.mul_pos h h; omega
  | succ n ih =>
    intro a b h e
    have h3 : a % 3 = 0 := by
      have e1 : (a*a) % 3 = 0 := by rw [e]; exact Nat.mul_mod_right _ _
      rw [Nat.mul_mod] at e1
      have := Nat.mod_lt a (show 3 > 0 by decide)
      generalize a % 3 = r at *
      match r, this with
      | 0, _ => rfl
      | 1, _ => simp at e1
      | 2, _ => simp at e1
    obtain ⟨c, rfl⟩ : ∃ c, a = 3*c := ⟨a/3, by omega⟩
    have e2 : b*b = 3*(c*c) := by
      have : 3*c*(3*c) = 9*(c*c) := by grind
      omega
    rcases Nat.eq_zero_or_pos c with hc | hc
    · subst hc
      refine ⟨by omega, ?_⟩
      rcases Nat.eq_zero_or_pos b with h | h
      · exact h
      · have := Nat.mul_pos h h; omega
    · have hb : b ≤ n := by
        rcases Nat.lt_or_ge n b with hlt | hge
        · have h1 : b*b ≥ (n+1)*(n+1) := Nat.mul_le_mul hlt hlt
          have h2 : 3*c*(3*c) ≤ (n+1)*(n+1) := Nat.mul_le_mul h h
          have : 3*c*(3*c) = 9*(c*c) := by grind
          have := Nat.mul_pos hc hc
          omega
        · exact hge
      obtain ⟨rfl, rfl⟩ := ih b c hb e2
      exact ⟨rfl, rfl⟩
theorem irr {a b : Int} (h : a*a = 3*(b*b)) : a = 0 ∧ b = 0 := by
  have := irr_nat a.natAbs a.natAbs b.natAbs (Nat.le_refl _) (by
    have h1 := Int.natAbs_mul_self (a := a)
    have h2 := Int.natAbs_mul_self (a := b)
    omega)
  omega

/-- A + B * sqrt 3 -/
@[ext] structure R3 where
  a : Int
  b : Int
deriving DecidableEq
namespace R3
instance : Add R3 := ⟨fun x y => ⟨x.a + y.a, x.b + y.b⟩⟩
instance : Neg R3 := ⟨fun x => ⟨-x.a, -x.b⟩⟩
instance : Sub R3 := ⟨fun x y => ⟨x.a - y.a, x.b - y.b⟩⟩
instance : Mul R3 := ⟨fun x y => ⟨x.a * y.a + 3 * x.b * y.b, x.a * y.b + x.b * y.a⟩⟩
instance : NatCast R3 := ⟨fun n => ⟨n, 0⟩⟩
instance : IntCast R3 := ⟨fun n => ⟨n, 0⟩⟩
instance (n : Nat) : OfNat R3 n := ⟨⟨n, 0⟩⟩
instance : SMul Nat R3 := ⟨fun n x => ⟨n * x.a, n * x.b⟩⟩
instance : SMul Int R3 := ⟨fun n x => ⟨n * x.a, n * x.b⟩⟩
def pow (x : R3) : Nat → R3
  | 0 => 1
  | n + 1 => pow x n * x
instance : HPow R3 Nat R3 := ⟨pow⟩
@[simp] theorem add_a (x y : R3) : (x + y).a = x.a + y.a := rfl
@[simp] theorem add_b (x y : R3) : (x + y).b = x.b + y.b := rfl
@[simp] theorem neg_a (x : R3) : (-x).a = -x.a := rfl
@[simp] theorem neg_b (x : R3) : (-x).b = -x.b := rfl
@[simp] theorem sub_a (x y : R3) : (x - y).a = x.a - y.a := rfl
@[simp] theorem sub_b (x y : R3) : (x - y).b = x.b - y.b := rfl
@[simp] theorem mul_a (x y : R3) : (x * y).a = x.a * y.a + 3 * x.b * y.b := rfl
@[simp] theorem mul_b (x y : R3) : (x * y).b = x.a * y.b + x.b * y.a := rfl
@[simp] theorem zero_a : (0 : R3).a = 0 := rfl
@[simp] theorem zero_b : (0 : R3).b = 0 := rfl
@[simp] theorem one_a : (1 : R3).a = 1 := rfl
@[simp] theorem one_b : (1 : R3).b = 0 := rfl
@[simp] theorem natCast_a (n : Nat) : (n : R3).a = (n : Int) := rfl
@[simp] theorem natCast_b (n : Nat) : (n : R3).b = 0 := rfl
@[simp] theorem intCast_a (n : Int) : (n : R3).a = n := rfl
@[simp] theorem intCast_b (n : Int) : (n : R3).b = 0 := rfl
@[simp] theorem nsmul_a (n : Nat) (x : R3) : (n • x).a = n * x.a := rfl
@[simp] theorem nsmul_b (n : Nat) (x : R3) : (n • x).b = n * x.b := rfl
@[simp] theorem zsmul_a (n : Int) (x : R3) : (n • x).a = n * x.a := rfl
@[simp] theorem zsmul_b (n : Int) (x : R3) : (n • x).b = n * x.b := rfl

/-- at least 0 -/
def Nn (x : R3) : Prop := (0 ≤ x.a ∧ 3 * (x.b * x.b) ≤ x.a * x.a) ∨ (0 ≤ x.b ∧ x.a * x.a ≤ 3 * (x.b * x.b))
instance (x : R3) : Decidable (Nn x) := by unfold Nn; infer_instance
theorem aa {a b c d : Int} (h1 : 0 ≤ a) (h2 : 3 * (b * b) ≤ a * a) (h3 : 0 ≤ c) (h4 : 3 * (d * d) ≤ c * c) : 3 * ((b + d) * (b + d)) ≤ (a + c) * (a + c) := by
  have := cs h1 h3 h2 h4
  have : 3 * ((b + d) * (b + d)) = 3*(b*b) + 2*(3*(b*d)) + 3*(d*d) := by grind
  have : (a + c) * (a + c) = a*a + 2*(a*c) + c*c := by grind
  omega
theorem bb {a b c d : Int} (h1 : 0 ≤ b) (h2 : a * a ≤ 3 * (b * b)) (h3 : 0 ≤ d) (h4 : c * c ≤ 3 * (d * d)) : (a + c) * (a + c) ≤ 3 * ((b + d) * (b + d)) := by
  have := cs' h1 h3 h2 h4
  have : 3 * ((b + d) * (b + d)) = 3*(b*b) + 2*(3*(b*d)) + 3*(d*d) := by grind
  have : (a + c) * (a + c) = a*a + 2*(a*c) + c*c := by grind
  omega
theorem mul_eq_zero {x y : R3} (h : x * y = 0) : x = 0 ∨ y = 0 := by
  have n1 : (x.a*x.a-3*(x.b*x.b))*(y.a*y.a-3*(y.b*y.b)) = 0 := by
    have ha : (x * y).a = 0 := by rw [h]; rfl
    have hb : (x * y).b = 0 := by rw [h]; rfl
    have e : (x.a*x.a-3*(x.b*x.b))*(y.a*y.a-3*(y.b*y.b)) = (x * y).a * (x * y).a - 3 * ((x * y).b * (x * y).b) := by
      simp only [mul_a, mul_b]; grind
    rw [e, ha, hb]; rfl
  rcases Int.mul_eq_zero.1 n1 with h | h
  · left; have := irr (a := x.a) (b := x.b) (by omega); ext <;> simp [this]
  · right; have := irr (a := y.a) (b := y.b) (by omega); ext <;> simp [this]

end R3
end Go.Geo
