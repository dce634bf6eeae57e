/- Sums over ranges of integers, areas of sets of unit cells, grids. -/
set_option linter.unusedVariables false
set_option linter.unusedSimpArgs false
set_option linter.unusedSectionVars false
namespace Go.Cells
def sumN (f : Nat → Int) : Nat → Int
  | 0 => 0
  | n + 1 => sumN f n + f n
/-- the sum of f from a on below b -/
def S (a b : Int) (f : Int → Int) : Int := sumN (fun k => f (a + k)) (b - a).toNat
theorem sumN_congr {f g : Nat → Int} : ∀ {n : Nat}, (∀ k, k < n → f k = g k) → sumN f n = sumN g n
  | 0, _ => rfl
  | n + 1, h => by simp only [sumN]; rw [sumN_congr fun k hk => h k (by omega), h n (by omega)]
theorem sumN_add (f : Nat → Int) (m : Nat) : ∀ n, sumN f (m + n) = sumN f m + sumN (fun k => f (m + k)) n
  | 0 => by simp [sumN]
  | n + 1 => by rw [← Nat.add_assoc]; simp only [sumN]; rw [sumN_add f m n]; omega
theorem S_empty {a b : Int} (h : b ≤ a) (f : Int → Int) : S a b f = 0 := by
  unfold S; rw [show (b - a).toNat = 0 from by omega]; rfl
theorem S_congr {a b : Int} {f g : Int → Int} (h : ∀ x, a ≤ x → x < b → f x = g x) : S a b f = S a b g :=
  sumN_congr fun k hk => h _ (by omega) (by omega)
theorem S_split {a m b : Int} (h1 : a ≤ m) (h2 : m ≤ b) (f : Int → Int) : S a b f = S a m f + S m b f := by
  unfold S
  rw [show (b - a).toNat = (m - a).toNat + (b - m).toNat from by omega, sumN_add]
  congr 1
  exact sumN_congr fun k _ => by congr 1; omega
theorem S_one (a : Int) (f : Int → Int) : S a (a + 1) f = f a := by
  unfold S; rw [show (a + 1 - a).toNat = 1 from by omega]; simp [sumN]
theorem S_succ {a b : Int} (h : a ≤ b) (f : Int → Int) : S a (b + 1) f = S a b f + f b := by
  rw [S_split h (by omega), S_one]
/-- induction on the end of a range -/
theorem S_ind {a : Int} {P : Int → Prop} (h0 : P a) (hs : ∀ b, a ≤ b → P b → P (b + 1)) (b : Int) (h : a ≤ b) : P b := by
  have : ∀ n : Nat, P (a + n) := fun n => by
    induction n with
    | zero => simpa using h0
    | succ n ih => have := hs _ (by omega) ih; rwa [show a + ((n + 1 : Nat) : Int) = a + n + 1 from by omega]
  have := this (b - a).toNat
  rwa [show a + ((b - a).toNat : Int) = b from by omega] at this
theorem S_add {a b : Int} (f g : Int → Int) : S a b (fun x => f x + g x) = S a b f + S a b g := by
  by_cases h : a ≤ b
  · revert b
    intro b h
    refine S_ind (P := fun b => S a b (fun x => f x + g x) = S a b f + S a b g) ?_ (fun b hb ih => ?_) b h
    · simp [S_empty]
    · rw [S_succ hb, S_succ hb, S_succ hb, ih]; omega
  · simp [S_empty (show b ≤ a by omega)]
theorem S_const {a b : Int} (h : a ≤ b) {f : Int → Int} {c : Int} (hc : ∀ x, a ≤ x → x < b → f x = c) : S a b f = (b - a) * c := by
  rw [S_congr hc]
  refine S_ind (P := fun b => S a b (fun _ => c) = (b - a) * c) ?_ (fun b hb ih => ?_) b h
  · simp [S_empty]
  · rw [S_succ hb, ih, show b + 1 - a = (b - a) + 1 from by omega, Int.add_mul]; omega
theorem S_zero {a b : Int} {f : Int → Int} (hc : ∀ x, a ≤ x → x < b → f x = 0) : S a b f = 0 := by
  by_cases h : a ≤ b
  · rw [S_const h hc, Int.mul_zero]
  · exact S_empty (by omega) f
theorem S_le {a b : Int} {f g : Int → Int} (h : ∀ x, a ≤ x → x < b → f x ≤ g x) : S a b f ≤ S a b g := by
  by_cases hab : a ≤ b
  · revert h
    refine S_ind (P := fun b => (∀ x, a ≤ x → x < b → f x ≤ g x) → S a b f ≤ S a b g) (fun _ => by simp [S_empty]) (fun b hb ih h => ?_) b hab
    rw [S_succ hb, S_succ hb]
    have := ih fun x h1 h2 => h x h1 (by omega)
    have := h b hb (by omega)
    omega
  · simp [S_empty (show b ≤ a by omega)]
theorem S_nonneg {a b : Int} {f : Int → Int} (h : ∀ x, a ≤ x → x < b → 0 ≤ f x) : 0 ≤ S a b f := by
  have := S_le (a := a) (b := b) (f := fun _ => 0) (g := f) h
  rwa [S_zero fun _ _ _ => rfl] at this
theorem S_pos {a b : Int} {f : Int → Int} (h : ∀ x, a ≤ x → x < b → 0 ≤ f x) {x : Int} (h1 : a ≤ x) (h2 : x < b) (hx : 0 < f x) : 0 < S a b f := by
  rw [S_split h1 (by omega), S_split (show x ≤ x + 1 by omega) (by omega), S_one]
  have := S_nonneg (a := a) (b := x) (f := f) fun y p q => h y p (by omega)
  have := S_nonneg (a := x + 1) (b := b) (f := f) fun y p q => h y (by omega) q
  omega
/-- the part of a sum where nothing is may be left out -/
theorem S_wider {a b a' b' : Int} {f : Int → Int} (h1 : a' ≤ a) (h2 : a ≤ b) (h3 : b ≤ b') (h : ∀ x, a' ≤ x → x < b' → (x < a ∨ b ≤ x) → f x = 0) : S a' b' f = S a b f := by
  rw [S_split h1 (by omega), S_split h2 h3, S_zero (a := a') (b := a) fun x p q => h x p (by omega) (.inl q), S_zero (a := b) (b := b') fun x p q => h x (by omega) q (.inr p)]
  omega
/-! ### grids -/
/-- the sum over the cells of a grid: each cell's width times what is at its begin -/
def gsum (g : Int → Int) : List Int → Int
  | [] => 0
  | [_] => 0
  | x :: y :: t => (y - x) * g x + gsum g (y :: t)
/-- f is the same on each cell of the grid -/
def GSteps {β : Type} (g : Int → β) : List Int → Prop
  | [] => True
  | [_] => True
  | x :: y :: t => x < y ∧ (∀ z, x ≤ z → z < y → g z = g x) ∧ GSteps g (y :: t)
theorem steps_last {β : Type} {g : Int → β} : ∀ (x : Int) (t : List Int), GSteps g (x :: t) → x ≤ (x :: t).getLast (by simp)
  | x, [], _ => by simp
  | x, y :: t, h => by
    have := steps_last y t h.2.2
    have := h.1
    rw [List.getLast_cons (by simp)]
    omega
theorem gsum_eq {g : Int → Int} : ∀ (x : Int) (t : List Int), GSteps g (x :: t) → S x ((x :: t).getLast (by simp)) g = gsum g (x :: t)
  | x, [], _ => by simp [S_empty, gsum]
  | x, y :: t, h => by
    have h1 := h.1
    rw [List.getLast_cons (by simp), S_split (Int.le_of_lt h1) (steps_last y t h.2.2), gsum_eq y t h.2.2, S_const (Int.le_of_lt h1) h.2.1]
    rfl
/-! ### areas -/
def one (b : Bool) : Int := if b then 1 else 0
theorem one_nonneg (b : Bool) : 0 ≤ one b := by cases b <;> decide
/-- the number of unit cells of a set within the square from -M below M -/
def area (M : Int) (p : Int → Int → Bool) : Int := S (-M) M fun x => S (-M) M fun y => one (p x y)
theorem area_congr {M : Int} {p q : Int → Int → Bool} (h : ∀ x y, p x y = q x y) : area M p = area M q := by
  have : p = q := funext fun x => funext fun y => h x y
  rw [this]
theorem area_nonneg {M : Int} (p : Int → Int → Bool) : 0 ≤ area M p := S_nonneg fun _ _ _ => S_nonneg fun _ _ _ => one_nonneg _
theorem area_le {M : Int} {p q : Int → Int → Bool} (h : ∀ x y, p x y = true → q x y = true) : area M p ≤ area M q :=
  S_le fun x _ _ => S_le fun y _ _ => by
    have := h x y
    unfold one
    cases hp : p x y <;> cases hq : q x y <;> simp_all
theorem area_or {M : Int} (p q : Int → Int → Bool) : area M (fun x y => p x y || q x y) + area M (fun x y => p x y && q x y) = area M p + area M q := by
  unfold area
  rw [← S_add, ← S_add]
  refine S_congr fun x _ _ => ?_
  rw [← S_add, ← S_add]
  refine S_congr fun y _ _ => ?_
  show one (p x y || q x y) + one (p x y && q x y) = one (p x y) + one (q x y)
  cases p x y <;> cases q x y <;> decide
theorem area_pos {M : Int} {p : Int → Int → Bool} {x y : Int} (hx : -M ≤ x) (hx' : x < M) (hy : -M ≤ y) (hy' : y < M) (h : p x y = true) : 0 < area M p :=
  S_pos (fun _ _ _ => S_nonneg fun _ _ _ => one_nonneg _) hx hx' (S_pos (fun _ _ _ => one_nonneg _) hy hy' (by rw [h]; decide))
theorem area_zero {M : Int} {p : Int → Int → Bool} (h : ∀ x y, p x y = false) : area M p = 0 := S_zero fun x _ _ => S_zero fun y _ _ => by rw [h]; rfl
/-- sets of which one lies in the other and that are equally large are the same -/
theorem area_same {M : Int} {p q : Int → Int → Bool} (h : ∀ x y, p x y = true → q x y = true) (e : area M p = area M q) {x y : Int} (hx : -M ≤ x) (hx' : x < M) (hy : -M ≤ y) (hy' : y < M) : p x y = q x y := by
  cases hp : p x y with
  | true => rw [h x y hp]
  | false =>
    cases hq : q x y with
    | false => rfl
    | true =>
      exfalso
      have h1 := area_or (M := M) p (fun x y => q x y && !p x y)
      rw [area_congr (M := M) (p := fun x y => p x y || (q x y && !p x y)) (q := q) fun x y => by have := h x y; revert this; cases p x y <;> cases q x y <;> simp,
        area_zero (p := fun x y => p x y && (q x y && !p x y)) fun x y => by cases p x y <;> cases q x y <;> rfl] at h1
      have := area_pos (M := M) (p := fun x y => q x y && !p x y) hx hx' hy hy' (by rw [hp, hq]; rfl)
      omega
/-- a rectangle -/
def inR (a b c d : Int) (x y : Int) : Bool := decide (a ≤ x ∧ x < b) && decide (c ≤ y ∧ y < d)
theorem area_rect {M a b c d : Int} (ha : -M ≤ a) (hab : a ≤ b) (hb : b ≤ M) (hc : -M ≤ c) (hcd : c ≤ d) (hd : d ≤ M) : area M (inR a b c d) = (b - a) * (d - c) := by
  unfold area
  rw [S_wider ha hab hb fun x _ _ h => S_zero fun y _ _ => by
    unfold inR
    rw [decide_eq_false (by omega : ¬ (a ≤ x ∧ x < b))]; rfl]
  refine S_const hab fun x h1 h2 => ?_
  rw [S_wider hc hcd hd fun y _ _ h => by
    unfold inR
    rw [decide_eq_false (by omega : ¬ (c ≤ y ∧ y < d)), Bool.and_false]; rfl]
  rw [S_const hcd (c := 1) fun y h3 h4 => by
    unfold inR
    rw [decide_eq_true (⟨h1, h2⟩ : a ≤ x ∧ x < b), decide_eq_true (⟨h3, h4⟩ : c ≤ y ∧ y < d)]; rfl]
  omega
/-- the area over the cells of a grid -/
theorem area_grid {M : Int} {p : Int → Int → Bool} {x0 y0 : Int} {xs ys : List Int} (hx : GSteps (fun x => p x) (x0 :: xs)) (hy : ∀ x, GSteps (fun y => p x y) (y0 :: ys))
    (h1 : -M ≤ x0) (h2 : (x0 :: xs).getLast (by simp) ≤ M) (h3 : -M ≤ y0) (h4 : (y0 :: ys).getLast (by simp) ≤ M)
    (hox : ∀ x y, (x < x0 ∨ (x0 :: xs).getLast (by simp) ≤ x) → p x y = false) (hoy : ∀ x y, (y < y0 ∨ (y0 :: ys).getLast (by simp) ≤ y) → p x y = false) :
    area M p = gsum (fun x => gsum (fun y => one (p x y)) (y0 :: ys)) (x0 :: xs) := by
  have st1 : ∀ {β γ : Type} (f : β → γ) (g : Int → β) (l : List Int), GSteps g l → GSteps (fun x => f (g x)) l := by
    intro β γ f g l
    induction l with
    | nil => exact fun _ => trivial
    | cons x t ih =>
      cases t with
      | nil => exact fun _ => trivial
      | cons y t => exact fun h => ⟨h.1, fun z a b => congrArg f (h.2.1 z a b), ih h.2.2⟩
  unfold area
  rw [S_wider h1 (steps_last _ _ hx) h2 fun x _ _ h => S_zero fun y _ _ => by rw [hox x y h]; rfl]
  have e : ∀ x, S (-M) M (fun y => one (p x y)) = gsum (fun y => one (p x y)) (y0 :: ys) := fun x => by
    rw [S_wider h3 (steps_last _ _ (hy x)) h4 fun y _ _ h => by rw [hoy x y h]; rfl]
    exact gsum_eq _ _ (st1 one (fun y => p x y) _ (hy x))
  rw [S_congr fun x _ _ => e x]
  exact gsum_eq _ _ (st1 (fun q => gsum (fun y => one (q y)) (y0 :: ys)) (fun x => p x) _ hx)
end Go.Cells
