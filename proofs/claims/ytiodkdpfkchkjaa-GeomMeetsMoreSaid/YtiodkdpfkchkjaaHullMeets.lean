/- When two hulls meet: plain geometry. -/
import Derived.Test.YtiodkdpfkchkjaaHullHolds
set_option linter.unusedVariables false
set_option linter.unusedSimpArgs false
set_option linter.unusedSectionVars false
namespace Go.SM
open Go Go.VI Go.Geo R3
/-! ### vectors -/
abbrev V := R3 × R3
def cr (u v : V) : R3 := u.1 * v.2 - u.2 * v.1
def vec (a b : Point) : V := (vx a b, vy a b)
def vng (u : V) : V := (-u.1, -u.2)
theorem or_cr (a b c : Point) : orR a b c = sg (cr (vec a b) (vec a c)) := by unfold orR; rw [det1]; rfl
theorem cr_anti (u v : V) : cr v u = -cr u v := by unfold cr; ext <;> simp <;> grind
theorem cr_ngl (u v : V) : cr (vng u) v = -cr u v := by unfold cr vng; ext <;> simp <;> grind
theorem cr_ngr (u v : V) : cr u (vng v) = -cr u v := by unfold cr vng; ext <;> simp <;> grind
theorem cr_self (u : V) : cr u u = 0 := by unfold cr; ext <;> simp <;> grind
theorem cr_gp (e p q w : V) : cr e w * cr p q = cr e q * cr p w - cr e p * cr q w := by unfold cr; ext <;> simp <;> grind
theorem cr_vec (e : V) (a b c : Point) : cr e (vec a c) = cr e (vec a b) + cr e (vec b c) := by unfold cr vec vx vy; ext <;> simp <;> grind
theorem vec_ng (a b : Point) : vec b a = vng (vec a b) := by unfold vec vng; rw [(vneg a b).1, (vneg a b).2]
theorem or_cr2 (a b c : Point) : orR a b c = sg (cr (vec a b) (vec b c)) := by unfold orR; rw [det2]; rfl
def Nz (e : V) : Prop := e.1 ≠ 0 ∨ e.2 ≠ 0
theorem nz_vec {a b : Point} (h : a ≠ b) : Nz (vec a b) := by
  unfold Nz vec
  rcases Classical.em (vx a b = 0) with h1 | h1
  · rcases Classical.em (vy a b = 0) with h2 | h2
    · refine absurd (point_ext ?_ ?_) h
      · have ha := congrArg R3.a h1
        have hb := congrArg R3.b h1
        unfold vx at ha hb; simp at ha hb
        ext <;> omega
      · have ha := congrArg R3.a h2
        have hb := congrArg R3.b h2
        unfold vy at ha hb; simp at ha hb
        ext <;> omega
    · exact .inr h2
  · exact .inl h1
theorem nz_ng {e : V} (h : Nz e) : Nz (vng e) := by
  unfold Nz vng at *
  rcases h with h | h
  · left; intro q; apply h; simp only at q; rw [← neg_neg' e.1, q, neg_zero']
  · right; intro q; apply h; simp only at q; rw [← neg_neg' e.2, q, neg_zero']
/-- what is parallel to the same is parallel -/
theorem par_par {e p q : V} (he : Nz e) (h1 : cr e p = 0) (h2 : cr e q = 0) : cr p q = 0 := by
  have i1 : e.1 * cr p q = p.1 * cr e q - q.1 * cr e p := by unfold cr; ext <;> simp <;> grind
  have i2 : e.2 * cr p q = p.2 * cr e q - q.2 * cr e p := by unfold cr; ext <;> simp <;> grind
  have z : ∀ x y : R3, x * 0 - y * 0 = 0 := fun x y => by ext <;> simp
  rw [h1, h2, z] at i1 i2
  rcases he with h | h
  · exact (mul_eq_zero i1).resolve_left h
  · exact (mul_eq_zero i2).resolve_left h
/-- parallel, and towards the same side -/
theorem same_dir {w e : V} (hp : cr w e = 0) (hw : lexp w.1 w.2) (he : lexp e.1 e.2) (z : V) : sg (cr w z) = sg (cr e z) := by
  have i1 : w.1 * cr e z = e.1 * cr w z + z.1 * cr e w := by unfold cr; ext <;> simp <;> grind
  rw [cr_anti w e, hp, neg_zero', mul_zero'] at i1
  have i1 : w.1 * cr e z = e.1 * cr w z := by rw [i1]; ext <;> simp
  rcases hw with hw | ⟨hw, hw'⟩
  · rcases he with he | ⟨he, he'⟩
    · have := congrArg sg i1
      rw [sg_mul, sg_mul, hw, he] at this
      omega
    · exfalso
      unfold cr at hp
      rw [he, mul_zero'] at hp
      have : w.1 * e.2 = 0 := by
        have ha := congrArg R3.a hp
        have hb := congrArg R3.b hp
        ext <;> simp at ha hb ⊢ <;> omega
      rcases mul_eq_zero this with q | q
      · rw [q, sg_zero] at hw; omega
      · rw [q, sg_zero] at he'; omega
  · rcases he with he | ⟨he, he'⟩
    · exfalso
      unfold cr at hp
      rw [hw, zero_mul'] at hp
      have : w.2 * e.1 = 0 := by
        have ha := congrArg R3.a hp
        have hb := congrArg R3.b hp
        ext <;> simp at ha hb ⊢ <;> omega
      rcases mul_eq_zero this with q | q
      · rw [q, sg_zero] at hw'; omega
      · rw [q, sg_zero] at he; omega
    · have c1 : cr w z = -(w.2 * z.1) := by unfold cr; rw [hw]; ext <;> simp
      have c2 : cr e z = -(e.2 * z.1) := by unfold cr; rw [he]; ext <;> simp
      rw [c1, c2, sg_neg, sg_neg, sg_mul, sg_mul, hw', he']
def Dir (w e : V) : Prop := cr w e = 0 ∧ ((lexp w.1 w.2 ∧ lexp e.1 e.2) ∨ (lexp (vng w).1 (vng w).2 ∧ lexp (vng e).1 (vng e).2))
theorem dir_sg {w e : V} (h : Dir w e) (z : V) : sg (cr w z) = sg (cr e z) := by
  obtain ⟨h0, ⟨h1, h2⟩ | ⟨h1, h2⟩⟩ := h
  · exact same_dir h0 h1 h2 z
  · have := same_dir (w := vng w) (e := vng e) (by rw [cr_ngl, cr_ngr, h0, neg_zero', neg_zero']) h1 h2 z
    rw [cr_ngl, cr_ngl, sg_neg, sg_neg] at this
    omega
theorem nz_lex {e : V} (h : Nz e) : lexp e.1 e.2 ∨ lexp (vng e).1 (vng e).2 := by
  rcases lexp_tri e.1 e.2 with ⟨h1, h2⟩ | q | q
  · exact (h.elim (fun f => f h1) fun f => f h2).elim
  · exact .inl q
  · exact .inr q
/-- of two points on a line along e one comes first -/
theorem dir_pick {e : V} (he : Nz e) {P Q : Point} (hne : P ≠ Q) (h : cr e (vec P Q) = 0) : Dir (vec P Q) e ∨ Dir (vec Q P) e := by
  have h' : cr (vec P Q) e = 0 := by rw [cr_anti, h, neg_zero']
  have h'' : cr (vec Q P) e = 0 := by rw [vec_ng, cr_ngl, h', neg_zero']
  have nn : vng (vec Q P) = vec P Q := by rw [vec_ng Q P]
  have nn' : vng (vec P Q) = vec Q P := by rw [vec_ng P Q]
  rcases nz_lex he with a | a <;> rcases nz_lex (nz_vec hne) with b | b
  · exact .inl ⟨h', .inl ⟨b, a⟩⟩
  · exact .inr ⟨h'', .inl ⟨by rw [nn'] at b; exact b, a⟩⟩
  · exact .inr ⟨h'', .inr ⟨by rw [nn]; exact b, a⟩⟩
  · exact .inl ⟨h', .inr ⟨b, a⟩⟩
/-- along a side of a hull: one of its edges leads there -/
theorem face {l h : List Point} (hh : IsHull orR ltQ l h) {e : V} (he : Nz e) {P Q : Point} (hP : P ∈ h) (hQ : Q ∈ h) (hne : P ≠ Q) (hpq : cr e (vec P Q) = 0) (hleft : ∀ r ∈ h, 0 ≤ sg (cr e (vec P r)))
    {Z : List Point} (hZ : ∀ z ∈ Z, sg (cr e (vec P z)) ≤ 0) : ∃ (i : Nat) (p n : Point), h[i]? = some p ∧ h[(i + 1) % h.length]? = some n ∧ n ≠ p ∧ ∀ z ∈ Z, orR p n z ≤ 0 := by
  have go : ∀ {P Q : Point}, P ∈ h → Q ∈ h → P ≠ Q → Dir (vec P Q) e → (∀ r ∈ h, 0 ≤ sg (cr e (vec P r))) → (∀ z ∈ Z, sg (cr e (vec P z)) ≤ 0) → ∃ (i : Nat) (p n : Point), h[i]? = some p ∧ h[(i + 1) % h.length]? = some n ∧ n ≠ p ∧ ∀ z ∈ Z, orR p n z ≤ 0 := by
    intro P Q hP hQ hne hd hl hz
    obtain ⟨i, hi⟩ := List.mem_iff_getElem?.1 hP
    have hil := (List.getElem?_eq_some_iff.1 hi).1
    have h1 : h.length ≠ 1 := fun q => by
      obtain ⟨x, hx⟩ := List.length_eq_one_iff.1 q
      rw [hx] at hP hQ
      simp at hP hQ
      exact hne (hP.trans hQ.symm)
    obtain ⟨N, hN⟩ : ∃ N, h[(i + 1) % h.length]? = some N := ⟨_, List.getElem?_eq_getElem (Nat.mod_lt _ (by omega))⟩
    have hs := hull_self hh
    obtain ⟨n1, n2, n3⟩ := hs.next h1 i P N hi hN
    -- all corners on the left of P Q
    have c1 : 0 ≤ orR P Q N := by rw [or_cr, dir_sg hd]; exact hl N n2
    have c2 : orR P Q N = -orR P N Q := by
      have e1 := planeP.swap Q P N
      have e2 := planeP.rot P Q N
      have e3 := planeP.rot P N Q
      have e4 := planeP.rot N Q P
      have e5 := planeP.swap P Q N
      have e6 := planeP.rot Q P N
      omega
    rcases n3 Q hQ with c | ⟨c, bt⟩
    · omega
    · -- N lies behind Q
      have hNP : P ≠ N := fun e => n1 e.symm
      have hpn : cr (vec P Q) (vec P N) = 0 := by
        have := or_cr P Q N
        exact sg_eq_zero.1 (by omega)
      have hne' : Nz (vec P Q) := nz_vec hne
      have hd' : Dir (vec P N) (vec P Q) := by
        refine ⟨by rw [cr_anti, hpn, neg_zero'], ?_⟩
        unfold Btw at bt
        rcases bt with ⟨b1, b2⟩ | ⟨b1, b2⟩
        · have b1 := b1.resolve_left fun q => hne q.symm
          left
          refine ⟨?_, b1⟩
          rcases b2 with rfl | b2
          · exact b1
          · exact ltQ_trans b1 b2
        · have b1 := b1.resolve_left fun q => hne q.symm
          right
          have nn : vng (vec P Q) = vec Q P := by rw [vec_ng P Q]
          have nn' : vng (vec P N) = vec N P := by rw [vec_ng P N]
          rw [nn, nn']
          refine ⟨?_, b1⟩
          rcases b2 with rfl | b2
          · exact b1
          · exact ltQ_trans b2 b1
      refine ⟨i, P, N, hi, hN, n1, fun z hz' => ?_⟩
      rw [or_cr, dir_sg hd', dir_sg hd]
      exact hz z hz'
  rcases dir_pick he hne hpq with q | q
  · exact go hP hQ hne q hleft hZ
  · have mv : ∀ r, cr e (vec Q r) = cr e (vec P r) := fun r => by
      have h1 := cr_vec e P Q r
      rw [hpq] at h1
      rw [h1]; ext <;> simp
    exact go hQ hP (fun x => hne x.symm) q (fun r hr => by rw [mv]; exact hleft r hr) (fun z hz => by rw [mv]; exact hZ z hz)
/-- a corner that is least along e -/
theorem least_corner {h : List Point} (hne : h ≠ []) (e : V) : ∃ (i : Nat) (p : Point), h[i]? = some p ∧ ∀ r ∈ h, 0 ≤ sg (cr e (vec p r)) := by
  induction h with
  | nil => exact absurd rfl hne
  | cons x h ih =>
    by_cases h0 : h = []
    · subst h0
      refine ⟨0, x, rfl, fun r hr => ?_⟩
      simp at hr
      subst hr
      have : cr e (vec r r) = 0 := by unfold cr vec vx vy; ext <;> simp <;> grind
      rw [this, sg_zero]; omega
    · obtain ⟨i, p, hp, hl⟩ := ih h0
      by_cases q : 0 ≤ sg (cr e (vec p x))
      · refine ⟨i + 1, p, by simpa using hp, fun r hr => ?_⟩
        rcases List.mem_cons.1 hr with rfl | hr
        · exact q
        · exact hl r hr
      · refine ⟨0, x, rfl, fun r hr => ?_⟩
        rcases List.mem_cons.1 hr with rfl | hr
        · have : cr e (vec r r) = 0 := by unfold cr vec vx vy; ext <;> simp <;> grind
          rw [this, sg_zero]; omega
        · rw [cr_vec e x p r]
          refine sg_add_nn ?_ (hl r hr)
          rw [vec_ng p x, cr_ngr, sg_neg]; omega
theorem cr_zero (e : V) (p : Point) : cr e (vec p p) = 0 := by unfold cr vec vx vy; ext <;> simp <;> grind
/-- the corners beside a corner -/
theorem beside {h : List Point} {i : Nat} {p : Point} (hi : h[i]? = some p) : ∃ (j : Nat) (M N : Point), h[j]? = some M ∧ (j + 1) % h.length = i ∧ h[(i + 1) % h.length]? = some N ∧ (j + 2) % h.length = (i + 1) % h.length := by
  have hil := (List.getElem?_eq_some_iff.1 hi).1
  rcases Nat.eq_zero_or_pos i with z | z
  · subst z
    refine ⟨h.length - 1, _, _, List.getElem?_eq_getElem (by omega), ?_, List.getElem?_eq_getElem (Nat.mod_lt _ (by omega)), ?_⟩
    · rw [show h.length - 1 + 1 = h.length from by omega, Nat.mod_self]
    · rw [show h.length - 1 + 2 = h.length + 1 from by omega, Nat.add_mod_left]
  · refine ⟨i - 1, _, _, List.getElem?_eq_getElem (by omega), ?_, List.getElem?_eq_getElem (Nat.mod_lt _ (by omega)), ?_⟩
    · rw [show i - 1 + 1 = i from by omega, Nat.mod_eq_of_lt hil]
    · rw [show i - 1 + 2 = i + 1 from by omega]
theorem sg_mul_nn {x y : R3} (h1 : 0 ≤ sg x) (h2 : 0 ≤ sg y) : 0 ≤ sg (x * y) := by rw [sg_mul]; exact Int.mul_nonneg h1 h2
theorem sg_sub_nn {x y : R3} (h1 : 0 ≤ sg x) (h2 : sg y ≤ 0) : 0 ≤ sg (x - y) := by
  have e : x - y = x + -y := by ext <;> simp <;> omega
  rw [e]
  exact sg_add_nn h1 (by rw [sg_neg]; omega)
/-- what holds of the corners holds of all points -/
theorem all_left {l h : List Point} (hh : IsHull orR ltQ l h) {e : V} {p : Point} (hp : p ∈ h) (hl : ∀ r ∈ h, 0 ≤ sg (cr e (vec p r))) : ∀ r ∈ l, 0 ≤ sg (cr e (vec p r)) := by
  intro r hr
  obtain ⟨i, hi⟩ := List.mem_iff_getElem?.1 hp
  have hil := (List.getElem?_eq_some_iff.1 hi).1
  by_cases h1 : h.length = 1
  · exact hl r (hh.one h1 r hr)
  obtain ⟨j, M, N, hM, hj, hN, hj2⟩ := beside hi
  have mM := List.mem_of_getElem? hM
  have mN := List.mem_of_getElem? hN
  by_cases h3 : 2 < h.length
  · have hp' : h[(j + 1) % h.length]? = some p := by rw [hj]; exact hi
    have hN' : h[(j + 2) % h.length]? = some N := by rw [hj2]; exact hN
    have t := hull_turn hh h3 hM hp' hN'
    rw [or_cr2] at t
    have l1 := hull_left hh hM hp' hr
    rw [or_cr2] at l1
    have l2 := hull_left hh hi hN hr
    rw [or_cr] at l2
    have gp := cr_gp e (vec M p) (vec p N) (vec p r)
    have s1 : sg (cr e (vec M p)) ≤ 0 := by
      have := hl M mM
      rw [vec_ng p M, cr_ngr, sg_neg]; omega
    have s2 := hl N mN
    have : 0 ≤ sg (cr e (vec p N) * cr (vec M p) (vec p r) - cr e (vec M p) * cr (vec p N) (vec p r)) := by
      refine sg_sub_nn (sg_mul_nn s2 l1) ?_
      rw [sg_mul]
      exact Int.mul_nonpos_of_nonpos_of_nonneg s1 l2
    rw [← gp, sg_mul, t] at this
    omega
  · -- two corners: all points lie between them
    have n2 : h.length = 2 := by omega
    have nx := hh.next h1 i p N hi hN
    have hN' : h[((i + 1) % h.length + 1) % h.length]? = some p := by
      rw [n2] at hil ⊢
      rw [show ((i + 1) % 2 + 1) % 2 = i from by omega]; exact hi
    have nx' := hh.next h1 _ N p hN hN'
    have e0 : orR N p r = -orR p N r := planeP.swap p N r
    have z : orR p N r = 0 := by
      rcases nx.2.2 r hr with a | ⟨a, _⟩
      · rcases nx'.2.2 r hr with b | ⟨b, _⟩ <;> omega
      · exact a
    have bt : Btw ltQ p r N := by
      rcases nx.2.2 r hr with a | ⟨_, a⟩
      · omega
      · exact a
    by_cases hpr : p = r
    · subst hpr
      rw [cr_zero, sg_zero]; omega
    · have hc : cr (vec p N) (vec p r) = 0 := by
        have := or_cr p N r
        exact sg_eq_zero.1 (by omega)
      have hd : Dir (vec p r) (vec p N) := by
        refine ⟨by rw [cr_anti, hc, neg_zero'], ?_⟩
        unfold Btw at bt
        rcases bt with ⟨b1, b2⟩ | ⟨b1, b2⟩
        · have b1 := b1.resolve_left fun q => hpr q.symm
          left
          refine ⟨b1, ?_⟩
          rcases b2 with rfl | b2
          · exact b1
          · exact ltQ_trans b1 b2
        · have b1 := b1.resolve_left fun q => hpr q.symm
          right
          have nn : vng (vec p r) = vec r p := by rw [vec_ng p r]
          have nn' : vng (vec p N) = vec N p := by rw [vec_ng p N]
          rw [nn, nn']
          refine ⟨b1, ?_⟩
          rcases b2 with rfl | b2
          · exact b1
          · exact ltQ_trans b2 b1
      have s := dir_sg hd e
      have s2 := hl N mN
      rw [cr_anti e (vec p r), cr_anti e (vec p N), sg_neg, sg_neg] at s
      omega
def Sep1 (D : List Point) : Prop := ∃ e, Nz e ∧ ∀ d ∈ D, 0 ≤ sg (cr e (vec p0 d))
def Sep (A B : List Point) : Prop := ∃ e, Nz e ∧ ∀ a ∈ A, ∀ b ∈ B, 0 ≤ sg (cr e (vec b a))
def Strict (h : List Point) : Prop := ∀ (i : Nat) (u v : Point), h[i]? = some u → h[(i + 1) % h.length]? = some v → 0 < orR u v p0
def Apart (x y : List Point) : Prop := ∃ (i : Nat) (u v : Point), x[i]? = some u ∧ x[(i + 1) % x.length]? = some v ∧ v ≠ u ∧ ∀ z ∈ y, orR u v z ≤ 0
theorem strict_sep {D h : List Point} (hh : IsHull orR ltQ D h) (hs : Strict h) : ¬ Sep1 D := by
  rintro ⟨e, he, hall⟩
  obtain ⟨m, m1, _⟩ := hh.min
  obtain ⟨i, p, hi, hl⟩ := least_corner (h := h) (fun q => by rw [q] at m1; simp at m1) e
  obtain ⟨j, M, N, hM, hj, hN, hj2⟩ := beside hi
  have mp := List.mem_of_getElem? hi
  have mM := List.mem_of_getElem? hM
  have mN := List.mem_of_getElem? hN
  have hp' : h[(j + 1) % h.length]? = some p := by rw [hj]; exact hi
  have a1 := hs j M p hM hp'
  have a2 := hs i p N hi hN
  have w1 : sg (cr (vec M p) (vec p0 p)) = -1 := by
    rw [or_cr2, vec_ng p0 p, cr_ngr, sg_neg] at a1
    have := sg_le_one (cr (vec M p) (vec p0 p)); omega
  have w2 : sg (cr (vec p N) (vec p0 p)) = -1 := by
    rw [or_cr, vec_ng p0 p, cr_ngr, sg_neg] at a2
    have := sg_le_one (cr (vec p N) (vec p0 p)); omega
  have l1 := hull_left hh hM hp' (hh.sub N mN)
  rw [or_cr2] at l1
  have s0 := hall p (hh.sub p mp)
  have s1 : sg (cr e (vec M p)) ≤ 0 := by
    have := hl M mM
    rw [vec_ng p M, cr_ngr, sg_neg]; omega
  have s2 := hl N mN
  have gp := cr_gp e (vec M p) (vec p N) (vec p0 p)
  have lhs := sg_mul_nn s0 l1
  rw [gp] at lhs
  have q1 : sg (cr e (vec p N) * cr (vec M p) (vec p0 p)) = -sg (cr e (vec p N)) := by rw [sg_mul, w1]; omega
  have q2 : sg (cr e (vec M p) * cr (vec p N) (vec p0 p)) = -sg (cr e (vec M p)) := by rw [sg_mul, w2]; omega
  -- both terms are at most 0, and so 0
  have z : sg (cr e (vec p N)) = 0 ∧ sg (cr e (vec M p)) = 0 := by
    have ee : cr e (vec p N) * cr (vec M p) (vec p0 p) - cr e (vec M p) * cr (vec p N) (vec p0 p) = -(-(cr e (vec p N) * cr (vec M p) (vec p0 p)) + cr e (vec M p) * cr (vec p N) (vec p0 p)) := by ext <;> simp <;> omega
    rw [ee, sg_neg] at lhs
    have n1 : 0 ≤ sg (-(cr e (vec p N) * cr (vec M p) (vec p0 p))) := by rw [sg_neg, q1]; omega
    have n2 : 0 ≤ sg (cr e (vec M p) * cr (vec p N) (vec p0 p)) := by rw [q2]; omega
    have b1 := sg_le_one (cr e (vec p N))
    have b2 := sg_le_one (cr e (vec M p))
    constructor
    · rcases Int.lt_or_le 0 (sg (cr e (vec p N))) with r | r
      · have := sg_add_pos (x := -(cr e (vec p N) * cr (vec M p) (vec p0 p))) (y := cr e (vec M p) * cr (vec p N) (vec p0 p)) (by rw [sg_neg, q1]; omega) n2
        omega
      · omega
    · rcases Int.lt_or_le (sg (cr e (vec M p))) 0 with r | r
      · have := sg_add_pos (x := cr e (vec M p) * cr (vec p N) (vec p0 p)) (y := -(cr e (vec p N) * cr (vec M p) (vec p0 p))) (by rw [q2]; omega) n1
        rw [add_comm'] at this
        omega
      · omega
  have par := par_par he (sg_eq_zero.1 z.2) (sg_eq_zero.1 z.1)
  by_cases h3 : 2 < h.length
  · have hN' : h[(j + 2) % h.length]? = some N := by rw [hj2]; exact hN
    have t := hull_turn hh h3 hM hp' hN'
    rw [or_cr2, par, sg_zero] at t
    omega
  · -- at most two corners
    have hil := (List.getElem?_eq_some_iff.1 hi).1
    have hjl := (List.getElem?_eq_some_iff.1 hM).1
    have hMN : M = N := by
      have : (i + 1) % h.length = j := by
        have : h.length = 1 ∨ h.length = 2 := by omega
        rcases this with r | r
        · rw [r]; omega
        · rw [r] at hj ⊢; omega
      rw [this, hM] at hN
      injection hN
    subst hMN
    rw [vec_ng M p, cr_ngl, sg_neg, w1] at w2
    omega
theorem sep_strict {D h : List Point} (hh : IsHull orR ltQ D h) (hs : ¬ Strict h) : Sep1 D := by
  obtain ⟨i, u, v, hu, hv, ho⟩ : ∃ (i : Nat) (u v : Point), h[i]? = some u ∧ h[(i + 1) % h.length]? = some v ∧ orR u v p0 ≤ 0 := by
    apply Classical.byContradiction
    intro q
    refine hs fun i u v hu hv => ?_
    rcases Int.lt_or_le 0 (orR u v p0) with r | r
    · exact r
    · exact absurd ⟨i, u, v, hu, hv, r⟩ q
  by_cases h1 : h.length = 1
  · have one : ∀ d ∈ D, d = u := fun d hd => by
      have a := hh.one h1 d hd
      have b := List.mem_of_getElem? hu
      obtain ⟨x, hx⟩ := List.length_eq_one_iff.1 h1
      rw [hx] at a b
      simp at a b
      rw [a, b]
    have nz : Nz ((1, 0) : V) := .inl (by decide)
    by_cases s : 0 ≤ sg (cr (1, 0) (vec p0 u))
    · exact ⟨(1, 0), nz, fun d hd => by rw [one d hd]; exact s⟩
    · exact ⟨vng (1, 0), nz_ng nz, fun d hd => by rw [one d hd, cr_ngl, sg_neg]; omega⟩
  · have nx := hh.next h1 i u v hu hv
    refine ⟨vec u v, nz_vec fun q => nx.1 q.symm, fun d hd => ?_⟩
    rw [cr_vec _ p0 u d]
    refine sg_add_nn ?_ ?_
    · rw [vec_ng u p0, cr_ngr, sg_neg, ← or_cr]; omega
    · rw [← or_cr]; exact hull_left hh hu hv hd
theorem apart_sep1 {l x y : List Point} (hx : IsHull orR ltQ l x) (h : Apart x y) : Sep x y := by
  obtain ⟨i, u, v, hu, hv, hne, hz⟩ := h
  refine ⟨vec u v, nz_vec fun q => hne q.symm, fun a ha b hb => ?_⟩
  rw [cr_vec _ b u a]
  refine sg_add_nn ?_ ?_
  · rw [vec_ng u b, cr_ngr, sg_neg, ← or_cr]; have := hz b hb; omega
  · rw [← or_cr]; exact hull_left hx hu hv (hx.sub a ha)
theorem sep_comm {x y : List Point} (h : Sep x y) : Sep y x := by
  obtain ⟨e, he, h⟩ := h
  refine ⟨vng e, nz_ng he, fun a ha b hb => ?_⟩
  have := h b hb a ha
  rw [vec_ng a b, cr_ngl, cr_ngr, sg_neg, sg_neg]; omega
/-- the difference of two points -/
def dP (a b : Point) : Point := ⟨⟨a.X.A - b.X.A, a.X.B - b.X.B⟩, ⟨a.Y.A - b.Y.A, a.Y.B - b.Y.B⟩⟩
def dL (x y : List Point) : List Point := x.flatMap fun a => y.map fun b => dP a b
theorem vec_dP (a b : Point) : vec p0 (dP a b) = vec b a := by
  unfold vec vx vy dP p0 rt
  simp only [Prod.mk.injEq]
  constructor <;> ext <;> simp <;> omega
theorem cr_dP (e : V) (a b c d : Point) : cr e (vec (dP a b) (dP c d)) = cr e (vec a c) - cr e (vec b d) := by
  unfold cr vec vx vy dP rt; ext <;> simp <;> grind
theorem mem_dL {x y : List Point} {d : Point} : d ∈ dL x y ↔ ∃ a ∈ x, ∃ b ∈ y, d = dP a b := by
  unfold dL
  rw [List.mem_flatMap]
  constructor
  · rintro ⟨a, ha, h⟩
    obtain ⟨b, hb, rfl⟩ := List.mem_map.1 h
    exact ⟨a, ha, b, hb, rfl⟩
  · rintro ⟨a, ha, b, hb, rfl⟩
    exact ⟨a, ha, List.mem_map.2 ⟨b, hb, rfl⟩⟩
theorem sep_dL {x y : List Point} : Sep1 (dL x y) ↔ Sep x y := by
  constructor
  · rintro ⟨e, he, h⟩
    exact ⟨e, he, fun a ha b hb => by rw [← vec_dP]; exact h _ (mem_dL.2 ⟨a, ha, b, hb, rfl⟩)⟩
  · rintro ⟨e, he, h⟩
    refine ⟨e, he, fun d hd => ?_⟩
    obtain ⟨a, ha, b, hb, rfl⟩ := mem_dL.1 hd
    rw [vec_dP]; exact h a ha b hb
theorem sep_apart {l m x y hd : List Point} (hx : IsHull orR ltQ l x) (hy : IsHull orR ltQ m y) (hD : IsHull orR ltQ (dL x y) hd) (h2 : 2 ≤ y.length) (h : Sep x y) : Apart x y ∨ Apart y x := by
  have hns : ¬ Strict hd := fun s => strict_sep hD s (sep_dL.2 h)
  obtain ⟨i, u, v, hu, hv, ho⟩ : ∃ (i : Nat) (u v : Point), hd[i]? = some u ∧ hd[(i + 1) % hd.length]? = some v ∧ orR u v p0 ≤ 0 := by
    apply Classical.byContradiction
    intro q
    refine hns fun i u v hu hv => ?_
    rcases Int.lt_or_le 0 (orR u v p0) with r | r
    · exact r
    · exact absurd ⟨i, u, v, hu, hv, r⟩ q
  have h1 : hd.length ≠ 1 := fun q => by
    obtain ⟨m0, hm0, _⟩ := hx.min
    obtain ⟨y0, hy0⟩ : ∃ y0, y[0]? = some y0 := ⟨_, List.getElem?_eq_getElem (by omega)⟩
    obtain ⟨y1, hy1⟩ : ∃ y1, y[1]? = some y1 := ⟨_, List.getElem?_eq_getElem (by omega)⟩
    have d0 := hD.one q (dP m0 y0) (mem_dL.2 ⟨m0, List.mem_of_getElem? hm0, y0, List.mem_of_getElem? hy0, rfl⟩)
    have d1 := hD.one q (dP m0 y1) (mem_dL.2 ⟨m0, List.mem_of_getElem? hm0, y1, List.mem_of_getElem? hy1, rfl⟩)
    obtain ⟨z, hz⟩ := List.length_eq_one_iff.1 q
    rw [hz] at d0 d1
    simp at d0 d1
    have e : dP m0 y0 = dP m0 y1 := d0.trans d1.symm
    unfold dP at e
    simp only [Point.mk.injEq, Root.mk.injEq] at e
    have : y0 = y1 := by
      obtain ⟨⟨a, b⟩, c, d⟩ := y0
      obtain ⟨⟨a', b'⟩, c', d'⟩ := y1
      simp only at e
      simp only [Point.mk.injEq, Root.mk.injEq]
      omega
    subst this
    have := get_ne hy.nodup hy0 hy1
    omega
  have nx := hD.next h1 i u v hu hv
  have huv : u ≠ v := fun q => nx.1 q.symm
  obtain ⟨a1, ha1, b1, hb1, eu⟩ := mem_dL.1 (hD.sub u (List.mem_of_getElem? hu))
  obtain ⟨a2, ha2, b2, hb2, ev⟩ := mem_dL.1 nx.2.1
  obtain ⟨E, hE⟩ : ∃ E, vec u v = E := ⟨_, rfl⟩
  have hEn : Nz E := hE ▸ nz_vec huv
  have left_ : ∀ a ∈ x, ∀ b ∈ y, 0 ≤ sg (cr E (vec a1 a) - cr E (vec b1 b)) := fun a ha b hb => by
    rw [← cr_dP, ← eu, ← hE, ← or_cr]
    exact hull_left hD hu hv (mem_dL.2 ⟨a, ha, b, hb, rfl⟩)
  have zz : ∀ t : R3, t - 0 = t ∧ 0 - t = -t := fun t => ⟨by ext <;> simp, by ext <;> simp⟩
  have lx : ∀ a ∈ x, 0 ≤ sg (cr E (vec a1 a)) := fun a ha => by
    have := left_ a ha b1 hb1
    rw [cr_zero, (zz _).1] at this; exact this
  have ly : ∀ b ∈ y, sg (cr E (vec b1 b)) ≤ 0 := fun b hb => by
    have := left_ a1 ha1 b hb
    rw [cr_zero, (zz _).2, sg_neg] at this; omega
  have l0 : 0 ≤ sg (cr E (vec b1 a1)) := by
    rw [← vec_dP, ← eu, vec_ng u p0, cr_ngr, sg_neg, ← hE, ← or_cr]; omega
  have hz : cr E (vec a1 a2) = cr E (vec b1 b2) := by
    have h0 := cr_self E
    have h1 : cr E E = cr E (vec u v) := by rw [hE]
    rw [h1, eu, ev, cr_dP] at h0
    have ha := congrArg R3.a h0
    have hb := congrArg R3.b h0
    ext <;> simp at ha hb ⊢ <;> omega
  have z1 : cr E (vec a1 a2) = 0 := sg_eq_zero.1 (by have := lx a2 ha2; have q := ly b2 hb2; rw [← hz] at q; omega)
  have z2 : cr E (vec b1 b2) = 0 := hz ▸ z1
  by_cases ha : a1 = a2
  · have hb : b1 ≠ b2 := fun q => huv (by rw [eu, ev, ha, q])
    right
    obtain ⟨i, p, n, q1, q2, q3, q4⟩ := face hy (nz_ng hEn) hb1 hb2 hb (by rw [cr_ngl, z2, neg_zero']) (fun r hr => by rw [cr_ngl, sg_neg]; have := ly r hr; omega) (Z := x) (fun z hz' => by
      rw [cr_ngl, sg_neg, cr_vec E b1 a1 z]
      have := sg_add_nn l0 (lx z hz')
      omega)
    exact ⟨i, p, n, q1, q2, q3, q4⟩
  · left
    obtain ⟨i, p, n, q1, q2, q3, q4⟩ := face hx hEn ha1 ha2 ha z1 lx (Z := y) (fun z hz' => by
      have h1 : 0 ≤ sg (cr E (vec z b1) + cr E (vec b1 a1)) := sg_add_nn (by rw [vec_ng b1 z, cr_ngr, sg_neg]; have := ly z hz'; omega) l0
      rw [← cr_vec] at h1
      rw [vec_ng z a1, cr_ngr, sg_neg]; omega)
    exact ⟨i, p, n, q1, q2, q3, q4⟩
/-- corners are apart if and only if the points are -/
theorem sep_points {a b x y : List Point} (hx : IsHull orR ltQ a x) (hy : IsHull orR ltQ b y) : Sep x y ↔ Sep a b := by
  constructor
  · rintro ⟨e, he, h⟩
    obtain ⟨m, m1, _⟩ := hx.min
    obtain ⟨m', m1', _⟩ := hy.min
    obtain ⟨i, p, hi, hl⟩ := least_corner (h := x) (fun q => by rw [q] at m1; simp at m1) e
    obtain ⟨j, q, hj, hl'⟩ := least_corner (h := y) (fun q => by rw [q] at m1'; simp at m1') (vng e)
    have mp := List.mem_of_getElem? hi
    have mq := List.mem_of_getElem? hj
    refine ⟨e, he, fun r hr s hs => ?_⟩
    have c1 := all_left hx mp hl r hr
    have c2 := all_left hy mq hl' s hs
    rw [cr_ngl, sg_neg] at c2
    rw [cr_vec e s q r, cr_vec e q p r]
    refine sg_add_nn ?_ (sg_add_nn (h p mp q mq) c1)
    rw [vec_ng q s, cr_ngr, sg_neg]; omega
  · rintro ⟨e, he, h⟩
    exact ⟨e, he, fun r hr s hs => h r (hx.sub r hr) s (hy.sub s hs)⟩
end Go.SM
