/- Chains of points that turn to the left, and hulls: plain geometry over an orientation and an order. -/
set_option linter.unusedVariables false
set_option linter.unusedSimpArgs false
set_option linter.unusedSectionVars false
namespace Go.Geo
structure Plane {α : Type} (o : α → α → α → Int) (lt : α → α → Prop) : Prop where
  rot : ∀ a b c, o b c a = o a b c
  swap : ∀ a b c, o b a c = -o a b c
  irr : ∀ a, ¬ lt a a
  trans : ∀ a b c, lt a b → lt b c → lt a c
  tri : ∀ a b, a = b ∨ lt a b ∨ lt b a
  T : ∀ a p q r, lt a p → lt a q → lt a r → 0 ≤ o a p q → 0 ≤ o a q r → 0 ≤ o a p r
  L1 : ∀ a b c d, lt a b → lt b c → lt b d → 0 < o a b c → 0 ≤ o b c d → 0 < o a b d
  L2 : ∀ z a p r, lt z a → lt a p → lt r a → 0 < o z a p → 0 ≤ o z a r → 0 < o a p r
section
variable {α : Type} {o : α → α → α → Int} {lt : α → α → Prop} (H : Plane o lt)
/-- st: a chain along the points d, all of which lie on its left or on it -/
structure Ch (o : α → α → α → Int) (lt : α → α → Prop) (d st : List α) : Prop where
  sub : ∀ x ∈ st, x ∈ d
  asc : st.Pairwise lt
  head : st.head? = d.head?
  last : st.getLast? = d.getLast?
  turn : ∀ (i : Nat) u v x, st[i]? = some u → st[i + 1]? = some v → st[i + 2]? = some x → 0 < o u v x
  left : ∀ (i : Nat) u v r, st[i]? = some u → st[i + 1]? = some v → r ∈ d → 0 ≤ o u v r
include H
theorem Plane.self1 (a b : α) : o a a b = 0 := by have := H.swap a a b; omega
theorem Plane.self2 (a b : α) : o a b b = 0 := by have := H.rot a b b; have := H.rot b b a; have := H.self1 b a; omega
theorem Plane.self3 (a b : α) : o a b a = 0 := by have := H.rot a a b; have := H.self1 a b; rw [H.rot a a b] at *; have h := H.rot b a a; have := H.self2 b a; omega
theorem asc_lt {l : List α} (h : l.Pairwise lt) {i j : Nat} {x y : α} (hij : i < j) (hx : l[i]? = some x) (hy : l[j]? = some y) : lt x y := by
  obtain ⟨a, rfl⟩ := List.getElem?_eq_some_iff.1 hx
  obtain ⟨b, rfl⟩ := List.getElem?_eq_some_iff.1 hy
  exact List.pairwise_iff_getElem.1 h i j a b hij
theorem nodup_asc {l : List α} (h : l.Pairwise lt) : l.Nodup := h.imp fun {a b} q e => by subst e; exact H.irr _ q
/-- one more point to the right -/
theorem ch_push {d st : List α} (h : Ch o lt d st) (hd : d.Pairwise lt) {p : α} (hp : ∀ x ∈ d, lt x p) {k : Nat} (hk : k < st.length)
    (hpop : ∀ u v, st[k]? = some u → st[k + 1]? = some v → o u v p ≤ 0) (hstop : ∀ u v, 0 < k → st[k - 1]? = some u → st[k]? = some v → 0 < o u v p) :
    Ch o lt (d ++ [p]) (st.take (k + 1) ++ [p]) := by
  have tl : (st.take (k + 1)).length = k + 1 := by rw [List.length_take]; omega
  have old : ∀ (i : Nat), i ≤ k → (st.take (k + 1) ++ [p])[i]? = st[i]? := fun i hi => by
    rw [List.getElem?_append_left (by omega), List.getElem?_take, if_pos (by omega)]
  have new : (st.take (k + 1) ++ [p])[k + 1]? = some p := by rw [List.getElem?_append_right (by omega), tl, Nat.sub_self]; rfl
  have none : ∀ i, k + 1 < i → (st.take (k + 1) ++ [p])[i]? = none := fun i hi => by rw [List.getElem?_eq_none]; simp; omega
  -- the edges that stay have p on their left
  have olds : ∀ (n i : Nat), i + n + 1 = k → ∀ u v, st[i]? = some u → st[i + 1]? = some v → 0 < o u v p := by
    intro n
    induction n with
    | zero =>
      intro i hi u v hu hv
      obtain rfl : k = i + 1 := by omega
      exact hstop u v (by omega) (by simpa using hu) hv
    | succ n ih =>
      intro i hi u v hu hv
      obtain ⟨x, hx⟩ : ∃ x, st[i + 2]? = some x := ⟨_, List.getElem?_eq_getElem (by omega)⟩
      have h1 := h.turn i u v x hu hv hx
      have h2 := ih (i + 1) (by omega) v x hv hx
      exact H.L1 u v x p (asc_lt H h.asc (by omega) hu hv) (asc_lt H h.asc (by omega) hv hx) (hp v (h.sub v (List.mem_of_getElem? hv))) h1 (by omega)
  refine ⟨fun x hx => ?_, ?_, ?_, by simp, ?_, ?_⟩
  · rcases List.mem_append.1 hx with m | m
    · exact List.mem_append_left _ (h.sub x (List.mem_of_mem_take m))
    · exact List.mem_append_right _ m
  · rw [List.pairwise_append]
    refine ⟨h.asc.sublist (List.take_sublist _ _), by simp, fun x hx y hy => ?_⟩
    simp at hy
    subst hy
    exact hp x (h.sub x (List.mem_of_mem_take hx))
  · have hh := h.head
    cases st with
    | nil => simp at hk
    | cons s st =>
      cases d with
      | nil => simp at hh
      | cons e d => simpa using hh
  · intro i u v x hu hv hx
    by_cases e : i + 2 ≤ k
    · rw [old _ (by omega)] at hu hv hx
      exact h.turn i u v x hu hv hx
    · by_cases e2 : i + 2 = k + 1
      · rw [old _ (by omega)] at hu hv
        rw [e2, new] at hx
        injection hx with hx
        subst hx
        exact olds 0 i (by omega) u v hu hv
      · rw [none _ (by omega)] at hx; cases hx
  · intro i u v r hu hv hr
    by_cases e : i + 1 ≤ k
    · rw [old _ (by omega)] at hu hv
      rcases List.mem_append.1 hr with m | m
      · exact h.left i u v r hu hv m
      · simp at m; subst m
        have := olds (k - i - 1) i (by omega) u v hu hv
        omega
    · by_cases e2 : i = k
      · subst e2
        rw [old _ (by omega)] at hu
        rw [new] at hv
        injection hv with hv
        subst hv
        rcases List.mem_append.1 hr with m | m
        · -- against the new edge
          rcases H.tri u r with q | q | q
          · subst q; have := H.self3 u p; omega
          · -- r behind u: something was taken off
            by_cases hl : i + 1 < st.length
            · obtain ⟨x, hx⟩ : ∃ x, st[i + 1]? = some x := ⟨_, List.getElem?_eq_getElem hl⟩
              have h1 := hpop u x hu hx
              have h2 := h.left i u x r hu hx m
              have h3 : 0 ≤ o u p x := by
                have e1 := H.swap u x p
                have e2 := H.rot u p x
                have e3 := H.rot x u p
                omega
              exact H.T u p x r (hp u (h.sub u (List.mem_of_getElem? hu))) (asc_lt H h.asc (by omega) hu hx) q h3 h2
            · exfalso
              have hlast := h.last
              have : st.getLast? = some u := by rw [List.getLast?_eq_getElem?, show st.length - 1 = i from by omega]; exact hu
              rw [this] at hlast
              -- u is the last one
              obtain ⟨t, ht⟩ := List.getLast?_eq_some_iff.1 hlast.symm
              rw [ht, List.pairwise_append] at hd
              rw [ht] at m
              rcases List.mem_append.1 m with m | m
              · exact H.irr u (H.trans _ _ _ q (hd.2.2 r m u (by simp)))
              · simp at m; subst m; exact H.irr _ q
          · have hk0 : 0 < i := by
              rcases Nat.eq_zero_or_pos i with z | z
              · exfalso
                subst z
                have hh := h.head
                cases st with
                | nil => simp at hk
                | cons s st =>
                  cases d with
                  | nil => simp at hh
                  | cons e d =>
                    simp at hu hh
                    subst hu hh
                    rcases List.mem_cons.1 m with m | m
                    · subst m; exact H.irr _ q
                    · exact H.irr _ (H.trans _ _ _ q ((List.pairwise_cons.1 hd).1 r m))
              · exact z
            obtain ⟨z, hz⟩ : ∃ z, st[i - 1]? = some z := ⟨_, List.getElem?_eq_getElem (by omega)⟩
            have hz1 : st[i - 1 + 1]? = some u := by rw [show i - 1 + 1 = i from by omega]; exact hu
            have h1 := hstop z u hk0 hz hu
            have h2 := h.left (i - 1) z u r hz hz1 m
            have := H.L2 z u p r (asc_lt H h.asc (show i - 1 < i by omega) hz hu) (hp u (h.sub u (List.mem_of_getElem? hu))) q h1 h2
            omega
        · simp at m; subst m
          have := H.self2 u r; omega
      · rw [none _ (by omega)] at hv; cases hv
theorem ch_start (p : α) : Ch o lt [p] [p] := by
  refine ⟨fun x hx => hx, by simp, rfl, rfl, fun i u v x _ hv _ => ?_, fun i u v r _ hv _ => ?_⟩
  · simp at hv
  · simp at hv
/-- what may come next on a hull: all points lie on the left of the line, or between its ends -/
def Btw (lt : α → α → Prop) (p r q : α) : Prop := ((r = p ∨ lt p r) ∧ (r = q ∨ lt r q)) ∨ ((r = p ∨ lt r p) ∧ (r = q ∨ lt q r))
def Nx (o : α → α → α → Int) (lt : α → α → Prop) (l : List α) (p q : α) : Prop := q ≠ p ∧ q ∈ l ∧ ∀ r ∈ l, 0 < o p q r ∨ (o p q r = 0 ∧ Btw lt p r q)
theorem nx_one {l : List α} {p q q' : α} (h : Nx o lt l p q) (h' : Nx o lt l p q') : q = q' := by
  obtain ⟨h1, h2, h3⟩ := h
  obtain ⟨h1', h2', h3'⟩ := h'
  have e : o p q' q = -o p q q' := by
    have e1 := H.swap q p q'
    have e2 := H.rot p q q'
    have e3 := H.rot p q' q
    have e4 := H.rot q' q p
    have e5 := H.swap p q q'
    have e6 := H.rot q' p q
    omega
  have a := h3 q' h2'
  have b := h3' q h2
  have ba : Btw lt p q' q := by
    rcases a with a | ⟨a, c⟩
    · rcases b with b | ⟨b, _⟩ <;> omega
    · exact c
  have bb : Btw lt p q q' := by
    rcases b with b | ⟨b, c⟩
    · rcases a with a | ⟨a, _⟩ <;> omega
    · exact c
  have as : ∀ {x y}, lt x y → lt y x → False := fun {x y} u v => H.irr x (H.trans _ _ _ u v)
  unfold Btw at ba bb
  rcases ba with ⟨u1, u2⟩ | ⟨u1, u2⟩ <;> rcases bb with ⟨v1, v2⟩ | ⟨v1, v2⟩
  · rcases u2 with u2 | u2
    · exact u2.symm
    · rcases v2 with v2 | v2
      · exact v2
      · exact (as u2 v2).elim
  · rcases u1 with u1 | u1
    · exact absurd u1 h1'
    · rcases v1 with v1 | v1
      · exact absurd v1 h1
      · rcases u2 with u2 | u2
        · exact u2.symm
        · exact (as (H.trans _ _ _ u1 u2) v1).elim
  · rcases u1 with u1 | u1
    · exact absurd u1 h1'
    · rcases v1 with v1 | v1
      · exact absurd v1 h1
      · rcases u2 with u2 | u2
        · exact u2.symm
        · exact (as (H.trans _ _ _ u2 u1) v1).elim
  · rcases u2 with u2 | u2
    · exact u2.symm
    · rcases v2 with v2 | v2
      · exact v2
      · exact (as u2 v2).elim
/-- the edges of a chain along all points lead to what comes next -/
theorem ch_next {d st : List α} (h : Ch o lt d st) (hd : d.Pairwise lt) {i : Nat} {u v : α} (hu : st[i]? = some u) (hv : st[i + 1]? = some v) : Nx o lt d u v := by
  have huv := asc_lt H h.asc (Nat.lt_succ_self i) hu hv
  refine ⟨fun e => H.irr u (e ▸ huv), h.sub v (List.mem_of_getElem? hv), fun r hr => ?_⟩
  have h0 := h.left i u v r hu hv hr
  by_cases hz : o u v r = 0
  case neg => left; omega
  right
  refine ⟨hz, .inl ⟨?_, ?_⟩⟩
  · rcases H.tri r u with q | q | q
    · exact .inl q
    · exfalso
      rcases Nat.eq_zero_or_pos i with z | z
      · subst z
        have hh := h.head
        cases st with
        | nil => simp at hu
        | cons s st =>
          cases d with
          | nil => simp at hh
          | cons e d =>
            simp at hu hh
            subst hu hh
            rcases List.mem_cons.1 hr with m | m
            · subst m; exact H.irr _ q
            · exact H.irr _ (H.trans _ _ _ q ((List.pairwise_cons.1 hd).1 r m))
      · obtain ⟨w, hw⟩ : ∃ w, st[i - 1]? = some w := ⟨_, List.getElem?_eq_getElem (by have := (List.getElem?_eq_some_iff.1 hu).1; omega)⟩
        have hw1 : st[i - 1 + 1]? = some u := by rw [show i - 1 + 1 = i from by omega]; exact hu
        have hw2 : st[i - 1 + 2]? = some v := by rw [show i - 1 + 2 = i + 1 from by omega]; exact hv
        have t1 := h.turn (i - 1) w u v hw hw1 hw2
        have t2 := h.left (i - 1) w u r hw hw1 hr
        have := H.L2 w u v r (asc_lt H h.asc (show i - 1 < i by omega) hw hu) huv q t1 t2
        omega
    · exact .inr q
  · rcases H.tri r v with q | q | q
    · exact .inl q
    · exact .inr q
    · exfalso
      by_cases hl : i + 2 < st.length
      · obtain ⟨w, hw⟩ : ∃ w, st[i + 2]? = some w := ⟨_, List.getElem?_eq_getElem hl⟩
        have t1 := h.turn i u v w hu hv hw
        have t2 := h.left (i + 1) v w r hv hw hr
        have := H.L1 u v w r huv (asc_lt H h.asc (show i + 1 < i + 2 by omega) hv hw) q t1 t2
        omega
      · have hvl := (List.getElem?_eq_some_iff.1 hv).1
        have hlast := h.last
        have : st.getLast? = some v := by rw [List.getLast?_eq_getElem?, show st.length - 1 = i + 1 from by omega]; exact hv
        rw [this] at hlast
        obtain ⟨t, ht⟩ := List.getLast?_eq_some_iff.1 hlast.symm
        rw [ht, List.pairwise_append] at hd
        rw [ht] at hr
        rcases List.mem_append.1 hr with m | m
        · exact H.irr _ (H.trans _ _ _ q (hd.2.2 r m v (by simp)))
        · simp at m; subst m; exact H.irr _ q
omit H in
theorem btw_flip {p r q : α} : Btw (fun a b => lt b a) p r q ↔ Btw lt p r q := by unfold Btw; exact Or.comm
omit H in
theorem nx_flip {l : List α} {p q : α} : Nx o (fun a b => lt b a) l p q ↔ Nx o lt l p q := by unfold Nx; simp only [btw_flip]
omit H in
theorem nx_mem {l l' : List α} (h : ∀ x, x ∈ l ↔ x ∈ l') {p q : α} : Nx o lt l p q ↔ Nx o lt l' p q := by unfold Nx; simp only [h]
/-- h: the corners of the hull of l, from its least point on -/
structure IsHull (o : α → α → α → Int) (lt : α → α → Prop) (l h : List α) : Prop where
  sub : ∀ x ∈ h, x ∈ l
  nodup : h.Nodup
  min : ∃ m, h[0]? = some m ∧ ∀ x ∈ l, x = m ∨ lt m x
  one : h.length = 1 → ∀ x ∈ l, x ∈ h
  next : h.length ≠ 1 → ∀ (i : Nat) u v, h[i]? = some u → h[(i + 1) % h.length]? = some v → Nx o lt l u v
omit H in
theorem IsHull.of_mem {l l' h : List α} (e : ∀ x, x ∈ l ↔ x ∈ l') (hh : IsHull o lt l h) : IsHull o lt l' h :=
  ⟨fun x hx => (e x).1 (hh.sub x hx), hh.nodup, hh.min.imp fun m q => ⟨q.1, fun x hx => q.2 x ((e x).2 hx)⟩, fun q x hx => hh.one q x ((e x).2 hx), fun q i u v hu hv => (nx_mem e).1 (hh.next q i u v hu hv)⟩
omit H in
theorem get_ne {h : List α} (hn : h.Nodup) {i j : Nat} {x : α} (hi : h[i]? = some x) (hj : h[j]? = some x) : i = j := by
  obtain ⟨a, ha⟩ := List.getElem?_eq_some_iff.1 hi
  obtain ⟨b, hb⟩ := List.getElem?_eq_some_iff.1 hj
  rcases Nat.lt_trichotomy i j with q | q | q
  · exact absurd (ha.trans hb.symm) (List.pairwise_iff_getElem.1 hn i j a b q)
  · exact q
  · exact absurd (hb.trans ha.symm) (List.pairwise_iff_getElem.1 hn j i b a q)
theorem hull_unique {l h h' : List α} (a : IsHull o lt l h) (b : IsHull o lt l h') : h = h' := by
  obtain ⟨m, m1, m2⟩ := a.min
  obtain ⟨m', m1', m2'⟩ := b.min
  have em : m = m' := by
    rcases m2 m' (b.sub m' (List.mem_of_getElem? m1')) with q | q
    · exact q.symm
    · rcases m2' m (a.sub m (List.mem_of_getElem? m1)) with r | r
      · exact r
      · exact absurd (H.trans _ _ _ q r) (H.irr m)
  subst em
  have la : 0 < h.length := (List.getElem?_eq_some_iff.1 m1).1
  have lb : 0 < h'.length := (List.getElem?_eq_some_iff.1 m1').1
  -- one corner only
  have single : ∀ {h h' : List α}, IsHull o lt l h → IsHull o lt l h' → h.length = 1 → h'.length = 1 := fun {h h'} a b q => by
    obtain ⟨x, rfl⟩ := List.length_eq_one_iff.1 q
    have hx : ∀ y ∈ h', y = x := fun y hy => by simpa using a.one q y (b.sub y hy)
    obtain ⟨m, m1, _⟩ := b.min
    cases h' with
    | nil => simp at m1
    | cons u t => cases t with
      | nil => rfl
      | cons v t =>
        exfalso
        have e1 := hx u (by simp)
        have e2 := hx v (by simp)
        have := b.nodup
        rw [List.nodup_cons] at this
        exact this.1 (by rw [e1, e2]; simp)
  by_cases q : h.length = 1
  · have q' := single a b q
    obtain ⟨x, rfl⟩ := List.length_eq_one_iff.1 q
    obtain ⟨y, rfl⟩ := List.length_eq_one_iff.1 q'
    simp at m1 m1'
    rw [m1, m1']
  have q' : h'.length ≠ 1 := fun e => q (single b a e)
  have same : ∀ i, i < h.length → i < h'.length → h[i]? = h'[i]? := by
    intro i
    induction i with
    | zero => intro _ _; rw [m1, m1']
    | succ i ih =>
      intro h1 h2
      have e := ih (by omega) (by omega)
      obtain ⟨u, hu⟩ : ∃ u, h[i]? = some u := ⟨_, List.getElem?_eq_getElem (by omega)⟩
      obtain ⟨v, hv⟩ : ∃ v, h[i + 1]? = some v := ⟨_, List.getElem?_eq_getElem h1⟩
      obtain ⟨w, hw⟩ : ∃ w, h'[i + 1]? = some w := ⟨_, List.getElem?_eq_getElem h2⟩
      have n1 := a.next q i u v hu (by rw [Nat.mod_eq_of_lt h1]; exact hv)
      have n2 := b.next q' i u w (by rw [← e]; exact hu) (by rw [Nat.mod_eq_of_lt h2]; exact hw)
      rw [hv, hw, nx_one H n1 n2]
  have len : ∀ {h h' : List α}, IsHull o lt l h → IsHull o lt l h' → h.length ≠ 1 → h'.length ≠ 1 → 0 < h.length → (∀ i, i < h.length → i < h'.length → h[i]? = h'[i]?) → ¬ h.length < h'.length := fun {h h'} a b q q' la same hlt => by
    obtain ⟨u, hu⟩ : ∃ u, h[h.length - 1]? = some u := ⟨_, List.getElem?_eq_getElem (by omega)⟩
    obtain ⟨m, hm⟩ : ∃ m, h[0]? = some m := ⟨_, List.getElem?_eq_getElem la⟩
    obtain ⟨w, hw⟩ : ∃ w, h'[h.length]? = some w := ⟨_, List.getElem?_eq_getElem hlt⟩
    have n1 := a.next q (h.length - 1) u m hu (by rw [show h.length - 1 + 1 = h.length from by omega, Nat.mod_self]; exact hm)
    have n2 := b.next q' (h.length - 1) u w (by rw [← same _ (by omega) (by omega)]; exact hu) (by rw [show h.length - 1 + 1 = h.length from by omega, Nat.mod_eq_of_lt hlt]; exact hw)
    have e := nx_one H n1 n2
    subst e
    rw [same 0 la (by omega)] at hm
    have := get_ne b.nodup hm hw
    omega
  have hl : h.length = h'.length := by
    have l1 := len a b q q' la same
    have l2 := len b a q' q lb fun i i1 i2 => (same i i2 i1).symm
    omega
  refine List.ext_getElem? fun i => ?_
  by_cases hi : i < h.length
  · exact same i hi (by omega)
  · rw [List.getElem?_eq_none (by omega), List.getElem?_eq_none (by omega)]
/-- the two chains make the hull -/
theorem hull_chains {d low high : List α} (H' : Plane o fun a b => lt b a) (hd : d.Pairwise lt) (h2 : 2 ≤ d.length) (hl : Ch o lt d low) (hh : Ch o (fun a b => lt b a) d.reverse high) :
    IsHull o lt d (low.dropLast ++ high.dropLast) := by
  obtain ⟨m, hm⟩ : ∃ m, d[0]? = some m := ⟨_, List.getElem?_eq_getElem (by omega)⟩
  obtain ⟨M, hM⟩ : ∃ M, d[d.length - 1]? = some M := ⟨_, List.getElem?_eq_getElem (by omega)⟩
  have hmM : lt m M := asc_lt H hd (show 0 < d.length - 1 by omega) hm hM
  have dr : d.reverse.Pairwise fun a b => lt b a := by rw [List.pairwise_reverse]; exact hd
  have l0 : low.head? = some m := by rw [hl.head, List.head?_eq_getElem?]; exact hm
  have l1 : low.getLast? = some M := by rw [hl.last, List.getLast?_eq_getElem?]; exact hM
  have u0 : high.head? = some M := by rw [hh.head, List.head?_reverse, List.getLast?_eq_getElem?]; exact hM
  have u1 : high.getLast? = some m := by rw [hh.last, List.getLast?_reverse, List.head?_eq_getElem?]; exact hm
  rw [List.head?_eq_getElem?] at l0 u0
  rw [List.getLast?_eq_getElem?] at l1 u1
  have ls : 2 ≤ low.length := by
    have := (List.getElem?_eq_some_iff.1 l0).1
    rcases Nat.lt_or_ge low.length 2 with q | q
    · rw [show low.length - 1 = 0 from by omega, l0] at l1
      injection l1 with l1; exact absurd (l1 ▸ hmM) (H.irr _)
    · exact q
  have us : 2 ≤ high.length := by
    have := (List.getElem?_eq_some_iff.1 u0).1
    rcases Nat.lt_or_ge high.length 2 with q | q
    · rw [show high.length - 1 = 0 from by omega, u0] at u1
      injection u1 with u1; exact absurd (u1 ▸ hmM) (H.irr _)
    · exact q
  have nl : ∀ i u v, low[i]? = some u → low[i + 1]? = some v → Nx o lt d u v := fun i u v hu hv => ch_next H hl hd hu hv
  have nh : ∀ i u v, high[i]? = some u → high[i + 1]? = some v → Nx o lt d u v := fun i u v hu hv =>
    (nx_mem fun x => List.mem_reverse).1 (nx_flip.1 (ch_next H' hh dr hu hv))
  have len : (low.dropLast ++ high.dropLast).length = (low.length - 1) + (high.length - 1) := by simp
  have gl : ∀ i, i < low.length - 1 → (low.dropLast ++ high.dropLast)[i]? = low[i]? := fun i hi => by
    rw [List.getElem?_append_left (by simp; omega), List.getElem?_dropLast, if_pos hi]
  have gh : ∀ i, i < high.length - 1 → (low.dropLast ++ high.dropLast)[low.length - 1 + i]? = high[i]? := fun i hi => by
    rw [List.getElem?_append_right (by simp), List.length_dropLast, show low.length - 1 + i - (low.length - 1) = i from by omega, List.getElem?_dropLast, if_pos hi]
  refine ⟨fun x hx => ?_, ?_, ⟨m, by rw [gl 0 (by omega)]; exact l0, fun x hx => ?_⟩, fun q => by omega, fun _ i u v hu hv => ?_⟩
  · rcases List.mem_append.1 hx with q | q
    · exact hl.sub x ((List.dropLast_subset _) q)
    · exact List.mem_reverse.1 (hh.sub x ((List.dropLast_subset _) q))
  · rw [List.nodup_append]
    refine ⟨(nodup_asc H hl.asc).sublist (List.dropLast_sublist _), (nodup_asc H' hh.asc).sublist (List.dropLast_sublist _), fun x hx y hy e => ?_⟩
    subst e
    obtain ⟨i, hi⟩ := List.mem_iff_getElem?.1 hx
    obtain ⟨j, hj⟩ := List.mem_iff_getElem?.1 hy
    have i1 := (List.getElem?_eq_some_iff.1 hi).1
    have j1 := (List.getElem?_eq_some_iff.1 hj).1
    rw [List.length_dropLast] at i1 j1
    rw [List.getElem?_dropLast, if_pos i1] at hi
    rw [List.getElem?_dropLast, if_pos j1] at hj
    obtain ⟨v, hv⟩ : ∃ v, low[i + 1]? = some v := ⟨_, List.getElem?_eq_getElem (by omega)⟩
    obtain ⟨w, hw⟩ : ∃ w, high[j + 1]? = some w := ⟨_, List.getElem?_eq_getElem (by omega)⟩
    have e := nx_one H (nl i x v hi hv) (nh j x w hj hw)
    subst e
    have a1 := asc_lt H hl.asc (Nat.lt_succ_self i) hi hv
    have a2 := asc_lt H' hh.asc (Nat.lt_succ_self j) hj hw
    exact H.irr _ (H.trans _ _ _ a1 a2)
  · obtain ⟨i, hi⟩ := List.mem_iff_getElem?.1 hx
    rcases Nat.eq_zero_or_pos i with q | q
    · subst q; rw [hm] at hi; injection hi with hi; exact .inl hi.symm
    · exact .inr (asc_lt H hd q hm hi)
  · have hi := (List.getElem?_eq_some_iff.1 hu).1
    rw [len] at hi hv
    by_cases c1 : i < low.length - 1
    · rw [gl i c1] at hu
      by_cases c2 : i + 1 < low.length - 1
      · rw [Nat.mod_eq_of_lt (by omega), gl (i + 1) c2] at hv
        exact nl i u v hu hv
      · rw [Nat.mod_eq_of_lt (by omega), show i + 1 = low.length - 1 + 0 from by omega, gh 0 (by omega), u0] at hv
        injection hv with hv
        subst hv
        exact nl i u M hu (by rw [show i + 1 = low.length - 1 from by omega]; exact l1)
    · obtain ⟨j, rfl⟩ : ∃ j, i = low.length - 1 + j := ⟨i - (low.length - 1), by omega⟩
      rw [gh j (by omega)] at hu
      by_cases c2 : j + 1 < high.length - 1
      · rw [Nat.mod_eq_of_lt (by omega), show low.length - 1 + j + 1 = low.length - 1 + (j + 1) from by omega, gh (j + 1) c2] at hv
        exact nh j u v hu hv
      · rw [show low.length - 1 + j + 1 = low.length - 1 + (high.length - 1) from by omega, Nat.mod_self, gl 0 (by omega), l0] at hv
        injection hv with hv
        subst hv
        exact nh j u m hu (by rw [show j + 1 = high.length - 1 from by omega]; exact u1)
/-- one or two points are their own hull -/
theorem hull_one (m : α) : IsHull o lt [m] [m] := ⟨fun _ h => h, by simp, ⟨m, rfl, fun x hx => .inl (by simpa using hx)⟩, fun _ _ h => h, fun q => absurd rfl q⟩
theorem hull_two {m M : α} (h : lt m M) : IsHull o lt [m, M] [m, M] := by
  have ne : m ≠ M := fun e => H.irr _ (e ▸ h)
  have n1 : Nx o lt [m, M] m M := ⟨fun e => ne e.symm, by simp, fun r hr => by
    simp at hr
    rcases hr with rfl | rfl
    · exact .inr ⟨H.self3 _ _, .inl ⟨.inl rfl, .inr h⟩⟩
    · exact .inr ⟨H.self2 _ _, .inl ⟨.inr h, .inl rfl⟩⟩⟩
  have n2 : Nx o lt [m, M] M m := ⟨ne, by simp, fun r hr => by
    simp at hr
    rcases hr with rfl | rfl
    · exact .inr ⟨H.self2 _ _, .inr ⟨.inr h, .inl rfl⟩⟩
    · exact .inr ⟨H.self3 _ _, .inr ⟨.inl rfl, .inr h⟩⟩⟩
  refine ⟨fun _ h => h, by simp [ne], ⟨m, rfl, fun x hx => ?_⟩, fun q => by simp at q, fun _ i u v hu hv => ?_⟩
  · simp at hx; rcases hx with rfl | rfl
    · exact .inl rfl
    · exact .inr h
  · match i with
    | 0 => simp at hu hv; subst hu hv; exact n1
    | 1 => simp at hu hv; subst hu hv; exact n2
    | i + 2 => simp at hu
end
end Go.Geo
