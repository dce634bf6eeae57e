/- Stores: into a box, into a row. -/
import Derived.Test.YtiodkdpfkchkjaaVIRep
set_option linter.unusedVariables false
set_option linter.unusedSimpArgs false
set_option linter.unusedSectionVars false
namespace Go.VI
open Go.RowKit

theorem setAt_length (ws cs : List PV) (off : Nat) : (setAt cs off ws).length = cs.length := by
  induction ws generalizing cs off with
  | nil => rfl
  | cons v ws ih => rw [setAt, ih]; simp
theorem setAt_get (ws : List PV) : ∀ (cs : List PV) (off i : Nat), (setAt cs off ws)[i]? = if off ≤ i ∧ i < off + ws.length ∧ i < cs.length then ws[i - off]? else cs[i]? := by
  induction ws with
  | nil => intro cs off i; simp [setAt]; intros; omega
  | cons v ws ih =>
    intro cs off i
    rw [setAt, ih]
    by_cases h : i = off
    · subst h
      by_cases hl : i < cs.length
      · rw [if_neg (by omega)]; simp [hl]
      · have : cs[i]? = none := by simp; omega
        simp [hl]
    · by_cases h1 : off + 1 ≤ i ∧ i < off + 1 + ws.length ∧ i < cs.length
      · rw [if_pos ⟨h1.1, h1.2.1, by simpa using h1.2.2⟩, if_pos ⟨by omega, by simp; omega, h1.2.2⟩]
        have : i - off = (i - (off + 1)) + 1 := by omega
        rw [this, List.getElem?_cons_succ]
      · rw [if_neg (by rintro ⟨a, b, c⟩; exact h1 ⟨a, b, by simpa using c⟩), if_neg (by rintro ⟨a, b, c⟩; exact h1 ⟨by omega, by simp at b; omega, c⟩)]
        rw [List.getElem?_set_ne (by omega)]

/-- A store into the box g. -/
theorem RV.upd {P : Program} {B : Nat → Prop} {w w' : World} {c : Ctx} (ok : c.Ok B w) {g off : Nat} {ws : List PV} (hG : c.D g false) {v0 v1 : Array Value} {T T' : TypeId}
    (hh : w.heap[c.τ g]? = some (.cells v0 T (0, 0))) (hh' : w'.heap[c.τ g]? = some (.cells v1 T' (0, 0))) (hsz : v1.size = v0.size)
    (hold : ∀ i, ¬ (off ≤ i ∧ i < off + ws.length) → v1.getD i undef = v0.getD i undef) (hnew : ∀ (j : Nat) pv, ws[j]? = some pv → RV P w' c pv (v1.getD (off + j) undef))
    (hoth : ∀ b, b ≠ c.τ g → w'.heap[b]? = w.heap[b]?) {pv : PV} {v : Value} (r : RV P w c pv v) : RV P w' c (pv.upd g off ws) v := by
  have hSame : Same c.S w w' := fun b hb => hoth b fun e => (ok.hD g false hG).2.2 (e ▸ hb)
  induction r with
  | free pv v h => rw [upd_free g off ws pv (has_free g pv h.free)]; exact .free pv v (h.same hSame fun _ h => h)
  | own g' e es v xs hk0 hk ho hb h1 hr =>
    rw [PV.upd]
    refine .own g' e es v xs hk0 hk (ownsRow_same ho fun b hb' => hoth b fun e => ?_) hb h1 (fun i j pv hg => (hr i j pv hg).same hSame fun _ h => h)
    obtain ⟨h1, h2⟩ := hb b hb'
    have := (ok.inj _ _ _ _ h1 hG (by rw [h2, e])).2
    cases this
  | optr g' e es i o xs cap hk0 hk ho hb h1 hr =>
    rw [PV.upd]
    refine .optr g' e es i o xs cap hk0 hk (ownsRow_same ho fun b hb' => hoth b fun e => ?_) hb h1 (fun i j pv hg => (hr i j pv hg).same hSame fun _ h => h)
    simp [Value.ownBlock] at hb'
    have := (ok.inj _ _ _ _ hb hG (by rw [hb', e])).2
    cases this
  | agg cs vs hn hr ih =>
    rw [PV.upd]
    refine .agg _ vs (by rw [updL_length, hn]) fun i pv hg => ?_
    rw [updL_get] at hg
    cases hc : cs[i]? <;> simp [hc] at hg
    subst hg; exact ih i _ hc
  | tup cs vs hn hr ih =>
    rw [PV.upd]
    refine .tup _ vs (by rw [updL_length, hn]) fun i pv hg => ?_
    rw [updL_get] at hg
    cases hc : cs[i]? <;> simp [hc] at hg
    subst hg; exact ih i _ hc
  | fn f cs vs hn hr ih =>
    rw [PV.upd]
    refine .fn f _ vs (by rw [updL_length, hn]) fun i pv hg => ?_
    rw [updL_get] at hg
    cases hc : cs[i]? <;> simp [hc] at hg
    subst hg; exact ih i _ hc
  | ptr g' cs o vs T1 hb hh1 hn hr ih =>
    rw [PV.upd]
    split
    · rename_i he
      subst he
      rw [hh] at hh1
      injection hh1 with hh1
      injection hh1 with hv _ _
      subst hv
      refine .ptr g _ o v1 T' hb hh' (by rw [setAt_length, updL_length, hsz, hn]) fun i pv hg => ?_
      rw [setAt_get] at hg
      split at hg
      · rename_i hi
        have := hnew (i - off) pv hg
        rwa [show off + (i - off) = i from by omega] at this
      · rename_i hi
        rw [updL_get] at hg
        cases hc : cs[i]? <;> simp [hc] at hg
        subst hg
        have hil : i < cs.length := by
          rcases Nat.lt_or_ge i cs.length with h | h
          · exact h
          · rw [List.getElem?_eq_none h] at hc; cases hc
        rw [hold i (fun hh => hi ⟨hh.1, hh.2, by rw [updL_length]; exact hil⟩)]
        exact ih i _ hc
    · rename_i he
      refine .ptr g' _ o vs T1 hb ?_ (by rw [updL_length, hn]) fun i pv hg => ?_
      · rw [hoth _ fun e => he (ok.inj _ _ _ _ hG hb e.symm).1]; exact hh1
      · rw [updL_get] at hg
        cases hc : cs[i]? <;> simp [hc] at hg
        subst hg; exact ih i _ hc

theorem idx_inj {a b i c k : Nat} (hb : b < k) (hc : c < k) (h : a * k + b = i * k + c) : a = i ∧ b = c := by
  rcases Nat.lt_trichotomy a i with hl | rfl | hl
  · have := Nat.mul_le_mul_right k hl
    rw [Nat.succ_mul] at this
    omega
  · exact ⟨rfl, by omega⟩
  · have := Nat.mul_le_mul_right k hl
    rw [Nat.succ_mul] at this
    omega
theorem idx_lt {a b n k : Nat} (ha : a < n) (hb : b < k) : a * k + b < n * k := by
  have := Nat.mul_le_mul_right k ha
  rw [Nat.succ_mul] at this
  omega
theorem getE_lt {es : List (List PV)} {k a b : Nat} {pv : PV} (hk : ∀ l ∈ es, l.length = k) (h : getE es a b = some pv) : a < es.length ∧ b < k := by
  unfold getE at h
  cases ha : es[a]? with
  | none => simp [ha] at h
  | some l =>
    simp [ha] at h
    have := hk l (List.mem_of_getElem? ha)
    have hb : b < l.length := by
      rcases Nat.lt_or_ge b l.length with h' | h'
      · exact h'
      · rw [List.getElem?_eq_none h'] at h; cases h
    have ha' : a < es.length := by
      rcases Nat.lt_or_ge a es.length with h' | h'
      · exact h'
      · rw [List.getElem?_eq_none h'] at ha; cases ha
    exact ⟨ha', by omega⟩
theorem setRow_length (es : List (List PV)) (i off : Nat) (ws : List PV) : (setRow es i off ws).length = es.length := by simp [setRow]
theorem setRow_len {es : List (List PV)} {k : Nat} (hk : ∀ l ∈ es, l.length = k) (i off : Nat) (ws : List PV) : ∀ l ∈ setRow es i off ws, l.length = k := by
  intro l hl
  obtain ⟨j, hj⟩ := List.mem_iff_getElem?.1 hl
  rw [setRow, List.getElem?_modify] at hj
  cases he : es[j]? with
  | none => simp [he] at hj
  | some l' =>
    have := hk l' (List.mem_of_getElem? he)
    simp only [he, Option.map_eq_map, Option.map_some] at hj
    split at hj
    · simp at hj; subst hj; rw [setAt_length]; exact this
    · simp at hj; subst hj; exact this
theorem setRow_get {es : List (List PV)} {k : Nat} (hk : ∀ l ∈ es, l.length = k) {i off : Nat} {ws : List PV} (a b : Nat) (pv : PV) (h : getE (setRow es i off ws) a b = some pv) :
    (a = i ∧ off ≤ b ∧ b < off + ws.length ∧ ws[b - off]? = some pv) ∨ (¬ (a = i ∧ off ≤ b ∧ b < off + ws.length) ∧ getE es a b = some pv) := by
  have hlt := getE_lt (setRow_len hk i off ws) h
  unfold getE setRow at h
  rw [List.getElem?_modify] at h
  cases he : es[a]? with
  | none => simp [he] at h
  | some l =>
    have hl := hk l (List.mem_of_getElem? he)
    simp only [he, Option.map_eq_map, Option.map_some] at h
    by_cases hai : i = a
    · simp only [hai, if_true, Option.bind_some] at h
      rw [setAt_get] at h
      split at h
      · rename_i hh; exact .inl ⟨hai.symm, hh.1, hh.2.1, h⟩
      · rename_i hh
        refine .inr ⟨fun hx => hh ⟨hx.2.1, hx.2.2, by omega⟩, ?_⟩
        unfold getE; rw [he]; exact h
    · simp only [hai, if_false, Option.bind_some] at h
      refine .inr ⟨fun hx => hai hx.1.symm, ?_⟩
      unfold getE; rw [he]; exact h

theorem take_getD (l : List Value) (n i : Nat) (h : i < n) : (l.take n).getD i undef = l.getD i undef := by
  simp [h]

/-- the own row's cells behind a store -/
theorem row_upd {P : Program} {w w' : World} {S : Nat → Prop} {g e : Nat} {es : List (List PV)} {xs : List Value} {cap : Nat} (hk0 : 0 < tSize P e) (hk : ∀ l ∈ es, l.length = tSize P e)
    (ho : w.ownsRow 0 e (tSize P e) (.slice (some ⟨g, 0, none⟩) es.length cap) es.length xs)
    (h1 : ∀ i j pv, getE es i j = some pv → (xs.getD (i * tSize P e + j) undef).oneCell' = true)
    (hr : ∀ i j pv, getE es i j = some pv → RF w S pv (xs.getD (i * tSize P e + j) undef)) (hSame : Same S w w')
    {i off : Nat} {ws : List PV} {c0 c1 : Array Value} {T : TypeId} (hfit : off + ws.length ≤ tSize P e)
    (hh : w.heap[g]? = some (.cells c0 T (0, 0))) (hh' : w'.heap[g]? = some (.cells c1 T (0, 0))) (hsz : c1.size = c0.size)
    (hold : ∀ m, ¬ (i * tSize P e + off ≤ m ∧ m < i * tSize P e + off + ws.length) → c1.getD m undef = c0.getD m undef)
    (hnew : ∀ (j : Nat) pv, ws[j]? = some pv → RF w' S pv (c1.getD (i * tSize P e + off + j) undef) ∧ (c1.getD (i * tSize P e + off + j) undef).oneCell' = true) :
    ∃ xs', w'.ownsRow 0 e (tSize P e) (.slice (some ⟨g, 0, none⟩) (setRow es i off ws).length cap) (setRow es i off ws).length xs' ∧
      (∀ a b pv, getE (setRow es i off ws) a b = some pv → (xs'.getD (a * tSize P e + b) undef).oneCell' = true) ∧
      (∀ a b pv, getE (setRow es i off ws) a b = some pv → RF w' S pv (xs'.getD (a * tSize P e + b) undef)) := by
  rw [setRow_length]
  obtain ⟨hl, hn | ⟨g', cap', cur, hv, hb, hg, hnc, hcm, hcs, htake⟩⟩ := ho
  · cases hn.1
  · injection hv with hv1 _ hv3
    injection hv1 with hv1
    injection hv1 with hv1 _ _
    subst hv1
    subst hv3
    rw [hh] at hg
    injection hg with hg
    injection hg with hg1 hg2 _
    subst hg1
    subst hg2
    refine ⟨c1.toList.take (es.length * tSize P T), ⟨?_, .inr ⟨_, cap, c1, rfl, hb, hh', hnc, hcm, by rw [hsz, hcs], rfl⟩⟩, ?_⟩
    · simp only [List.length_take, Array.length_toList, hsz, hcs]
      have := Nat.mul_le_mul_right (tSize P T) hnc
      omega
    have cell : ∀ m, m < es.length * tSize P T → (c1.toList.take (es.length * tSize P T)).getD m undef = c1.getD m undef := by
      intro m hm
      rw [take_getD _ _ _ hm]
      simp [Array.getD_eq_getD_getElem?]
    have cell0 : ∀ m, m < es.length * tSize P T → xs.getD m undef = c0.getD m undef := by
      intro m hm
      rw [← htake, take_getD _ _ _ hm]
      simp [Array.getD_eq_getD_getElem?]
    have both : ∀ a b pv, getE (setRow es i off ws) a b = some pv → RF w' S pv (c1.getD (a * tSize P T + b) undef) ∧ (c1.getD (a * tSize P T + b) undef).oneCell' = true := by
      intro a b pv hg
      have hlt := getE_lt (setRow_len hk i off ws) hg
      rw [setRow_length] at hlt
      rcases setRow_get hk a b pv hg with ⟨rfl, h2, h3, h4⟩ | ⟨h2, h3⟩
      · have := hnew (b - off) pv h4
        rwa [show a * tSize P T + off + (b - off) = a * tSize P T + b from by omega] at this
      · have hm := idx_lt hlt.1 hlt.2
        have hne : ¬ (i * tSize P T + off ≤ a * tSize P T + b ∧ a * tSize P T + b < i * tSize P T + off + ws.length) := by
          rintro ⟨x, y⟩
          have := idx_inj (a := a) (b := b) (i := i) (c := a * tSize P T + b - i * tSize P T) (k := tSize P T) hlt.2 (by omega) (by omega)
          exact h2 ⟨this.1, by omega, by omega⟩
        rw [hold _ hne, ← cell0 _ hm]
        exact ⟨(hr a b pv h3).same hSame fun _ h => h, h1 a b pv h3⟩
    refine ⟨fun a b pv hg => ?_, fun a b pv hg => ?_⟩
    · have hlt := getE_lt (setRow_len hk i off ws) hg
      rw [setRow_length] at hlt
      rw [cell _ (idx_lt hlt.1 hlt.2)]; exact (both a b pv hg).2
    · have hlt := getE_lt (setRow_len hk i off ws) hg
      rw [setRow_length] at hlt
      rw [cell _ (idx_lt hlt.1 hlt.2)]; exact (both a b pv hg).1

/-- A store into the row g. -/
theorem RV.updR {P : Program} {B : Nat → Prop} {w w' : World} {c : Ctx} (ok : c.Ok B w) {g e i off : Nat} {ws : List PV} (hG : c.D g true) {c0 c1 : Array Value} (hfit : off + ws.length ≤ tSize P e)
    (hh : w.heap[c.τ g]? = some (.cells c0 e (0, 0))) (hh' : w'.heap[c.τ g]? = some (.cells c1 e (0, 0))) (hsz : c1.size = c0.size)
    (hold : ∀ m, ¬ (i * tSize P e + off ≤ m ∧ m < i * tSize P e + off + ws.length) → c1.getD m undef = c0.getD m undef)
    (hnew : ∀ (j : Nat) pv, ws[j]? = some pv → RF w' c.S pv (c1.getD (i * tSize P e + off + j) undef) ∧ (c1.getD (i * tSize P e + off + j) undef).oneCell' = true)
    (hoth : ∀ b, b ≠ c.τ g → w'.heap[b]? = w.heap[b]?) {pv : PV} {v : Value} (r : RV P w c pv v) : RV P w' c (pv.updR g i off ws) v := by
  have hSame : Same c.S w w' := fun b hb => hoth b fun e => (ok.hD g true hG).2.2 (e ▸ hb)
  induction r with
  | free pv v h => rw [updR_free g i off ws pv (has_free g pv h.free)]; exact .free pv v (h.same hSame fun _ h => h)
  | own g' e' es v xs hk0 hk ho hb h1 hr =>
    rw [PV.updR]
    split
    · rename_i he
      subst he
      rcases ho.2 with ⟨rfl, hn⟩ | ⟨g2, cap, cur, rfl, hb2, hg2, rest⟩
      · have : es = [] := List.eq_nil_of_length_eq_zero hn
        subst this
        exact .own g e' _ _ xs hk0 (by simp [setRow]) (by simpa [setRow] using World.ownsRow_nil w' 0 e' (tSize P e') |> fun h => (by
          have hx : xs = [] := List.eq_nil_of_length_eq_zero (by simpa using ho.1)
          subst hx; exact h)) (fun b hb' => by simp [Value.ownBlock] at hb') (by simp [setRow, getE]) (by simp [setRow, getE])
      · obtain ⟨hb3, hb4⟩ := hb g2 rfl
        subst hb4
        obtain rfl : e' = e := by
          rw [hh] at hg2
          injection hg2 with hg2
          injection hg2 with _ h _
          exact h.symm
        obtain ⟨xs', q1, q2, q3⟩ := row_upd hk0 hk ho h1 hr hSame hfit hh hh' hsz hold hnew
        exact .own g e' _ _ xs' hk0 (setRow_len hk i off ws) (by rw [setRow_length] at q1 ⊢; exact q1) hb q2 q3
    · rename_i he
      refine .own g' e' es v xs hk0 hk (ownsRow_same ho fun b hb' => hoth b fun e => ?_) hb h1 (fun i j pv hg => (hr i j pv hg).same hSame fun _ h => h)
      obtain ⟨h1, h2⟩ := hb b hb'
      exact he (ok.inj _ _ _ _ hG h1 (by rw [h2, e])).1
  | optr g' e' es i' o xs cap hk0 hk ho hb h1 hr =>
    rw [PV.updR]
    split
    · rename_i he
      subst he
      rcases ho.2 with ⟨hv, _⟩ | ⟨g2, cap2, cur, hv, hb2, hg2, rest⟩
      · cases hv
      · injection hv with hv1 _ hv3
        injection hv1 with hv1
        injection hv1 with hv1 _ _
        obtain rfl : e' = e := by
          rw [← hv1, hh] at hg2
          injection hg2 with hg2
          injection hg2 with _ h _
          exact h.symm
        obtain ⟨xs', q1, q2, q3⟩ := row_upd hk0 hk ho h1 hr hSame hfit hh hh' hsz hold hnew
        exact .optr g e' _ i' o xs' cap hk0 (setRow_len hk i off ws) q1 hb q2 q3
    · rename_i he
      refine .optr g' e' es i' o xs cap hk0 hk (ownsRow_same ho fun b hb' => hoth b fun e => ?_) hb h1 (fun i j pv hg => (hr i j pv hg).same hSame fun _ h => h)
      simp [Value.ownBlock] at hb'
      exact he (ok.inj _ _ _ _ hG hb (by rw [hb', e])).1
  | agg cs vs hn hr ih =>
    rw [PV.updR]
    refine .agg _ vs (by rw [updRL_length, hn]) fun i pv hg => ?_
    rw [updRL_get] at hg
    cases hc : cs[i]? <;> simp [hc] at hg
    subst hg; exact ih i _ hc
  | tup cs vs hn hr ih =>
    rw [PV.updR]
    refine .tup _ vs (by rw [updRL_length, hn]) fun i pv hg => ?_
    rw [updRL_get] at hg
    cases hc : cs[i]? <;> simp [hc] at hg
    subst hg; exact ih i _ hc
  | fn f cs vs hn hr ih =>
    rw [PV.updR]
    refine .fn f _ vs (by rw [updRL_length, hn]) fun i pv hg => ?_
    rw [updRL_get] at hg
    cases hc : cs[i]? <;> simp [hc] at hg
    subst hg; exact ih i _ hc
  | ptr g' cs o vs T1 hb hh1 hn hr ih =>
    rw [PV.updR]
    refine .ptr g' _ o vs T1 hb ?_ (by rw [updRL_length, hn]) fun i pv hg => ?_
    · rw [hoth _ fun e => by have := (ok.inj _ _ _ _ hG hb e.symm).2; cases this]; exact hh1
    · rw [updRL_get] at hg
      cases hc : cs[i]? <;> simp [hc] at hg
      subst hg; exact ih i _ hc
end Go.VI
