/- Stores. -/
import Derived.Test.YtppmnjiibmomoaaVHOps
import Derived.Maps.AppendAt
set_option linter.unusedVariables false
set_option linter.unusedSimpArgs false
set_option linter.unusedSectionVars false
namespace Go.VI
open Go.RowKit

theorem setAt_length (ws cs : List PV) (off : Nat) : (setAt cs off ws).length = cs.length := by
  induction ws generalizing cs off with
  | nil => rfl
  | cons v ws ih => rw [setAt, ih]; simp
theorem setAt_get (ws : List PV) : ∀ (cs : List PV) (off i : Nat), (setAt cs off ws)[i]? = if off ≤ i ∧ i < off + ws.length ∧ i < cs.length then ws[i - off]? else cs[i]? := by
  induction ws with
  | nil => intro cs off i; simp [setAt]; intros; omega
  | cons v ws ih =>
    intro cs off i
    rw [setAt, ih]
    by_cases h : i = off
    · subst h
      by_cases hl : i < cs.length
      · rw [if_neg (by omega)]; simp [hl]
      · have : cs[i]? = none := by simp; omega
        simp [hl]
    · by_cases h1 : off + 1 ≤ i ∧ i < off + 1 + ws.length ∧ i < cs.length
      · rw [if_pos ⟨h1.1, h1.2.1, by simpa using h1.2.2⟩, if_pos ⟨by omega, by simp; omega, h1.2.2⟩]
        have : i - off = (i - (off + 1)) + 1 := by omega
        rw [this, List.getElem?_cons_succ]
      · rw [if_neg (by rintro ⟨a, b, c⟩; exact h1 ⟨a, b, by simpa using c⟩), if_neg (by rintro ⟨a, b, c⟩; exact h1 ⟨by omega, by simp at b; omega, c⟩)]
        rw [List.getElem?_set_ne (by omega)]

theorem setRow_length (es : List (List PV)) (i off : Nat) (ws : List PV) : (setRow es i off ws).length = es.length := by simp [setRow]
theorem setRow_len {es : List (List PV)} {k : Nat} (hk : ∀ l ∈ es, l.length = k) (i off : Nat) (ws : List PV) : ∀ l ∈ setRow es i off ws, l.length = k := by
  intro l hl
  obtain ⟨j, hj⟩ := List.mem_iff_getElem?.1 hl
  rw [setRow, List.getElem?_modify] at hj
  cases he : es[j]? with
  | none => simp [he] at hj
  | some l' =>
    have := hk l' (List.mem_of_getElem? he)
    simp only [he, Option.map_eq_map, Option.map_some] at hj
    split at hj
    · simp at hj; subst hj; rw [setAt_length]; exact this
    · simp at hj; subst hj; exact this
theorem setRow_get {es : List (List PV)} {k : Nat} (hk : ∀ l ∈ es, l.length = k) {i off : Nat} {ws : List PV} (a b : Nat) (pv : PV) (h : getE (setRow es i off ws) a b = some pv) :
    (a = i ∧ off ≤ b ∧ b < off + ws.length ∧ ws[b - off]? = some pv) ∨ (¬ (a = i ∧ off ≤ b ∧ b < off + ws.length) ∧ getE es a b = some pv) := by
  have hlt := getE_lt (setRow_len hk i off ws) h
  unfold getE setRow at h
  rw [List.getElem?_modify] at h
  cases he : es[a]? with
  | none => simp [he] at h
  | some l =>
    have hl := hk l (List.mem_of_getElem? he)
    simp only [he, Option.map_eq_map, Option.map_some] at h
    by_cases hai : i = a
    · simp only [hai, if_true, Option.bind_some] at h
      rw [setAt_get] at h
      split at h
      · rename_i hh; exact .inl ⟨hai.symm, hh.1, hh.2.1, h⟩
      · rename_i hh
        refine .inr ⟨fun hx => hh ⟨hx.2.1, hx.2.2, by omega⟩, ?_⟩
        unfold getE; rw [he]; exact h
    · simp only [hai, if_false, Option.bind_some] at h
      refine .inr ⟨fun hx => hai hx.1.symm, ?_⟩
      unfold getE; rw [he]; exact h

theorem cells_of_one {v : Value} (h : v.oneCell' = true) : v.cells = #[v] := by cases v <;> first | rfl | simp [Value.oneCell'] at h


theorem sl_kill_no : ∀ s : SL, s.map (PV.kill noKey) = s
  | [] => rfl
  | (i, v) :: s => by simp only [SL.map]; rw [kill_free noKey v (has_no v), sl_kill_no s]
theorem hp_kill_no : ∀ h : HP, h.kill noKey = h
  | [] => rfl
  | (g, o) :: h => by simp only [HP.kill, noKey, Bool.false_eq_true, if_false]; rw [kill_no o, hp_kill_no h]
theorem st_kill_no (σ : St) : σ.kill noKey = σ := by simp only [St.kill, sl_kill_no, hp_kill_no]

section
variable {P : Program} {E : Ent} {S0 : Nat → Prop} {N : Nat} {σ : St} {a : Act} {w : World} {c : Ctx}

theorem RV.cell_one {pv : PV} {v : Value} (r : RV P w c pv v) (hc : pv.cell = true) : v.oneCell' = true := by
  cases r with
  | free pv v hf =>
    cases hf with
    | undef => simp [PV.cell] at hc
    | lit => exact hc
    | agg => simp [PV.cell] at hc
    | tup => simp [PV.cell] at hc
    | _ => rfl
  | row k e he h1 => exact h1
  | agg => simp [PV.cell] at hc
  | tup => simp [PV.cell] at hc
  | _ => rfl

/-- The cells of a value. -/
theorem RV.cells {x : PV} {X : Value} (r : RV P w c x X) (h : x.cells.all PV.cell = true) :
    X.cells.size = x.cells.length ∧ ∀ (i : Nat) pv, x.cells[i]? = some pv → RV P w c pv (X.cells.getD i undef) ∧ (X.cells.getD i undef).oneCell' = true := by
  have all : ∀ (i : Nat) pv, x.cells[i]? = some pv → pv.cell = true := fun i pv hg => List.all_eq_true.1 h pv (List.mem_of_getElem? hg)
  by_cases ha : ∃ cs, x = .agg cs
  · obtain ⟨cs, rfl⟩ := ha
    have main : ∃ vs : Array Value, X = .agg vs ∧ vs.size = cs.length ∧ ∀ (i : Nat) pv, cs[i]? = some pv → RV P w c pv (vs.getD i undef) := by
      cases r with
      | free pv v hf => cases hf with | agg cs vs hn hr => exact ⟨vs, rfl, hn, fun i pv hg => .free _ _ (hr i pv hg)⟩
      | agg cs vs hn hr => exact ⟨vs, rfl, hn, hr⟩
    obtain ⟨vs, rfl, hn, hr⟩ := main
    exact ⟨hn, fun i pv hg => ⟨hr i pv hg, (hr i pv hg).cell_one (all i pv hg)⟩⟩
  · have hc : x.cells = [x] := by cases x <;> first | rfl | exact absurd ⟨_, rfl⟩ ha
    have h1 := r.cell_one (by rw [hc] at h; simpa using h)
    rw [hc, cells_of_one h1]
    refine ⟨rfl, fun i pv hg => ?_⟩
    cases i with
    | zero => simp at hg; subst hg; exact ⟨r, h1⟩
    | succ i => simp at hg

theorem still_cell {pv : PV} (h : pv.still = true) : pv.cell = true := by cases pv <;> first | rfl | (simp [PV.still] at h; done) | exact h
theorem still_free {pv : PV} (h : pv.still = true) : pv.free = true := by cases pv <;> first | rfl | (simp [PV.still] at h; done)
theorem all_still_cell {l : List PV} (h : l.all PV.still = true) : l.all PV.cell = true := by
  rw [List.all_eq_true] at h ⊢
  exact fun x hx => still_cell (h x hx)

/-- an array with a run of cells put in -/
def splice (cur : Array Value) (o : Nat) (news : List Value) : Array Value := (cur.toList.take o ++ news ++ cur.toList.drop (o + news.length)).toArray
theorem splice_size {cur : Array Value} {o : Nat} {news : List Value} (h : o + news.length ≤ cur.size) : (splice cur o news).size = cur.size := by
  simp only [splice, List.size_toArray, List.length_append, List.length_take, List.length_drop, Array.length_toList]
  omega
theorem splice_get {cur : Array Value} {o : Nat} {news : List Value} (h : o + news.length ≤ cur.size) (i : Nat) :
    (splice cur o news).getD i undef = if o ≤ i ∧ i < o + news.length then news.getD (i - o) undef else cur.getD i undef := by
  have ht : (cur.toList.take o).length = o := by simp; omega
  simp only [splice, Array.getD_eq_getD_getElem?, List.getElem?_toArray, List.getD_eq_getElem?_getD]
  by_cases h1 : i < o
  · rw [List.append_assoc, List.getElem?_append_left (by omega), List.getElem?_take, if_pos h1, if_neg (by omega)]
    simp
  · by_cases h2 : i < o + news.length
    · rw [List.append_assoc, List.getElem?_append_right (by omega), ht, List.getElem?_append_left (by omega), if_pos ⟨by omega, h2⟩]
    · rw [List.getElem?_append_right (by simp; omega), List.getElem?_drop, if_neg (by omega)]
      have : (List.take o cur.toList ++ news).length = o + news.length := by simp; omega
      rw [this, show o + news.length + (i - (o + news.length)) = i from by omega]
      simp

theorem run_storeVar {t : TypeId} (hinfo : ∃ i, P.info? t = some i) {g o : Nat} {T : TypeId} {cur : Array Value} {X : Value} (hh : w.heap[g]? = some (.cells cur T (0, 0))) (hsz : X.cells.size = tSize P t)
    (hfit : o + X.cells.size ≤ cur.size) (h1 : ∀ v ∈ X.cells.toList, v.oneCell' = true) :
    (storeVar t ⟨g, o, none⟩ X).run P w = .ok () (w.setRow g (splice cur o X.cells.toList)) := by
  have hst := run_storeCells_at (P := P) g o T X.cells.toList 0 cur w hh (by simpa using hfit) h1
  simp only [Nat.add_zero] at hst
  simp only [storeVar, Sem.run_bind, run_sizeOf hinfo, Result.andThen_ok, hsz, ne_eq, not_true_eq_false, if_false]
  simpa [splice] using hst

theorem one_of {X : Value} {l : List PV} (hn : X.cells.size = l.length) (h : ∀ (i : Nat) pv, l[i]? = some pv → (X.cells.getD i undef).oneCell' = true) : ∀ v ∈ X.cells.toList, v.oneCell' = true := by
  intro v hv
  obtain ⟨i, hi⟩ := List.mem_iff_getElem?.1 hv
  have hlt : i < X.cells.size := by
    rcases Nat.lt_or_ge i X.cells.toList.length with h | h
    · simpa using h
    · rw [List.getElem?_eq_none h] at hi; cases hi
  have := h i (l[i]'(by omega)) (List.getElem?_eq_getElem (by omega))
  rw [Array.getElem?_toList] at hi
  simpa [Array.getD_eq_getD_getElem?, hi] using this


theorem RV.toRF {pv : PV} {v : Value} (r : RV P w c pv v) : pv.free = true → RF w c.S pv v := by
  have get : ∀ {l : List PV}, PV.freeL l = true → ∀ {i : Nat} {pv : PV}, l[i]? = some pv → pv.free = true := by
    intro l
    induction l with
    | nil => intro _ i pv hg; simp at hg
    | cons c cs ih =>
      intro h i pv hg
      simp only [PV.freeL, Bool.and_eq_true] at h
      cases i with
      | zero => simp at hg; subst hg; exact h.1
      | succ i => exact ih h.2 (by simpa using hg)
  induction r with
  | free pv v h => intro _; exact h
  | agg cs vs hn hr ih => intro h; rw [PV.free] at h; exact .agg cs vs hn fun i pv hg => ih i pv hg (get h hg)
  | tup cs vs hn hr ih => intro h; rw [PV.free] at h; exact .tup cs vs hn fun i pv hg => ih i pv hg (get h hg)
  | fn f cs vs hn hr ih => intro h; rw [PV.free] at h; exact .fn f cs vs hn fun i pv hg => ih i pv hg (get h hg)
  | _ => intro h; simp [PV.free] at h

theorem below_setRow (h : E.Fr w) {g : Nat} (hg : E.M g) (cs : Array Value) : E.Fr (w.setRow g cs) :=
  ⟨h.os, h.tape, h.output, Nat.le_trans h.size (by simp [World.setRow]), fun k hk hm => (setRow_other w g k cs (fun e => hm (e ▸ hg))).trans (h.block k hk hm)⟩
theorem ok_setRow {c : Ctx} {B : Nat → Prop} (ok : c.Ok B w) (g : Nat) (cs : Array Value) : c.Ok B (w.setRow g cs) := by
  have e : (w.setRow g cs).heap.size = w.heap.size := by simp [World.setRow]
  exact ⟨fun b hb => by rw [e]; exact ok.hS b hb, fun k hg => by rw [e]; exact ok.hD k hg, ok.inj⟩

/-- One object is written. -/
theorem Inv.write (h : Inv P E S0 N σ a w c) {k0 : Key} (hk0 : c.D k0) (cs : Array Value) {o : HO} (hob : HRep P (w.setRow (c.τ k0) cs) c k0.tag o) : Inv P E S0 N (σ.put k0.tag o) a (w.setRow (c.τ k0) cs) c := by
  have hoth : ∀ b, b ≠ c.τ k0 → (w.setRow (c.τ k0) cs).heap[b]? = w.heap[b]? := fun b hb' => setRow_other w _ b _ hb'
  refine h.step noKey (· = k0.tag) (below_setRow h.below (h.ok.hD _ hk0).1 cs) (ok_setRow h.ok _ _) (fun b hS => hoth b fun e => (h.ok.hD _ hk0).2.2 (e ▸ hS)) (fun _ h => h) h.sup (fun _ _ hp => by cases hp) (fun k _ => Agree.refl c k)
    (fun k hD hx => ⟨hoth _ fun e => hx (by rw [h.ok.inj _ _ hD hk0 e]), hD⟩) (fun _ hp => by cases hp) (by rw [st_kill_no]; rfl) (fun g o' hx hg => ?_) (fun g o' hx hg => ?_)
  · rw [st_kill_no]
    rw [hget_put, if_neg hx] at hg
    exact hg
  · rw [hget_put, if_pos hx] at hg
    injection hg with hg
    subst hg
    rw [hx]; exact hob

theorem RowRep.upd {w' : World} {k : Key} {e : Nat} {es : List (List PV)} {R R' : Nat → Nat → PV → Value → Prop} {xs : List Value} (r : RowRep P w c k e es R xs) {i off : Nat} {ws : List PV} {c0 c1 : Array Value} {T : TypeId} (hfit : off + ws.length ≤ tSize P e) (hi : i < es.length)
    (hh : w.heap[c.τ k]? = some (.cells c0 T (0, 0))) (hh' : w'.heap[c.τ k]? = some (.cells c1 T (0, 0))) (hsz : c1.size = c0.size)
    (hold : ∀ m, ¬ (i * tSize P e + off ≤ m ∧ m < i * tSize P e + off + ws.length) → c1.getD m undef = c0.getD m undef)
    (hR : ∀ a b pv v, ¬ (a = i ∧ off ≤ b ∧ b < off + ws.length) → R a b pv v → R' a b pv v)
    (hnew : ∀ (j : Nat) pv, ws[j]? = some pv → R' i (off + j) pv (c1.getD (i * tSize P e + off + j) undef) ∧ (c1.getD (i * tSize P e + off + j) undef).oneCell' = true) :
    ∃ xs', RowRep P w' c k e (setRow es i off ws) R' xs' := by
  obtain ⟨hl, ⟨_, hn⟩ | ⟨g', cap', cur, hv, hb, hg, hnc, hcm, hcs, htake⟩⟩ := r.own
  · omega
  · have hob : (c.hd k).ownBlock = some g' := by rw [hv]; rfl
    obtain ⟨hD, hτ⟩ := r.blk g' hob
    rw [hτ] at hh hh'
    rw [hh] at hg
    injection hg with hg
    injection hg with hg1 hg2 _
    subst hg1
    subst hg2
    have cell : ∀ m, m < es.length * tSize P T → (c1.toList.take (es.length * tSize P T)).getD m undef = c1.getD m undef := by
      intro m hm
      rw [take_getD _ _ _ hm]
      simp [Array.getD_eq_getD_getElem?]
    have cell0 : ∀ m, m < es.length * tSize P T → xs.getD m undef = c0.getD m undef := by
      intro m hm
      rw [← htake, take_getD _ _ _ hm]
      simp [Array.getD_eq_getD_getElem?]
    have both : ∀ a b pv, getE (setRow es i off ws) a b = some pv → R' a b pv (c1.getD (a * tSize P T + b) undef) ∧ (c1.getD (a * tSize P T + b) undef).oneCell' = true := by
      intro a b pv hg
      have hlt := getE_lt (setRow_len r.len i off ws) hg
      rw [setRow_length] at hlt
      rcases setRow_get r.len a b pv hg with ⟨rfl, h2, h3, h4⟩ | ⟨h2, h3⟩
      · have := hnew (b - off) pv h4
        rwa [show a * tSize P T + off + (b - off) = a * tSize P T + b from by omega, show off + (b - off) = b from by omega] at this
      · have hm := idx_lt hlt.1 hlt.2
        have hne : ¬ (i * tSize P T + off ≤ a * tSize P T + b ∧ a * tSize P T + b < i * tSize P T + off + ws.length) := by
          rintro ⟨x, y⟩
          have := idx_inj (a := a) (b := b) (i := i) (c := a * tSize P T + b - i * tSize P T) (k := tSize P T) hlt.2 (by omega) (by omega)
          exact h2 ⟨this.1, by omega, by omega⟩
        rw [hold _ hne, ← cell0 _ hm]
        exact ⟨hR a b pv _ h2 (r.rep a b pv h3), r.one a b pv h3⟩
    refine ⟨c1.toList.take (es.length * tSize P T), r.ty, r.pos, setRow_len r.len i off ws, ?_, r.blk, fun a b pv hg => ?_, fun a b pv hg => ?_⟩
    · rw [setRow_length]
      refine ⟨?_, .inr ⟨g', cap', c1, hv, hb, hh', hnc, hcm, by rw [hsz, hcs], rfl⟩⟩
      simp only [List.length_take, Array.length_toList, hsz, hcs]
      have := Nat.mul_le_mul_right (tSize P T) hnc
      omega
    · have hlt := getE_lt (setRow_len r.len i off ws) hg
      rw [setRow_length] at hlt
      rw [cell _ (idx_lt hlt.1 hlt.2)]; exact (both a b pv hg).2
    · have hlt := getE_lt (setRow_len r.len i off ws) hg
      rw [setRow_length] at hlt
      rw [cell _ (idx_lt hlt.1 hlt.2)]; exact (both a b pv hg).1

theorem Jat_out {off sz b : Nat} : ∀ {J : List (Nat × Nat)}, J.all (fun x => decide (x.1 < off ∨ off + sz ≤ x.1)) = true → off ≤ b → b < off + sz → Jat J b = none
  | [], _, _, _ => rfl
  | (j, e) :: J, h, h1, h2 => by
    simp only [List.all_cons, Bool.and_eq_true, decide_eq_true_eq] at h
    have hb : Nat.beq b j = false := by cases hq : Nat.beq b j with | false => rfl | true => have := Nat.eq_of_beq_eq_true hq; omega
    simp only [Jat, hb]
    exact Jat_out h.2 h1 h2

/-- The elements of a row are written: the object that bears it. -/
theorem rowSet_rep (h : Inv P E S0 N σ a w c) {k : Key} {es : List (List PV)} (hr : σ.h.rowAt k = some es) {e : Nat} (he : c.ty k = e) {i off : Nat} {ws : List PV} {o : HO} (hset : σ.h.rowSet (setRow es i off ws) k = some o) (hi : i < es.length) (hfit : off + ws.length ≤ tSize P e)
    (hJ : (σ.h.rowJ k).all (fun x => decide (x.1 < off ∨ off + ws.length ≤ x.1)) = true) {X : Value} (hX : X.cells.size = ws.length) (hcs : ∀ (j : Nat) pv, ws[j]? = some pv → RF w c.S pv (X.cells.getD j undef) ∧ (X.cells.getD j undef).oneCell' = true) :
    ∃ (cur : Array Value) (T : TypeId), c.D k ∧ w.heap[c.τ k]? = some (.cells cur T (0, 0)) ∧ i * tSize P e + off + X.cells.size ≤ cur.size ∧ HRep P (w.setRow (c.τ k) (splice cur (i * tSize P e + off) X.cells.toList)) c k.tag o := by
  obtain ⟨e', xs, r⟩ := rowAt_rep h.objs hr
  obtain rfl : e' = e := r.ty.symm.trans he
  obtain ⟨hl, ⟨_, hn⟩ | ⟨g', cap', cur, hv, hb, hg, hnc, hcm, hcsz, htake⟩⟩ := r.own
  · omega
  have hob : (c.hd k).ownBlock = some g' := by rw [hv]; rfl
  obtain ⟨hD, hτ⟩ := r.blk g' hob
  have hDk := h.ok.hD k hD
  have hfit2 : i * tSize P e' + off + X.cells.size ≤ cur.size := by
    have q1 := Nat.mul_le_mul_right (tSize P e') (show i + 1 ≤ cap' by omega)
    rw [Nat.succ_mul] at q1
    omega
  rw [← hτ] at hg
  refine ⟨cur, e', hD, hg, hfit2, ?_⟩
  have hxl : X.cells.toList.length = ws.length := by simpa using hX
  have hoth : ∀ b, b ≠ c.τ k → (w.setRow (c.τ k) (splice cur (i * tSize P e' + off) X.cells.toList)).heap[b]? = w.heap[b]? := fun b hb' => setRow_other w _ b _ hb'
  have hSm : Same c.S w (w.setRow (c.τ k) (splice cur (i * tSize P e' + off) X.cells.toList)) := fun b hS => hoth b fun e => hDk.2.2 (e ▸ hS)
  have hh' := setRow_heap w (c.τ k) cur (splice cur (i * tSize P e' + off) X.cells.toList) e' (0, 0) hg
  have hold : ∀ m, ¬ (i * tSize P e' + off ≤ m ∧ m < i * tSize P e' + off + ws.length) → (splice cur (i * tSize P e' + off) X.cells.toList).getD m undef = cur.getD m undef := fun m hm => by
    rw [splice_get (by simpa using hfit2), if_neg (by rw [hxl]; exact hm)]
  have hnw : ∀ (j : Nat) pv, ws[j]? = some pv → RF (w.setRow (c.τ k) (splice cur (i * tSize P e' + off) X.cells.toList)) c.S pv ((splice cur (i * tSize P e' + off) X.cells.toList).getD (i * tSize P e' + off + j) undef) ∧ ((splice cur (i * tSize P e' + off) X.cells.toList).getD (i * tSize P e' + off + j) undef).oneCell' = true := fun j pv hgj => by
    have hj := len_of_get hgj
    rw [splice_get (by simpa using hfit2), if_pos ⟨by omega, by omega⟩, show i * tSize P e' + off + j - (i * tSize P e' + off) = j from by omega]
    have e2 : X.cells.toList.getD j undef = X.cells.getD j undef := by simp [Array.getD_eq_getD_getElem?]
    rw [e2]
    exact ⟨(hcs j pv hgj).1.same hSm fun _ h => h, (hcs j pv hgj).2⟩
  have hsz := splice_size (cur := cur) (o := i * tSize P e' + off) (news := X.cells.toList) (by simpa using hfit2)
  cases k with
  | top g =>
    simp only [HP.rowSet] at hset
    split at hset
    case h_2 => cases hset
    rename_i eR J esR hgR
    injection hset with hset
    subst hset
    simp only [HP.rowJ, hgR] at hJ r
    have heR : eR = e' := by
      obtain ⟨xsR, rR⟩ := h.objs g _ hgR
      exact rR.ty.symm.trans he
    subst heR
    have := r.upd (R' := CellRep P (w.setRow (c.τ (.top g)) (splice cur (i * tSize P eR + off) X.cells.toList)) c g J) hfit hi hg hh' hsz hold (fun a b pv v hne hc => ?_) (fun j pv hgj => ⟨?_, (hnw j pv hgj).2⟩)
    · exact this
    · unfold CellRep at hc ⊢
      split at hc
      · exact hc.same hSm fun _ h => h
      · rename_i e2 hj
        obtain ⟨h1, es', xs', h2, h3⟩ := hc
        exact ⟨h1, es', xs', h2, h3.keep (Agree.refl c _) (fun hD2 => ⟨hoth _ (fun e => Key.noConfusion (h.ok.inj _ _ hD2 hD e)), hD2⟩) fun _ _ _ _ r => r.same hSm fun _ h => h⟩
    · have hj := len_of_get hgj
      unfold CellRep
      rw [Jat_out hJ (b := off + j) (by omega) (by omega)]
      exact (hnw j pv hgj).1
  | sub g i0 j0 =>
    simp only [HP.rowSet] at hset
    simp only [HP.rowAt] at hr
    split at hset
    case h_2 => cases hset
    rename_i eR J esT hgR
    injection hset with hset
    subst hset
    have hgR' : σ.h.get g = some (.row eR J esT) := hgR
    rw [hgR'] at hr
    simp only at hr
    split at hr
    case isFalse => cases hr
    rename_i hJ0
    split at hr
    case h_2 => cases hr
    rename_i cs0 hcs0
    split at hr
    case h_2 => cases hr
    rename_i es0 hc0
    injection hr with hr
    subst hr
    obtain ⟨xsT, rT⟩ := h.objs g _ hgR
    have hlt : j0 < cs0.length := len_of_get hc0
    -- the row itself
    obtain ⟨xs2, r2⟩ := r.upd (R' := fun _ _ pv v => RF (w.setRow (c.τ (.sub g i0 j0)) (splice cur (i * tSize P e' + off) X.cells.toList)) c.S pv v) hfit hi hg hh' hsz hold (fun _ _ _ _ _ hc => RF.same hSm (fun _ h => h) hc) hnw
    -- the row that bears it
    refine ⟨xsT, rT.ty, rT.pos, setRow_len rT.len _ _ _, ?_, rT.blk, fun a b pv hgE => ?_, fun a b pv hgE => ?_⟩
    · rw [setRow_length]
      exact ownsRow_same rT.own fun b hb => by
        obtain ⟨q1, rfl⟩ := rT.blk b hb
        exact hoth _ fun e => by have := h.ok.inj _ _ q1 hD e; cases this
    all_goals
      have hold2 : getE esT i0 j0 = some (.sl es0) := by unfold getE; rw [hcs0]; exact hc0
    · rcases setRow_get rT.len a b pv hgE with ⟨rfl, h2, h3, h4⟩ | ⟨h2, h3⟩
      · have : b = j0 := by simp at h3; omega
        subst this
        exact rT.one _ _ _ hold2
      · exact rT.one _ _ _ h3
    · rcases setRow_get rT.len a b pv hgE with ⟨rfl, h2, h3, h4⟩ | ⟨h2, h3⟩
      · have : b = j0 := by simp at h3; omega
        subst this
        simp at h4
        subst h4
        have hc := rT.rep _ _ _ hold2
        unfold CellRep at hc ⊢
        cases hj : Jat J b with
        | none => rw [hj] at hJ0; cases hJ0
        | some e2 =>
          rw [hj] at hc
          obtain ⟨h1, es', xs', h2', h3'⟩ := hc
          obtain rfl : e2 = e' := h3'.ty.symm.trans he
          exact ⟨h1, _, xs2, rfl, r2⟩
      · have hc := rT.rep _ _ _ h3
        unfold CellRep at hc ⊢
        split at hc
        · exact hc.same hSm fun _ h => h
        · rename_i e2 hj
          obtain ⟨h1, es', xs', h2', h3'⟩ := hc
          refine ⟨h1, es', xs', h2', h3'.keep (Agree.refl c _) (fun hD2 => ⟨hoth _ fun e => ?_, hD2⟩) fun _ _ _ _ r => r.same hSm fun _ h => h⟩
          have := h.ok.inj _ _ hD2 hD e
          injection this with _ q1 q2
          exact h2 ⟨q1, by omega, by simp; omega⟩

theorem pstore_ok {o : Oper} {t : TypeId} {ad x : Operand} {agg : Bool} {r : Res} (ho : o.op = .store t ad x) (hagg : tAgg P t = some agg) (h : Inv P E S0 N σ a w c) (hd : ∀ k, o.dst = some k → k < N)
    (hr : pstore agg (tSize P t) σ.h (pev σ ad) (pev σ x) = some r) : Does P E S0 N o a w (r.put σ o.dst) := by
  have rp := h.ev ad
  have rx := h.ev x
  have hexec : (execOp a.eval o).run P w = ((Instr.storeAt t (a.eval ad) (a.eval x)).run P w).andThen (fun _ w' => Result.ok Next.skip w') := by
    unfold execOp
    simp only [ho, Sem.run_bind, Sem.run_pure]
  generalize pev σ ad = p at *
  generalize pev σ x = px at *
  generalize a.eval ad = vp at *
  generalize a.eval x = X at *
  unfold pstore at hr
  by_cases hlen0 : px.cells.length = tSize P t ∧ px.isAgg = agg
  case neg => rw [if_neg hlen0] at hr; cases hr
  rw [if_pos hlen0] at hr
  obtain ⟨hlen, _⟩ := hlen0
  cases rp with
  | ptr g off =>
    simp only at hr
    split at hr
    case h_2 => cases hr
    rename_i cs hg
    split at hr
    case isFalse => cases hr
    rename_i hc
    obtain ⟨hfit, hcell⟩ := hc
    injection hr with hr
    subst hr
    obtain ⟨hn, hcs⟩ := rx.cells hcell
    obtain ⟨hb, vs, T, hh, hnv, hrv⟩ := h.objs g _ hg
    have hrun := run_storeVar (P := P) (info_of_agg hagg) (o := off) (X := X) hh (by omega) (by omega) (one_of hn fun i pv hg => (hcs i pv hg).2)
    have hl : X.cells.toList.length = px.cells.length := by simpa using hn
    have hDg := h.ok.hD _ hb
    have hoth : ∀ b, b ≠ c.τ (.top g) → (w.setRow (c.τ (.top g)) (splice vs off X.cells.toList)).heap[b]? = w.heap[b]? := fun b hb' => setRow_other w _ b _ hb'
    have hSm : Same c.S w (w.setRow (c.τ (.top g)) (splice vs off X.cells.toList)) := fun b hS => hoth b fun e => hDg.2.2 (e ▸ hS)
    refine does_mut (v := undef) (c' := c) hd (.inr ⟨?_, rfl⟩) (h.write (k0 := .top g) hb (splice vs off X.cells.toList) ⟨hb, _, T, setRow_heap w _ vs _ T (0, 0) hh, ?_, fun i pv hgi => ?_⟩) (.free _ _ (.lit _))
    · rw [hexec]
      simp only [Instr.storeAt, Instr.sureAddr, Sem.run_bind, Sem.run_pure, Result.andThen_ok, hrun]
    · rw [splice_size (by omega), setAt_length, hnv]
    · rw [setAt_get] at hgi
      rw [splice_get (by omega)]
      split at hgi
      · rename_i hi
        rw [if_pos ⟨hi.1, by omega⟩]
        have e : X.cells.toList.getD (i - off) undef = X.cells.getD (i - off) undef := by simp [Array.getD_eq_getD_getElem?]
        rw [e]
        exact (hcs _ pv hgi).1.keepAll hSm (fun _ h => h) fun k => Agree.refl c k
      · rename_i hi
        have := len_of_get hgi
        rw [if_neg (fun q => hi ⟨q.1, by omega, this⟩)]
        exact (hrv i pv hgi).keepAll hSm (fun _ h => h) fun k => Agree.refl c k
  | rptr k e i off he =>
    simp only at hr
    split at hr
    case h_2 => cases hr
    rename_i es hrow
    split at hr
    case h_2 => cases hr
    rename_i cs hcs0
    split at hr
    case isFalse => cases hr
    rename_i hc
    obtain ⟨hfit, hstill, hJ⟩ := hc
    split at hr
    case h_2 => cases hr
    rename_i ob hset
    injection hr with hr
    subst hr
    have hcell := all_still_cell hstill
    obtain ⟨hn, hcs⟩ := rx.cells hcell
    obtain ⟨e', xs, rr⟩ := rowAt_rep h.objs hrow
    obtain rfl : e' = e := rr.ty.symm.trans he
    have hcl := rr.len cs (List.mem_of_getElem? hcs0)
    obtain ⟨cur, T, hD, hh, hfit2, hob⟩ := rowSet_rep h hrow he hset (len_of_get hcs0) (by omega) (by rw [hlen]; exact hJ) hn fun j pv hg => ⟨(hcs j pv hg).1.toRF (still_free (List.all_eq_true.1 hstill pv (List.mem_of_getElem? hg))), (hcs j pv hg).2⟩
    have hrun := run_storeVar (P := P) (info_of_agg hagg) (o := i * tSize P e' + off) (X := X) hh (by omega) hfit2 (one_of hn fun i pv hg => (hcs i pv hg).2)
    refine does_mut (v := undef) (c' := c) hd (.inr ⟨?_, rfl⟩) (h.write (k0 := k) hD _ hob) (.free _ _ (.lit _))
    rw [hexec]
    simp only [Instr.storeAt, Instr.sureAddr, Sem.run_bind, Sem.run_pure, Result.andThen_ok, hrun]
  | free pv v hf => cases hf <;> simp at hr
  | _ => simp at hr
end
end Go.VI
