/- Views, contracts, frames. -/
import Derived.Test.YtiodkdpfkchkjaaVIUpd
set_option linter.unusedVariables false
set_option linter.unusedSimpArgs false
set_option linter.unusedSectionVars false
namespace Go.VI
open Go.RowKit

theorem getD_lt {α : Type} {vs : Array α} {i : Nat} {d : α} (h : i < vs.size) : vs[i]? = some (vs.getD i d) := by
  simp [Array.getD_eq_getD_getElem?, h]

/-- A view of what is free of tags. -/
theorem RF.view {w : World} {S : Nat → Prop} {pv : PV} {v : Value} (r : RF w S pv v) : RF w S pv.view v := by
  induction r with
  | undef v => exact .undef v
  | lit v => exact .lit v
  | nl => exact .sl [] 1 none 0 0 (fun _ _ => Go.undef) rfl (by simp) (by omega) (Nat.le_refl _) (by simp) (by simp) (by simp [getE]) (by simp [getE])
  | sl es k a n c vf hn hk hk0 hc ha hcell h1 hr ih => exact .sl es k a n c vf hn hk hk0 hc ha hcell h1 hr
  | agg cs vs hn hr ih =>
    rw [PV.view]
    refine .agg _ vs (by rw [viewL_length, hn]) fun i pv hg => ?_
    rw [viewL_get] at hg
    cases hc : cs[i]? <;> simp [hc] at hg
    subst hg; exact ih i _ hc
  | tup cs vs hn hr ih =>
    rw [PV.view]
    refine .tup _ vs (by rw [viewL_length, hn]) fun i pv hg => ?_
    rw [viewL_get] at hg
    cases hc : cs[i]? <;> simp [hc] at hg
    subst hg; exact ih i _ hc
  | vptr cs off ad vf hS hcell hr ih => exact .vptr cs off ad vf hS hcell hr
  | fn f cs vs hn hr ih =>
    rw [PV.view]
    refine .fn f _ vs (by rw [viewL_length, hn]) fun i pv hg => ?_
    rw [viewL_get] at hg
    cases hc : cs[i]? <;> simp [hc] at hg
    subst hg; exact ih i _ hc

theorem freeL_get {l : List PV} (h : PV.freeL l = true) {i : Nat} {pv : PV} (hg : l[i]? = some pv) : pv.free = true := by
  induction l generalizing i with
  | nil => simp at hg
  | cons c cs ih =>
    simp only [PV.freeL, Bool.and_eq_true] at h
    cases i with
    | zero => simp at hg; subst hg; exact h.1
    | succ i => exact ih h.2 (by simpa using hg)
theorem RV.toRF {P : Program} {w : World} {c : Ctx} {pv : PV} {v : Value} (r : RV P w c pv v) : pv.free = true → RF w c.S pv v := by
  induction r with
  | free pv v h => intro _; exact h
  | own => intro h; simp [PV.free] at h
  | optr => intro h; simp [PV.free] at h
  | ptr => intro h; simp [PV.free] at h
  | agg cs vs hn hr ih => intro h; rw [PV.free] at h; exact .agg cs vs hn fun i pv hg => ih i pv hg (freeL_get h hg)
  | tup cs vs hn hr ih => intro h; rw [PV.free] at h; exact .tup cs vs hn fun i pv hg => ih i pv hg (freeL_get h hg)
  | fn f cs vs hn hr ih => intro h; rw [PV.free] at h; exact .fn f cs vs hn fun i pv hg => ih i pv hg (freeL_get h hg)

/-- the blocks that a context's tags name -/
def Ctx.blocks (c : Ctx) (b : Nat) : Prop := ∃ g k, c.D g k ∧ c.τ g = b

/-- The cells of an owned row. -/
theorem own_cells {w : World} {e size n : Nat} {v : Value} {xs : List Value} (ho : w.ownsRow 0 e size v n xs) {b : Nat} (hb : v.ownBlock = some b) (m : Nat) (hm : m < n * size) :
    w.cell? ((⟨b, 0, none⟩ : Addr).add m) = some (xs.getD m undef) := by
  have h := World.ownsRow.cells ho hb m
  have hl : m < xs.length := by rw [ho.1]; exact hm
  exact h _ (by simp [List.getElem?_eq_getElem hl])

theorem view_own {P : Program} {w : World} {c : Ctx} {S : Nat → Prop} {e : Nat} {es : List (List PV)} {v : Value} {xs : List Value} (hk0 : 0 < tSize P e) (hk : ∀ l ∈ es, l.length = tSize P e)
    (ho : w.ownsRow 0 e (tSize P e) v es.length xs) (hb : ∀ b, v.ownBlock = some b → S b)
    (h1 : ∀ i j pv, getE es i j = some pv → (xs.getD (i * tSize P e + j) undef).oneCell' = true)
    (hr : ∀ i j pv, getE es i j = some pv → RF w c.S pv (xs.getD (i * tSize P e + j) undef)) (hS : ∀ b, c.S b → S b) : RF w S (.sl es) v := by
  rcases ho.2 with ⟨rfl, hn⟩ | ⟨g2, cap, cur, rfl, hb2, hg2, hnc, rest⟩
  · have : es = [] := List.eq_nil_of_length_eq_zero hn
    subst this
    exact .sl [] 1 none 0 0 (fun _ _ => undef) rfl (by simp) (by omega) (Nat.le_refl _) (by simp) (by simp) (by simp [getE]) (by simp [getE])
  · refine .sl es (tSize P e) _ _ cap (fun i j => xs.getD (i * tSize P e + j) undef) rfl hk hk0 hnc (fun _ => ⟨_, rfl, hb _ rfl⟩) (fun ad had i j pv hg => ?_) h1 (fun i j pv hg => (hr i j pv hg).same (fun _ _ => rfl) hS)
    injection had with had
    subst had
    have hlt := getE_lt hk hg
    exact own_cells ho rfl _ (idx_lt hlt.1 hlt.2)

/-- How whoever may read all of them sees the slots' values. -/
theorem RV.view {P : Program} {w : World} {c : Ctx} {pv : PV} {v : Value} (r : RV P w c pv v) : RF w (fun b => c.S b ∨ c.blocks b) pv.view v := by
  induction r with
  | free pv v h => exact h.view.same (fun _ _ => rfl) fun b hb => .inl hb
  | own g e es v xs hk0 hk ho hb h1 hr =>
    exact view_own hk0 hk ho (fun b h => .inr ⟨g, true, hb b h⟩) h1 hr fun b hb => .inl hb
  | optr g e es i off xs cap hk0 hk ho hb h1 hr =>
    rw [PV.view]
    have he : (⟨c.τ g, i * tSize P e + off, none⟩ : Addr) = (⟨c.τ g, i * tSize P e, none⟩ : Addr).add off := (add_lit _ _ _).symm
    rw [he]
    refine .vptr (es.getD i []) off ⟨c.τ g, i * tSize P e, none⟩ (fun j => xs.getD (i * tSize P e + j) undef) (.inr ⟨g, true, hb, rfl⟩) (fun j pv hg => ?_) (fun j pv hg => ?_)
    all_goals
      have hgE : getE es i j = some pv := by
        unfold getE
        cases hi : es[i]? with
        | none => simp [List.getD_eq_getElem?_getD, hi] at hg
        | some l => simpa [List.getD_eq_getElem?_getD, hi] using hg
    · have hlt := getE_lt hk hgE
      have := own_cells ho rfl (i * tSize P e + j) (idx_lt hlt.1 hlt.2)
      rw [add_lit] at this ⊢
      rwa [Nat.zero_add] at this
    · exact (hr i j pv hgE).same (fun _ _ => rfl) fun b hb => .inl hb
  | agg cs vs hn hr ih =>
    rw [PV.view]
    refine .agg _ vs (by rw [viewL_length, hn]) fun i pv hg => ?_
    rw [viewL_get] at hg
    cases hc : cs[i]? <;> simp [hc] at hg
    subst hg; exact ih i _ hc
  | tup cs vs hn hr ih =>
    rw [PV.view]
    refine .tup _ vs (by rw [viewL_length, hn]) fun i pv hg => ?_
    rw [viewL_get] at hg
    cases hc : cs[i]? <;> simp [hc] at hg
    subst hg; exact ih i _ hc
  | fn f cs vs hn hr ih =>
    rw [PV.view]
    refine .fn f _ vs (by rw [viewL_length, hn]) fun i pv hg => ?_
    rw [viewL_get] at hg
    cases hc : cs[i]? <;> simp [hc] at hg
    subst hg; exact ih i _ hc
  | ptr g cs off vs T hb hh hn hr ih =>
    rw [PV.view]
    have he : (⟨c.τ g, off, none⟩ : Addr) = (⟨c.τ g, 0, none⟩ : Addr).add off := by rw [add_lit]; simp
    rw [he]
    refine .vptr (PV.viewL cs) off ⟨c.τ g, 0, none⟩ (fun j => vs.getD j undef) (.inr ⟨g, false, hb, rfl⟩) (fun j pv hg => ?_) (fun j pv hg => ?_)
    all_goals
      rw [viewL_get] at hg
      cases hc : cs[j]? <;> simp [hc] at hg
      subst hg
    · rw [add_lit, cell_of_row w (c.τ g) (0 + j) vs T (0, 0) hh, Nat.zero_add]
      have hj : j < cs.length := by
        rcases Nat.lt_or_ge j cs.length with h | h
        · exact h
        · rw [List.getElem?_eq_none h] at hc; cases hc
      exact getD_lt (by omega)
    · exact ih j _ hc

theorem lits_RF {w : World} {S S' : Nat → Prop} {es : List (List PV)} (h : es.all (fun e => e.all fun c => match c with | .lit _ => true | _ => false) = true) {i j : Nat} {pv : PV} (hg : getE es i j = some pv) {v : Value} (r : RF w S pv v) : RF w S' pv v := by
  unfold getE at hg
  cases hi : es[i]? with
  | none => simp [hi] at hg
  | some l =>
    simp [hi] at hg
    rw [List.all_eq_true] at h
    have h2 := h l (List.mem_of_getElem? hi)
    rw [List.all_eq_true] at h2
    have h3 := h2 pv (List.mem_of_getElem? hg)
    cases pv <;> simp at h3
    cases r
    exact .lit _
theorem freshL_get {l : List PV} (h : PV.freshL l = true) {i : Nat} {pv : PV} (hg : l[i]? = some pv) : pv.fresh = true := by
  induction l generalizing i with
  | nil => simp at hg
  | cons c cs ih =>
    simp only [PV.freshL, Bool.and_eq_true] at h
    cases i with
    | zero => simp at hg; subst hg; exact h.1
    | succ i => exact ih h.2 (by simpa using hg)
/-- A result that leads to new memory alone. -/
theorem RF.fresh {w : World} {S S' : Nat → Prop} {pv : PV} {v : Value} (r : RF w S pv v) : pv.fresh = true → RF w S' pv.view v := by
  induction r with
  | undef v => intro _; exact .undef v
  | lit v => intro _; exact .lit v
  | nl => intro _; exact .sl [] 1 none 0 0 (fun _ _ => Go.undef) rfl (by simp) (by omega) (Nat.le_refl _) (by simp) (by simp) (by simp [getE]) (by simp [getE])
  | sl => intro h; simp [PV.fresh] at h
  | vptr => intro h; simp [PV.fresh] at h
  | fn => intro h; simp [PV.fresh] at h
  | agg cs vs hn hr ih =>
    intro h; rw [PV.fresh] at h; rw [PV.view]
    refine .agg _ vs (by rw [viewL_length, hn]) fun i pv hg => ?_
    rw [viewL_get] at hg
    cases hc : cs[i]? <;> simp [hc] at hg
    subst hg; exact ih i _ hc (freshL_get h hc)
  | tup cs vs hn hr ih =>
    intro h; rw [PV.fresh] at h; rw [PV.view]
    refine .tup _ vs (by rw [viewL_length, hn]) fun i pv hg => ?_
    rw [viewL_get] at hg
    cases hc : cs[i]? <;> simp [hc] at hg
    subst hg; exact ih i _ hc (freshL_get h hc)
theorem RV.fresh {P : Program} {w : World} {c : Ctx} {S' : Nat → Prop} (hS' : ∀ b, c.blocks b → S' b) {pv : PV} {v : Value} (r : RV P w c pv v) : pv.fresh = true → RF w S' pv.view v := by
  induction r with
  | free pv v h => exact h.fresh
  | own g e es v xs hk0 hk ho hb h1 hr =>
    intro h
    rw [PV.fresh] at h
    exact view_own (c := ⟨fun _ => False, c.τ, c.D⟩) hk0 hk ho (fun b h => hS' _ ⟨g, true, hb b h⟩) h1 (fun i j pv hg => lits_RF h hg (hr i j pv hg)) (fun b hb => hb.elim)
  | optr => intro h; simp [PV.fresh] at h
  | ptr => intro h; simp [PV.fresh] at h
  | fn => intro h; simp [PV.fresh] at h
  | agg cs vs hn hr ih =>
    intro h; rw [PV.fresh] at h; rw [PV.view]
    refine .agg _ vs (by rw [viewL_length, hn]) fun i pv hg => ?_
    rw [viewL_get] at hg
    cases hc : cs[i]? <;> simp [hc] at hg
    subst hg; exact ih i _ hc (freshL_get h hc)
  | tup cs vs hn hr ih =>
    intro h; rw [PV.fresh] at h; rw [PV.view]
    refine .tup _ vs (by rw [viewL_length, hn]) fun i pv hg => ?_
    rw [viewL_get] at hg
    cases hc : cs[i]? <;> simp [hc] at hg
    subst hg; exact ih i _ hc (freshL_get h hc)

/-! ### contracts and frames -/
/-- A call of f enters a body. -/
def enters (P : Program) (f : FuncId) : Bool := match P.funcs[f]? with | some fn => fn.body.isSome && !(fn.name == "runtime.NumGoroutine") | none => false
/-- Called with values that read as 'args' function f returns what reads as r; what was there stays as it was. -/
def PCalls (P : Program) (f : FuncId) (args : List PV) (r : PV) : Prop :=
  enters P f = true ∧ ∀ (w : World) (S : Nat → Prop) (vals : List Value), (∀ b, S b → b < w.heap.size) → vals.length = args.length → (∀ (i : Nat) pv, args[i]? = some pv → RF w S pv (vals.getD i undef)) →
    Calls P f vals.toArray w fun e w' => ∃ v c', e = .returned v ∧ Below w.heap.size w w' ∧ (∀ b, S b → c'.S b) ∧ (∀ b, c'.S b → S b ∨ w.heap.size ≤ b) ∧ c'.Ok (fun b => w.heap.size ≤ b) w' ∧ RV P w' c' r v

/-- A call's beginning: the world, and which blocks it may write. -/
structure Ent where
  w : World
  M : Nat → Prop
  hM : ∀ b, w.heap.size ≤ b → M b
/-- All else is as it was. -/
structure Ent.Fr (E : Ent) (w : World) : Prop where
  os : w.os = E.w.os
  tape : w.tape = E.w.tape
  output : w.output = E.w.output
  size : E.w.heap.size ≤ w.heap.size
  block : ∀ k, k < E.w.heap.size → ¬ E.M k → w.heap[k]? = E.w.heap[k]?
theorem Ent.Fr.mine {E : Ent} {w : World} (h : E.Fr w) {b : Nat} (hb : w.heap.size ≤ b) : E.M b := E.hM b (Nat.le_trans h.size hb)
theorem Ent.Fr.below {E : Ent} {w w' : World} (h : E.Fr w) (hb : Below w.heap.size w w') : E.Fr w' :=
  ⟨hb.os.trans h.os, hb.tape.trans h.tape, hb.output.trans h.output, Nat.le_trans h.size hb.size, fun k hk hm => (hb.block k (Nat.lt_of_lt_of_le hk h.size)).trans (h.block k hk hm)⟩

/-- A frame and a world as a state says. -/
structure Inv (P : Program) (w0 : Ent) (S0 : Nat → Prop) (N : Nat) (σ : St) (a : Act) (w : World) (c : Ctx) : Prop where
  below : w0.Fr w
  ok : c.Ok w0.M w
  sub : ∀ b, S0 b → c.S b
  sup : ∀ b, c.S b → S0 b ∨ w0.M b
  slots : ∀ i, RV P w c (σ.get i) (a.tmps.getD i undef)
  size : a.tmps.size = N
  defers : a.defers = []

theorem get_map (f : PV → PV) (hf : f .undef = .undef) (s : St) (k : Nat) : (s.map f).get k = f (s.get k) := by
  induction s with
  | nil => simp [St.map, St.get, hf]
  | cons x s ih =>
    obtain ⟨i, v⟩ := x
    simp only [St.map, St.get]
    split <;> simp [ih]
theorem get_set (s : St) (d k : Nat) (v : PV) : (s.set d v).get k = if d = k then v else s.get k := by simp only [St.set, St.get, eq_comm]

theorem put_size (a : Act) (d : Option Nat) (v : Value) : (a.put d v).tmps.size = a.tmps.size := by cases d <;> simp [Act.put]
theorem put_defers (a : Act) (d : Option Nat) (v : Value) : (a.put d v).defers = a.defers := by cases d <;> rfl
theorem put_get (a : Act) (d : Nat) (v : Value) (k : Nat) (h : d < a.tmps.size) : (a.put (some d) v).tmps.getD k undef = if d = k then v else a.tmps.getD k undef := by
  simp only [Act.put, Array.getD_eq_getD_getElem?, Array.getElem?_setIfInBounds]
  by_cases hk : d = k
  · subst hk; simp [h]
  · simp [hk]

/-- A value laid into a slot (or thrown away), all else as said. -/
theorem Inv.put {P : Program} {w0 : Ent} {S0 : Nat → Prop} {N : Nat} {σ : St} {a : Act} {w : World} {c : Ctx} (h : Inv P w0 S0 N σ a w c) (d : Option Nat) (hd : ∀ k, d = some k → k < N) {pv : PV} {v : Value} (r : RV P w c pv v) :
    Inv P w0 S0 N (Res.put σ d (.val pv)) (a.put d v) w c := by
  refine ⟨h.below, h.ok, h.sub, h.sup, fun i => ?_, by rw [put_size, h.size], by rw [put_defers, h.defers]⟩
  cases d with
  | none => exact h.slots i
  | some d =>
    rw [put_get a d v i (by rw [h.size]; exact hd d rfl)]
    simp only [Res.put, get_set]
    split
    · exact r
    · exact h.slots i
/-- The world has grown. -/
theorem Inv.ext {P : Program} {w0 : Ent} {S0 : Nat → Prop} {N : Nat} {σ : St} {a : Act} {w w' : World} {c : Ctx} (h : Inv P w0 S0 N σ a w c) (hb : Below w.heap.size w w') : Inv P w0 S0 N σ a w' c :=
  have _hsz := h.below.size
  ⟨h.below.below hb, ⟨fun b hS => Nat.lt_of_lt_of_le (h.ok.hS b hS) hb.size, fun g k hg => ⟨(h.ok.hD g k hg).1, Nat.lt_of_lt_of_le (h.ok.hD g k hg).2.1 hb.size, (h.ok.hD g k hg).2.2⟩, h.ok.inj⟩, h.sub, h.sup,
    fun i => (h.slots i).ext h.ok (Ext.below hb) (Ctx.sub_refl c), h.size, h.defers⟩
/-- More blocks may be read alone. -/
theorem Inv.more {P : Program} {w0 : Ent} {S0 : Nat → Prop} {N : Nat} {σ : St} {a : Act} {w : World} {c : Ctx} (h : Inv P w0 S0 N σ a w c) (S' : Nat → Prop) (h1 : ∀ b, c.S b → S' b) (h2 : ∀ b, S' b → b < w.heap.size)
    (h3 : ∀ b, S' b → S0 b ∨ w0.M b) (h4 : ∀ g k, c.D g k → ¬ S' (c.τ g)) : Inv P w0 S0 N σ a w ⟨S', c.τ, c.D⟩ :=
  ⟨h.below, ⟨h2, fun g k hg => ⟨(h.ok.hD g k hg).1, (h.ok.hD g k hg).2.1, h4 g k hg⟩, h.ok.inj⟩, fun b hb => h1 b (h.sub b hb), h3,
    fun i => (h.slots i).ext (c' := ⟨S', c.τ, c.D⟩) h.ok (Ext.refl w) ⟨h1, fun _ _ h => ⟨h, rfl⟩⟩, h.size, h.defers⟩
end Go.VI
