/- Views, contracts, frames. -/
import Derived.Test.YtppmnjiibmomoaaVHRep
set_option linter.unusedVariables false
set_option linter.unusedSimpArgs false
set_option linter.unusedSectionVars false
namespace Go.VI
open Go.RowKit

theorem getD_lt {α : Type} {vs : Array α} {i : Nat} {d : α} (h : i < vs.size) : vs[i]? = some (vs.getD i d) := by
  simp [Array.getD_eq_getD_getElem?, h]
theorem len_of_get {α : Type} {l : List α} {i : Nat} {x : α} (h : l[i]? = some x) : i < l.length := by
  rcases Nat.lt_or_ge i l.length with q | q
  · exact q
  · rw [List.getElem?_eq_none q] at h; cases h
theorem idx_inj {a b i c k : Nat} (hb : b < k) (hc : c < k) (h : a * k + b = i * k + c) : a = i ∧ b = c := by
  rcases Nat.lt_trichotomy a i with hl | rfl | hl
  · have := Nat.mul_le_mul_right k hl
    rw [Nat.succ_mul] at this
    omega
  · exact ⟨rfl, by omega⟩
  · have := Nat.mul_le_mul_right k hl
    rw [Nat.succ_mul] at this
    omega
theorem idx_lt {a b n k : Nat} (ha : a < n) (hb : b < k) : a * k + b < n * k := by
  have := Nat.mul_le_mul_right k ha
  rw [Nat.succ_mul] at this
  omega
theorem getE_lt {es : List (List PV)} {k a b : Nat} {pv : PV} (hk : ∀ l ∈ es, l.length = k) (h : getE es a b = some pv) : a < es.length ∧ b < k := by
  unfold getE at h
  cases ha : es[a]? with
  | none => simp [ha] at h
  | some l =>
    simp [ha] at h
    have := hk l (List.mem_of_getElem? ha)
    have := len_of_get h
    exact ⟨len_of_get ha, by omega⟩
theorem take_getD (l : List Value) (n i : Nat) (h : i < n) : (l.take n).getD i undef = l.getD i undef := by
  simp [h]

/-- The cells of an owned row. -/
theorem own_cells {w : World} {e size n : Nat} {v : Value} {xs : List Value} (ho : w.ownsRow 0 e size v n xs) {b : Nat} (hb : v.ownBlock = some b) (m : Nat) (hm : m < n * size) :
    w.cell? ((⟨b, 0, none⟩ : Addr).add m) = some (xs.getD m undef) := by
  have h := World.ownsRow.cells ho hb m
  have hl : m < xs.length := by rw [ho.1]; exact hm
  exact h _ (by simp [List.getElem?_eq_getElem hl])

theorem RF.sl_nil (w : World) (S : Nat → Prop) : RF w S (.sl []) (.slice none 0 0) :=
  .sl [] 1 none 0 0 (fun _ _ => Go.undef) rfl (by simp) (by omega) (Nat.le_refl _) (by simp) (by simp) (by simp [getE]) (by simp [getE])

/-- An owned row, as it is read. -/
theorem row_view {P : Program} {w : World} {c : Ctx} {S : Nat → Prop} {k : Key} {e : Nat} {es : List (List PV)} {R : Nat → Nat → PV → Value → Prop} {xs : List Value} (r : RowRep P w c k e es R xs)
    (hR : ∀ i j pv v, R i j pv v → RF w S pv v) (hb : ∀ b, (c.hd k).ownBlock = some b → S b) : RF w S (.sl es) (c.hd k) := by
  rcases r.own.2 with ⟨h0, hn⟩ | ⟨g2, cap, cur, h0, hb2, hg2, hnc, rest⟩
  · have : es = [] := List.eq_nil_of_length_eq_zero hn
    subst this
    rw [h0]
    exact RF.sl_nil w S
  · have hob : (c.hd k).ownBlock = some g2 := by rw [h0]; rfl
    have hS := hb g2 hob
    rw [h0]
    refine .sl es (tSize P e) _ _ cap (fun i j => xs.getD (i * tSize P e + j) undef) rfl r.len r.pos hnc (fun _ => ⟨_, rfl, hS⟩) (fun ad had i j pv hg => ?_) r.one (fun i j pv hg => hR _ _ _ _ (r.rep i j pv hg))
    injection had with had
    subst had
    have hlt := getE_lt r.len hg
    exact own_cells r.own hob _ (idx_lt hlt.1 hlt.2)
/-- A run of an owned row's elements, as it is read. -/
theorem part_view {P : Program} {w : World} {c : Ctx} {S : Nat → Prop} {k : Key} {e lo n cc : Nat} {A : Option Addr} {es : List (List PV)} {R : Nat → Nat → PV → Value → Prop} {xs : List Value} (r : RowRep P w c k e es R xs)
    (hR : ∀ i j pv v, R i j pv v → RF w S pv v) (hb : ∀ b, (c.hd k).ownBlock = some b → S b) (hcc : n ≤ cc) (hA : 0 < n → A = some ⟨c.τ k, lo * tSize P e, none⟩) (hfit : lo + n ≤ es.length) :
    RF w S (.sl ((es.drop lo).take n)) (.slice A n cc) := by
  have hl : ((es.drop lo).take n).length = n := by rw [List.length_take, List.length_drop]; omega
  have hgE : ∀ i j pv, getE ((es.drop lo).take n) i j = some pv → i < n ∧ getE es (lo + i) j = some pv := by
    intro i j pv hg
    unfold getE at hg ⊢
    rw [List.getElem?_take] at hg
    split at hg
    · rename_i hi
      rw [List.getElem?_drop] at hg
      exact ⟨hi, hg⟩
    · simp at hg
  rcases r.own.2 with ⟨h0, hn⟩ | ⟨g2, cap, cur, h0, hb2, hg2, hnc, rest⟩
  · have h0n : n = 0 := by omega
    subst h0n
    exact .sl _ 1 _ _ cc (fun _ _ => undef) (by simp) (by simp) (by omega) hcc (fun h => absurd (List.eq_nil_of_length_eq_zero hl) h) (fun ad had i j pv hg => by have := (hgE i j pv hg).1; omega) (fun i j pv hg => by have := (hgE i j pv hg).1; omega) (fun i j pv hg => by have := (hgE i j pv hg).1; omega)
  · have hob : (c.hd k).ownBlock = some g2 := by rw [h0]; rfl
    obtain ⟨_, hτ⟩ := r.blk g2 hob
    refine .sl _ (tSize P e) _ _ cc (fun i j => xs.getD ((lo + i) * tSize P e + j) undef) hl.symm (fun l hl => r.len l (List.mem_of_mem_drop (List.mem_of_mem_take hl))) r.pos hcc (fun hne => ?_) (fun ad had i j pv hg => ?_) (fun i j pv hg => r.one _ _ _ (hgE i j pv hg).2) (fun i j pv hg => hR _ _ _ _ (r.rep _ _ pv (hgE i j pv hg).2))
    · have hn : 0 < n := by
        rcases Nat.eq_zero_or_pos n with h | h
        · subst h; simp at hne
        · exact h
      exact ⟨_, hA hn, by rw [hτ]; exact hb g2 hob⟩
    · obtain ⟨hi, hg⟩ := hgE i j pv hg
      rw [hA (by omega)] at had
      injection had with had
      subst had
      have hlt := getE_lt r.len hg
      have := own_cells r.own hob _ (idx_lt hlt.1 hlt.2)
      rw [add_lit] at this ⊢
      rw [hτ, ← this]
      congr 2
      rw [Nat.zero_add, Nat.add_mul]; omega

theorem cell_view {P : Program} {w : World} {c : Ctx} {S : Nat → Prop} {g : Nat} {J : List (Nat × Nat)} (hS : ∀ b, c.S b → S b) (hb : ∀ k : Key, k.tag = g → c.D k → S (c.τ k)) (i j : Nat) (pv : PV) (v : Value) (h : CellRep P w c g J i j pv v) : RF w S pv v := by
  unfold CellRep at h
  split at h
  · exact h.same (fun _ _ => rfl) hS
  · obtain ⟨rfl, es', xs, rfl, r⟩ := h
    exact row_view r (fun _ _ _ _ h => h.same (fun _ _ => rfl) hS) fun b hb' => by obtain ⟨q1, rfl⟩ := r.blk b hb'; exact hb _ rfl q1

/-- What is said of the row k. -/
theorem rowAt_rep {P : Program} {w : World} {c : Ctx} {h : HP} (objs : ∀ g o, h.get g = some o → HRep P w c g o) {k : Key} {es : List (List PV)} (hr : h.rowAt k = some es) :
    ∃ e xs, RowRep P w c k e es (match k with | .top g => CellRep P w c g (h.rowJ k) | .sub _ _ _ => fun _ _ pv v => RF w c.S pv v) xs := by
  cases k with
  | top g =>
    simp only [HP.rowAt] at hr
    split at hr
    · rename_i e J es' hg
      injection hr with hr; subst hr
      obtain ⟨xs, r⟩ := objs g _ hg
      refine ⟨e, xs, ?_⟩
      simp only [HP.rowJ, hg]
      exact r
    · cases hr
  | sub g i j =>
    simp only [HP.rowAt] at hr
    split at hr
    case h_2 => cases hr
    rename_i e J es' hg
    split at hr
    case isFalse => cases hr
    rename_i hJ
    split at hr
    case h_2 => cases hr
    rename_i cs hcs
    split at hr
    case h_2 => cases hr
    rename_i es2 hc
    injection hr with hr; subst hr
    obtain ⟨xs, r⟩ := objs g _ hg
    have := r.rep i j (.sl es2) (by unfold getE; rw [hcs]; exact hc)
    unfold CellRep at this
    cases hj : Jat J j with
    | none => rw [hj] at hJ; cases hJ
    | some e' =>
      rw [hj] at this
      obtain ⟨_, es', xs', h2, r'⟩ := this
      injection h2 with h2; subst h2
      exact ⟨e', xs', r'⟩
theorem rowAt_tag {h : HP} {k : Key} {es : List (List PV)} (hr : h.rowAt k = some es) : ∃ o, h.get k.tag = some o := by
  cases k with
  | top g =>
    simp only [HP.rowAt] at hr
    split at hr
    · exact ⟨_, by assumption⟩
    · cases hr
  | sub g i j =>
    simp only [HP.rowAt] at hr
    split at hr
    · exact ⟨_, by assumption⟩
    · cases hr
/-- each cell of the row k, as it is read -/
theorem rowAt_cells {P : Program} {w : World} {c : Ctx} {S : Nat → Prop} {h : HP} {k : Key} (hS : ∀ b, c.S b → S b) (hb : ∀ k' : Key, k'.tag = k.tag → c.D k' → S (c.τ k')) (i j : Nat) (pv : PV) (v : Value)
    (hr : (match k with | .top g => CellRep P w c g (h.rowJ k) | .sub _ _ _ => fun _ _ pv v => RF w c.S pv v) i j pv v) : RF w S pv v := by
  cases k with
  | top g => exact cell_view hS hb i j pv v hr
  | sub g i' j' => exact RF.same (w := w) (fun _ _ => rfl) hS hr

theorem viewL_length (h : HP) : ∀ (n : Nat) (l : List PV), (PV.viewL h n l).length = l.length
  | 0, l => by simp [PV.viewL]
  | n + 1, [] => by simp [PV.viewL]
  | n + 1, c :: cs => by simp [PV.viewL, viewL_length h n cs]

/-- How whoever may read these objects sees the slots' values. -/
theorem view_ok {P : Program} {w : World} {c : Ctx} {h : HP} {S : Nat → Prop} (hS : ∀ b, c.S b → S b) (objs : ∀ g o, h.get g = some o → HRep P w c g o) (hb : ∀ g o, h.get g = some o → ∀ k : Key, k.tag = g → c.D k → S (c.τ k)) :
    ∀ n, (∀ pv v, RV P w c pv v → RF w S (PV.view h n pv) v) ∧ (∀ (cs : List PV) (vf : Nat → Value), (∀ (i : Nat) pv, cs[i]? = some pv → RV P w c pv (vf i)) → ∀ (i : Nat) pv, (PV.viewL h n cs)[i]? = some pv → RF w S pv (vf i))
  | 0 => ⟨fun pv v _ => by rw [PV.view]; exact .undef v, fun cs vf _ i pv hg => by
      simp only [PV.viewL, List.getElem?_map, Option.map_eq_some_iff] at hg
      obtain ⟨_, _, rfl⟩ := hg
      exact .undef _⟩
  | n + 1 => by
    obtain ⟨ih1, ih2⟩ := view_ok hS objs hb n
    have row : ∀ (k : Key) (e : Nat) (es : List (List PV)), h.rowAt k = some es → RF w S (.sl es) (c.hd k) := fun k e es hr => by
      obtain ⟨e', xs, r⟩ := rowAt_rep objs hr
      obtain ⟨o, ho⟩ := rowAt_tag hr
      exact row_view r (fun i j pv v => rowAt_cells hS (hb _ o ho) i j pv v) fun b hb' => by obtain ⟨q1, rfl⟩ := r.blk b hb'; exact hb _ o ho _ rfl q1
    refine ⟨fun pv v r => ?_, fun cs vf hr i pv hg => ?_⟩
    · cases r with
      | free pv v hf =>
        have hf' := hf.same (w' := w) (S' := S) (fun _ _ => rfl) hS
        cases hf with
        | nl => rw [PV.view]; exact RF.sl_nil w S
        | agg cs vs hn hr => rw [PV.view]; exact .agg _ vs (by rw [viewL_length, hn]) (ih2 cs _ fun i pv hg => .free _ _ (hr i pv hg))
        | tup cs vs hn hr => rw [PV.view]; exact .tup _ vs (by rw [viewL_length, hn]) (ih2 cs _ fun i pv hg => .free _ _ (hr i pv hg))
        | fn f cs vs hn hr => rw [PV.view]; exact .fn f _ vs (by rw [viewL_length, hn]) (ih2 cs _ fun i pv hg => .free _ _ (hr i pv hg))
        | undef => rw [PV.view] <;> first | exact hf' | (intros; simp_all; done)
        | lit => rw [PV.view] <;> first | exact hf' | (intros; simp_all; done)
        | fmap => rw [PV.view] <;> first | exact hf' | (intros; simp_all; done)
        | sl => rw [PV.view] <;> first | exact hf' | (intros; simp_all; done)
        | vptr => rw [PV.view] <;> first | exact hf' | (intros; simp_all; done)
      | row k e he _ =>
        rw [PV.view]
        simp only [PV.elems]
        cases hr : h.rowAt k with
        | none => exact .undef _
        | some es => exact row k e es hr
      | part k e lo m A cc he hn hA =>
        rw [PV.view]
        simp only [PV.elems]
        cases hr : h.rowAt k with
        | none => exact .undef _
        | some es =>
          simp only []
          split
          · rename_i es' he'
            split at he'
            · rename_i hfit
              injection he' with he'; subst he'
              obtain ⟨e', xs, r⟩ := rowAt_rep objs hr
              obtain rfl : e' = e := r.ty.symm.trans he
              obtain ⟨o, ho⟩ := rowAt_tag hr
              exact part_view r (fun i j pv v => rowAt_cells hS (hb _ o ho) i j pv v) (fun b hb' => by obtain ⟨q1, rfl⟩ := r.blk b hb'; exact hb _ o ho _ rfl q1) hn hA hfit
            · cases he'
          · exact .undef _
      | ptr g off =>
        rw [PV.view]
        split
        · rename_i cs hg
          obtain ⟨h1, vs, T, h2, h3, h4⟩ := objs g _ hg
          have he : (⟨c.τ (.top g), off, none⟩ : Addr) = (⟨c.τ (.top g), 0, none⟩ : Addr).add off := by rw [add_lit]; simp
          rw [he]
          refine .vptr _ off ⟨c.τ (.top g), 0, none⟩ (fun j => vs.getD j undef) (hb g _ hg _ rfl h1) (fun j pv hgj => ?_) (ih2 cs _ h4)
          have hj : j < cs.length := by have := len_of_get hgj; rwa [viewL_length] at this
          rw [add_lit, cell_of_row w (c.τ (.top g)) (0 + j) vs T (0, 0) h2, Nat.zero_add]
          exact getD_lt (by omega)
        · exact .undef _
      | rptr k e i off he =>
        rw [PV.view]
        cases hr : h.rowAt k with
        | none => exact .undef _
        | some es =>
          simp only []
          cases hi : es[i]? with
          | none => exact .undef _
          | some cs =>
            simp only []
            obtain ⟨e', xs, r⟩ := rowAt_rep objs hr
            obtain rfl : e' = e := r.ty.symm.trans he
            obtain ⟨o, ho⟩ := rowAt_tag hr
            have hx : (⟨c.τ k, i * tSize P e' + off, none⟩ : Addr) = (⟨c.τ k, i * tSize P e', none⟩ : Addr).add off := (add_lit _ _ _).symm
            rw [hx]
            rcases r.own.2 with ⟨h0, hn⟩ | ⟨g2, cap, cur, h0, hb2, hg2, hnc, rest⟩
            · have : es = [] := List.eq_nil_of_length_eq_zero hn
              subst this; simp at hi
            · have hob : (c.hd k).ownBlock = some g2 := by rw [h0]; rfl
              obtain ⟨hD, hτ⟩ := r.blk g2 hob
              refine .vptr cs off ⟨c.τ k, i * tSize P e', none⟩ (fun j => xs.getD (i * tSize P e' + j) undef) (hb _ o ho _ rfl hD) (fun j pv hg => ?_) (fun j pv hg => ?_)
              all_goals have hgE : getE es i j = some pv := by unfold getE; rw [hi]; exact hg
              · have hlt := getE_lt r.len hgE
                have := own_cells r.own hob (i * tSize P e' + j) (idx_lt hlt.1 hlt.2)
                rw [add_lit] at this ⊢
                rw [hτ]
                rwa [Nat.zero_add] at this
              · exact rowAt_cells hS (hb _ o ho) i j pv _ (r.rep i j pv hgE)
      | mp g =>
        rw [PV.view]
        split
        · rename_i m hg
          obtain ⟨h1, h2⟩ := objs g _ hg
          exact .fmap m _ (hb g _ hg _ rfl h1) h2
        · exact .undef _
      | agg cs vs hn hr => rw [PV.view]; exact .agg _ vs (by rw [viewL_length, hn]) (ih2 cs _ hr)
      | tup cs vs hn hr => rw [PV.view]; exact .tup _ vs (by rw [viewL_length, hn]) (ih2 cs _ hr)
      | fn f cs vs hn hr => rw [PV.view]; exact .fn f _ vs (by rw [viewL_length, hn]) (ih2 cs _ hr)
    · cases cs with
      | nil => simp [PV.viewL] at hg
      | cons x cs =>
        rw [PV.viewL] at hg
        cases i with
        | zero => simp at hg; subst hg; exact ih1 _ _ (hr 0 x (by simp))
        | succ i => exact ih2 cs (fun i => vf (i + 1)) (fun i pv hg => hr (i + 1) pv (by simpa using hg)) i pv (by simpa using hg)

/-! ### contracts and frames -/
/-- A call's beginning: the world, which blocks it may write, where the arguments' rows lie. -/
structure Ent where
  w : World
  M : Nat → Prop
  hM : ∀ b, w.heap.size ≤ b → M b
  c : Ctx
/-- All else is as it was. -/
structure Ent.Fr (E : Ent) (w : World) : Prop where
  os : w.os = E.w.os
  tape : w.tape = E.w.tape
  output : w.output = E.w.output
  size : E.w.heap.size ≤ w.heap.size
  block : ∀ k, k < E.w.heap.size → ¬ E.M k → w.heap[k]? = E.w.heap[k]?
theorem Ent.Fr.mine {E : Ent} {w : World} (h : E.Fr w) {b : Nat} (hb : w.heap.size ≤ b) : E.M b := E.hM b (Nat.le_trans h.size hb)
theorem Ent.Fr.below {E : Ent} {w w' : World} (h : E.Fr w) (hb : Below w.heap.size w w') : E.Fr w' :=
  ⟨hb.os.trans h.os, hb.tape.trans h.tape, hb.output.trans h.output, Nat.le_trans h.size hb.size, fun k hk hm => (hb.block k (Nat.lt_of_lt_of_le hk h.size)).trans (h.block k hk hm)⟩
/-- The arguments' rows lie where they lay. -/
def Pinned (c0 c : Ctx) : Prop := ∀ g, PIN ≤ g → Agree c0 c (.top g)

/-- A call of f enters a body. -/
def enters (P : Program) (f : FuncId) : Bool := match P.funcs[f]? with | some fn => fn.body.isSome && !(fn.name == "runtime.NumGoroutine") | none => false
/-- Called with 'args' and the objects H0 function f returns r, with the objects H1; all else stays as it was. -/
def PC (P : Program) (f : FuncId) (args : List PV) (H0 : HP) (r : PV) (H1 : HP) : Prop :=
  enters P f = true ∧ ∀ (w : World) (c : Ctx) (vals : List Value), c.Ok (fun _ => True) w → (∀ g o, H0.get g = some o → HRep P w c g o) → vals.length = args.length → (∀ (i : Nat) pv, args[i]? = some pv → RV P w c pv (vals.getD i undef)) →
    Calls P f vals.toArray w fun e w' => ∃ v c', e = .returned v ∧ Ent.Fr ⟨w, fun b => w.heap.size ≤ b ∨ ∃ k, c.D k ∧ c.τ k = b, fun _ h => .inl h, c⟩ w' ∧ (∀ b, c.S b → c'.S b) ∧ (∀ b, c'.S b → c.S b ∨ w.heap.size ≤ b ∨ ∃ k, c.D k ∧ c.τ k = b) ∧
      c'.Ok (fun b => w.heap.size ≤ b ∨ ∃ k, c.D k ∧ c.τ k = b) w' ∧ Pinned c c' ∧ RV P w' c' r v ∧ ∀ g o, H1.get g = some o → HRep P w' c' g o

/-- A frame and a world as a state says. -/
structure Inv (P : Program) (E : Ent) (S0 : Nat → Prop) (N : Nat) (σ : St) (a : Act) (w : World) (c : Ctx) : Prop where
  below : E.Fr w
  ok : c.Ok E.M w
  sub : ∀ b, S0 b → c.S b
  sup : ∀ b, c.S b → S0 b ∨ E.M b
  slots : ∀ i, RV P w c (σ.get i) (a.tmps.getD i undef)
  objs : ∀ g o, σ.hget g = some o → HRep P w c g o
  pin : Pinned E.c c
  small : N ≤ PIN
  size : a.tmps.size = N
  defers : a.defers = []

theorem get_map (f : PV → PV) (hf : f .undef = .undef) (s : SL) (k : Nat) : (s.map f).get k = f (s.get k) := by
  induction s with
  | nil => simp [SL.map, SL.get, hf]
  | cons x s ih =>
    obtain ⟨i, v⟩ := x
    simp only [SL.map, SL.get]
    split <;> simp [ih]
theorem get_set (s : St) (d k : Nat) (v : PV) : (s.set d v).get k = if d = k then v else s.get k := by simp only [St.set, St.get, SL.get, eq_comm]
theorem hget_set (s : St) (d g : Nat) (v : PV) : (s.set d v).hget g = s.hget g := rfl
theorem get_put (s : St) (g k : Nat) (o : HO) : (s.put g o).get k = s.get k := rfl
theorem hget_put (s : St) (g k : Nat) (o : HO) : (s.put g o).hget k = if k = g then some o else s.hget k := by
  simp only [St.put, St.hget, HP.get]
  by_cases h : k = g
  · subst h; simp
  · have : Nat.beq k g = false := by cases hq : Nat.beq k g with | false => rfl | true => exact absurd (Nat.eq_of_beq_eq_true hq) h
    simp [h, this]
theorem get_kill (p : Key → Bool) (s : St) (k : Nat) : (s.kill p).get k = (s.get k).kill p := get_map _ rfl _ _
theorem hp_get_kill (p : Key → Bool) (h : HP) (g : Nat) : (h.kill p).get g = if p (.top g) = true then none else (h.get g).map (HO.kill p) := by
  induction h with
  | nil => simp [HP.kill, HP.get]
  | cons x h ih =>
    obtain ⟨g', o⟩ := x
    simp only [HP.kill]
    by_cases e : g = g'
    · subst e
      split
      · rename_i hp; rw [ih]; simp [hp]
      · rename_i hp; simp [HP.get, hp]
    · have hb : Nat.beq g g' = false := by cases hq : Nat.beq g g' with | false => rfl | true => exact absurd (Nat.eq_of_beq_eq_true hq) e
      split
      · rw [ih]; simp [HP.get, hb]
      · simp only [HP.get, hb, Bool.false_eq_true, if_false]; rw [ih]
theorem hget_kill (p : Key → Bool) (s : St) (g : Nat) : (s.kill p).hget g = if p (.top g) = true then none else (s.hget g).map (HO.kill p) := hp_get_kill p s.h g

theorem put_size (a : Act) (d : Option Nat) (v : Value) : (a.put d v).tmps.size = a.tmps.size := by cases d <;> simp [Act.put]
theorem put_defers (a : Act) (d : Option Nat) (v : Value) : (a.put d v).defers = a.defers := by cases d <;> rfl
theorem put_get (a : Act) (d : Nat) (v : Value) (k : Nat) (h : d < a.tmps.size) : (a.put (some d) v).tmps.getD k undef = if d = k then v else a.tmps.getD k undef := by
  simp only [Act.put, Array.getD_eq_getD_getElem?, Array.getElem?_setIfInBounds]
  by_cases hk : d = k
  · subst hk; simp [h]
  · simp [hk]

def setO (σ : St) (d : Option Nat) (v : PV) : St := match d with | some d => σ.set d v | none => σ
section
variable {P : Program} {E : Ent} {S0 : Nat → Prop} {N : Nat} {σ : St} {a : Act} {w : World} {c : Ctx}
/-- A value laid into a slot (or thrown away), all else as said. -/
theorem Inv.put (h : Inv P E S0 N σ a w c) (d : Option Nat) (hd : ∀ k, d = some k → k < N) {pv : PV} {v : Value} (r : RV P w c pv v) :
    Inv P E S0 N (setO σ d pv) (a.put d v) w c := by
  refine ⟨h.below, h.ok, h.sub, h.sup, fun i => ?_, ?_, h.pin, h.small, by rw [put_size, h.size], by rw [put_defers, h.defers]⟩
  · cases d with
    | none => exact h.slots i
    | some d =>
      rw [put_get a d v i (by rw [h.size]; exact hd d rfl)]
      simp only [setO, get_set]
      split
      · exact r
      · exact h.slots i
  · cases d with
    | none => exact h.objs
    | some d => exact h.objs
/-- The world and the context have changed but for what is kept. -/
theorem Inv.step (h : Inv P E S0 N σ a w c) {w' : World} {c' : Ctx} (p : Key → Bool) (X : Nat → Prop) (hfr : E.Fr w') (ok : c'.Ok E.M w') (hS : Same c.S w w') (hSS : ∀ b, c.S b → c'.S b) (hsup : ∀ b, c'.S b → S0 b ∨ E.M b)
    (hpin : ∀ k, PIN ≤ k.tag → p k = true → k.isTop = false) (hag : ∀ k, p k = false → Agree c c' k) (hD : ∀ k, c.D k → ¬ X k.tag → w'.heap[c.τ k]? = w.heap[c.τ k]? ∧ c'.D k) (hX : ∀ k, p k = true → X k.tag)
    {σ' : St} (hslots : σ'.s = (σ.kill p).s) (hobjs : ∀ g o, ¬ X g → σ'.hget g = some o → (σ.kill p).hget g = some o) (hnew : ∀ g o, X g → σ'.hget g = some o → HRep P w' c' g o) : Inv P E S0 N σ' a w' c' := by
  refine ⟨hfr, ok, fun b hb => hSS b (h.sub b hb), hsup, fun i => ?_, fun g o hg => ?_, fun g hg => ?_, h.small, h.size, h.defers⟩
  · have : σ'.get i = (σ.kill p).get i := by unfold St.get; rw [hslots]
    rw [this, get_kill]
    exact (h.slots i).keepKill hS hSS hag
  · by_cases hx : X g
    · exact hnew g o hx hg
    · have hg' := hobjs g o hx hg
      rw [hget_kill] at hg'
      split at hg'
      · cases hg'
      · simp only [Option.map_eq_some_iff] at hg'
        obtain ⟨o', ho', rfl⟩ := hg'
        refine (h.objs g o' ho').keepKill hS hSS hag (fun k hk => ?_) fun k hk hDk => hD k hDk (hk ▸ hx)
        cases hp : p k with
        | false => rfl
        | true => exact absurd (hk ▸ hX k hp) hx
  · have hp : p (.top g) = false := by
      cases hq : p (.top g) with
      | false => rfl
      | true => have := hpin (.top g) hg hq; cases this
    obtain ⟨q1, q2, q3⟩ := h.pin g hg
    obtain ⟨r1, r2, r3⟩ := hag _ hp
    exact ⟨r1.trans q1, r2.trans q2, r3.trans q3⟩
/-- The world has grown. -/
theorem Inv.ext (h : Inv P E S0 N σ a w c) {w' : World} (hb : Below w.heap.size w w') : Inv P E S0 N σ a w' c :=
  have _hsz := h.below.size
  have hS : Same c.S w w' := fun b hS => hb.block b (h.ok.hS b hS)
  ⟨h.below.below hb, ⟨fun b hS => Nat.lt_of_lt_of_le (h.ok.hS b hS) hb.size, fun k hg => ⟨(h.ok.hD k hg).1, Nat.lt_of_lt_of_le (h.ok.hD k hg).2.1 hb.size, (h.ok.hD k hg).2.2⟩, h.ok.inj⟩, h.sub, h.sup,
    fun i => (h.slots i).keepAll hS (fun _ h => h) fun k => Agree.refl c k, fun g o hg => (h.objs g o hg).keepAll hS (fun _ h => h) (fun k => Agree.refl c k) fun k _ hD => ⟨hb.block _ (h.ok.hD k hD).2.1, hD⟩, h.pin, h.small, h.size, h.defers⟩
/-- More blocks may be read alone. -/
theorem Inv.more (h : Inv P E S0 N σ a w c) (S' : Nat → Prop) (h1 : ∀ b, c.S b → S' b) (h2 : ∀ b, S' b → b < w.heap.size)
    (h3 : ∀ b, S' b → S0 b ∨ E.M b) (h4 : ∀ k, c.D k → ¬ S' (c.τ k)) : Inv P E S0 N σ a w ⟨S', c.τ, c.hd, c.ty, c.D⟩ :=
  ⟨h.below, ⟨h2, fun k hg => ⟨(h.ok.hD k hg).1, (h.ok.hD k hg).2.1, h4 k hg⟩, h.ok.inj⟩, fun b hb => h1 b (h.sub b hb), h3,
    fun i => (h.slots i).keepAll (c' := ⟨S', c.τ, c.hd, c.ty, c.D⟩) (fun _ _ => rfl) h1 fun k => ⟨rfl, rfl, rfl⟩, fun g o hg => (h.objs g o hg).keepAll (c' := ⟨S', c.τ, c.hd, c.ty, c.D⟩) (fun _ _ => rfl) h1 (fun k => ⟨rfl, rfl, rfl⟩) fun k _ hD => ⟨rfl, hD⟩, h.pin, h.small, h.size, h.defers⟩
/-- Less is said. -/
theorem Inv.weak (h : Inv P E S0 N σ a w c) {σ' : St} (hs : ∀ i, σ'.get i = .undef ∨ σ'.get i = σ.get i) (ho : ∀ g o, σ'.hget g = some o → σ.hget g = some o) : Inv P E S0 N σ' a w c :=
  ⟨h.below, h.ok, h.sub, h.sup, fun i => by rcases hs i with e | e <;> rw [e]; exact .free _ _ (.undef _); exact h.slots i, fun g o hg => h.objs g o (ho g o hg), h.pin, h.small, h.size, h.defers⟩
end
end Go.VI
