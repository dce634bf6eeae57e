/- Each operation does what the evaluator says: the frame of such a proof; what is read. -/
import Derived.Test.YtppmnjiibmomoaaVHInv
set_option linter.unusedVariables false
set_option linter.unusedSimpArgs false
set_option linter.unusedSectionVars false
namespace Go.VI
open Go.RowKit

theorem ofC_RF (w : World) (S : Nat → Prop) (v : Value) : RF w S (ofC v) v := by
  unfold ofC
  split
  · exact .nl
  · exact .undef _
  · exact .undef _
  · exact .lit _
theorem ofV_RF (w : World) (S : Nat → Prop) (v : Value) : RF w S (ofV v) v := by
  cases v with
  | agg cs =>
    refine .agg _ cs (by simp) fun i pv hg => ?_
    simp only [List.getElem?_map] at hg
    cases hc : cs.toList[i]? with
    | none => simp [hc] at hg
    | some u =>
      simp [hc] at hg
      subst hg
      have : cs.getD i Go.undef = u := by
        rw [Array.getElem?_toList] at hc
        simp [Array.getD_eq_getD_getElem?, hc]
      rw [this]
      exact ofC_RF w S u
  | tuple vs =>
    simp only [ofV]
    split
    · rename_i h
      have : vs = #[] := by simpa using h
      subst this
      exact .lit _
    · exact .undef _
  | func f first caps =>
    simp only [ofV]
    cases f with
    | func f =>
      simp only []
      split
      · rename_i h
        have h1 : first = #[] := by simpa using h.1
        have h2 : caps = #[] := by simpa using h.2
        subst h1 h2
        exact .fn _ [] #[] rfl (by simp)
      · exact .undef _
    | _ => exact ofC_RF w S _
  | _ => simp only [ofV]; exact ofC_RF w S _

theorem ofE_RF (w : World) (S : Nat → Prop) (v : Value) : RF w S (ofE v) v := by
  unfold ofE
  split
  · exact RF.sl_nil _ _
  · exact .undef _
  · exact .undef _
  · exact .lit _

/-- the key g is now the block b, its slice v -/
def Ctx.lay (c : Ctx) (g b : Nat) (v : Value) (e : TypeId) (q : Prop) (J : List (Nat × Nat) := []) : Ctx :=
  ⟨c.S, fun k => if k = .top g then b else c.τ k, fun k => if k = .top g then v else if k.tag = g then .slice none 0 0 else c.hd k,
    fun k => if k = .top g then e else match k with | .sub g' _ j => if g' = g then (Jat J j).getD 0 else c.ty k | k => c.ty k, fun k => if k.tag = g then k = .top g ∧ q else c.D k⟩
section
variable {c : Ctx} {g b : Nat} {v : Value} {e : TypeId} {q : Prop} {w : World} {J : List (Nat × Nat)}
theorem lay_top : (c.lay g b v e q J).τ (.top g) = b ∧ (c.lay g b v e q J).hd (.top g) = v ∧ (c.lay g b v e q J).ty (.top g) = e ∧ ((c.lay g b v e q J).D (.top g) ↔ q) := by
  simp [Ctx.lay, Key.tag]
theorem lay_agree {k : Key} (h : k.tag ≠ g) : Agree c (c.lay g b v e q J) k := by
  have : k ≠ .top g := by rintro rfl; exact h rfl
  cases k with
  | top g' => simp [Agree, Ctx.lay, this, h]
  | sub g' i j => simp only [Key.tag] at h; simp [Agree, Ctx.lay, h, Key.tag]
theorem lay_sub {i j : Nat} : (c.lay g b v e q J).hd (.sub g i j) = .slice none 0 0 ∧ (c.lay g b v e q J).ty (.sub g i j) = (Jat J j).getD 0 := by
  simp [Ctx.lay, Key.tag]
theorem lay_D {k : Key} (h : k.tag ≠ g) : (c.lay g b v e q J).D k ↔ c.D k := by simp [Ctx.lay, h]
theorem lay_ok {B : Nat → Prop} {w' : World} (ok : c.Ok B w) (hsz : w.heap.size ≤ w'.heap.size) (hb : q → B b ∧ b < w'.heap.size ∧ ¬ c.S b) (hne : q → ∀ k', k'.tag ≠ g → c.D k' → c.τ k' ≠ b) : (c.lay g b v e q J).Ok B w' := by
  refine ⟨fun b hS => Nat.lt_of_lt_of_le (ok.hS b hS) hsz, fun k hk => ?_, fun k1 k2 h1 h2 he => ?_⟩
  · by_cases e : k.tag = g
    · simp only [Ctx.lay, e, if_true] at hk
      obtain ⟨rfl, hq⟩ := hk
      simpa [Ctx.lay] using hb hq
    · have hk' := (lay_D e).1 hk
      rw [(lay_agree e).1]
      exact ⟨(ok.hD k hk').1, Nat.lt_of_lt_of_le (ok.hD k hk').2.1 hsz, (ok.hD k hk').2.2⟩
  · by_cases e1 : k1.tag = g <;> by_cases e2 : k2.tag = g
    · simp only [Ctx.lay, e1, e2, if_true] at h1 h2
      rw [h1.1, h2.1]
    · simp only [Ctx.lay, e1, if_true] at h1
      obtain ⟨rfl, hq⟩ := h1
      rw [lay_top.1, (lay_agree e2).1] at he
      exact absurd he.symm (hne hq k2 e2 ((lay_D e2).1 h2))
    · simp only [Ctx.lay, e2, if_true] at h2
      obtain ⟨rfl, hq⟩ := h2
      rw [lay_top.1, (lay_agree e1).1] at he
      exact absurd he (hne hq k1 e1 ((lay_D e1).1 h1))
    · rw [(lay_agree e1).1, (lay_agree e2).1] at he
      exact ok.inj _ _ ((lay_D e1).1 h1) ((lay_D e2).1 h2) he
end
theorem ofTag_iff {g : Nat} {k : Key} : ofTag g k = true ↔ k.tag = g := by
  unfold ofTag
  exact ⟨Nat.eq_of_beq_eq_true, fun h => by subst h; simp⟩
theorem ofTag_ff {g : Nat} {k : Key} : ofTag g k = false ↔ k.tag ≠ g := by
  rw [← Bool.not_eq_true]; exact not_congr ofTag_iff

section
variable {P : Program} {E : Ent} {S0 : Nat → Prop} {N : Nat} {σ : St} {a : Act} {w : World} {c : Ctx}

theorem Inv.ev (h : Inv P E S0 N σ a w c) (x : Operand) : RV P w c (pev σ x) (a.eval x) := by
  cases x with
  | tmp t => exact h.slots t
  | const v => exact .free _ _ (ofV_RF w _ v)
  | global g => exact .free _ _ (.undef _)
  | func f => exact .free _ _ (.fn f [] #[] rfl (by simp))

/-- What is to be shown of an operation: it comes to the state σ'. -/
def Does (P : Program) (E : Ent) (S0 : Nat → Prop) (N : Nat) (o : Oper) (a : Act) (w : World) (σ' : St) : Prop :=
  ∀ (next : Act → World → Prop) (Q : Exit → Act → World → Prop), (∀ a' w' c', Inv P E S0 N σ' a' w' c' → next a' w') → o.wp P a w next Q

theorem put_eq (σ : St) (d : Option Nat) (r : Res) : r.put σ d = setO (r.base σ) d r.v := by cases d <;> rfl

/-- The world and the state turned, and a value yielded. -/
theorem does_mut {o : Oper} {r : Res} {v : Value} {w' : World} {c' : Ctx} (hd : ∀ k, o.dst = some k → k < N)
    (hrun : (execOp a.eval o).run P w = .ok (.value v) w' ∨ ((execOp a.eval o).run P w = .ok .skip w' ∧ v = undef))
    (inv1 : Inv P E S0 N (r.base σ) a w' c') (rv : RV P w' c' r.v v) : Does P E S0 N o a w (r.put σ o.dst) := by
  intro next Q hn
  unfold Oper.wp
  have fin : next (a.put o.dst v) w' := by
    refine hn _ _ c' ?_
    rw [put_eq]
    exact inv1.put o.dst hd rv
  rcases hrun with hrun | ⟨hrun, rfl⟩
  · rw [hrun, Oper.upon_value]; exact fin
  · rw [hrun, Oper.upon_skip]; exact fin

theorem does_value {o : Oper} {pv : PV} {v : Value} (h : Inv P E S0 N σ a w c) (hd : ∀ k, o.dst = some k → k < N) (hrun : (execOp a.eval o).run P w = .ok (.value v) w) (r : RV P w c pv v) :
    Does P E S0 N o a w (Res.put σ o.dst (.val pv)) := does_mut hd (.inl hrun) h r

/-- Something new under the tag d. -/
theorem does_new {o : Oper} {d : Nat} {ob : HO} {pv : PV} {v : Value} {w' : World} {c' : Ctx} (hdN : d < PIN) (h : Inv P E S0 N σ a w c) (hd : ∀ k, o.dst = some k → k < N) (hrun : (execOp a.eval o).run P w = .ok (.value v) w')
    (hb : Below w.heap.size w w') (ok : c'.Ok E.M w') (hs : ∀ b, c'.S b ↔ c.S b)
    (hc : ∀ k, k.tag ≠ d → Agree c c' k ∧ (c.D k → c'.D k)) (hob : HRep P w' c' d ob) (r : RV P w' c' pv v) :
    Does P E S0 N o a w (Res.put σ o.dst (.new d ob pv)) := by
  refine does_mut hd (.inl hrun) (c' := c') ?_ r
  refine h.step (ofTag d) (· = d) (h.below.below hb) ok (fun b hS => hb.block b (h.ok.hS b hS)) (fun b hS => (hs b).2 hS) (fun b hS => h.sup b ((hs b).1 hS)) (fun k hk hp => ?_) (fun k hk => (hc k (ofTag_ff.1 hk)).1) (fun k hD hx => ⟨hb.block _ (h.ok.hD k hD).2.1, (hc k hx).2 hD⟩)
    (fun k hk => ofTag_iff.1 hk) rfl (fun g o hx hg => ?_) (fun g o hx hg => ?_)
  · rw [ofTag_iff.1 hp] at hk; omega
  · simp only [Res.new, Res.base, List.foldl_cons, List.foldl_nil, hget_put] at hg
    rwa [if_neg hx] at hg
  · simp only [Res.new, Res.base, List.foldl_cons, List.foldl_nil, hget_put] at hg
    rw [if_pos hx] at hg
    injection hg with hg
    subst hg hx
    exact hob

/-! ### runs of the model -/
theorem run_isAgg {t : TypeId} {b : Bool} (h : tAgg P t = some b) (w : World) : (isAgg t).run P w = .ok b w := by
  unfold tAgg at h
  unfold isAgg
  cases hu : P.underlying t with
  | none => simp [hu] at h
  | some d =>
    rw [hu] at h
    simp only [Sem.run_bind, run_underlying hu, Result.andThen_ok]
    cases d <;> simp at h <;> subst h <;> rfl
theorem info_of_agg {t : TypeId} {b : Bool} (h : tAgg P t = some b) : ∃ i, P.info? t = some i := by
  unfold tAgg Program.underlying at h
  cases hi : P.info? t with
  | none => simp [hi] at h
  | some i => exact ⟨i, rfl⟩
theorem run_sizeOf {t : TypeId} (h : ∃ i, P.info? t = some i) (w : World) : (sizeOf t).run P w = .ok (tSize P t) w := by
  obtain ⟨i, hi⟩ := h
  simp [sizeOf, typeInfo, hi, tSize, Program.cellsOf]
theorem run_loadCellsFrom (ad : Addr) (n : Nat) : ∀ (i : Nat) (acc : Array Value) (vf : Nat → Value), (∀ j, j < n → w.cell? (ad.add (i + j)) = some (vf j)) →
    (loadCellsFrom ad i n acc).run P w = .ok (acc ++ ((List.range n).map vf).toArray) w := by
  induction n with
  | zero => intro i acc vf _; simp [loadCellsFrom]
  | succ n ih =>
    intro i acc vf h
    have h0 : w.cell? (ad.add i) = some (vf 0) := h 0 (by omega)
    simp only [loadCellsFrom, Sem.run_bind, load, Sem.run, h0, Result.andThen_ok]
    rw [ih (i + 1) (acc.push (vf 0)) (fun j => vf (j + 1)) (fun j hj => by have := h (j + 1) (by omega); rwa [show i + 1 + j = i + (j + 1) from by omega])]
    simp [List.range_succ_eq_map, Function.comp_def]
theorem run_loadVar_agg {t : TypeId} (h : tAgg P t = some true) (ad : Addr) (vf : Nat → Value) (hc : ∀ j, j < tSize P t → w.cell? (ad.add j) = some (vf j)) :
    (loadVar t ad).run P w = .ok (.agg ((List.range (tSize P t)).map vf).toArray) w := by
  simp only [loadVar, Sem.run_bind, run_isAgg h, Result.andThen_ok, if_true, run_sizeOf (info_of_agg h), loadCells]
  rw [run_loadCellsFrom ad (tSize P t) 0 #[] vf (by simpa using hc)]
  simp
theorem run_loadVar_cell {t : TypeId} (h : tAgg P t = some false) (ad : Addr) {v : Value} (hc : w.cell? ad = some v) : (loadVar t ad).run P w = .ok v w := by
  simp [loadVar, Sem.run_bind, run_isAgg h, Result.andThen_ok, load, Sem.run, hc]

theorem range?_some {cs l : List PV} {off n : Nat} (h : range? cs off n = some l) : off + n ≤ cs.length ∧ l.length = n ∧ ∀ i pv, l[i]? = some pv → cs[off + i]? = some pv := by
  unfold range? at h
  split at h
  · rename_i hh
    injection h with h
    subst h
    refine ⟨hh, by simp; omega, fun i pv hg => ?_⟩
    rw [List.getElem?_take] at hg
    split at hg
    · rwa [List.getElem?_drop] at hg
    · cases hg
  · cases h

/-- From the cells at an address to what is loaded. -/
theorem load_ok {t : TypeId} {agg : Bool} (hagg : tAgg P t = some agg) {cs : List PV} {off : Nat} {pv : PV} (ad : Addr) (vf : Nat → Value)
    (hc : ∀ (i : Nat) p, cs[i]? = some p → w.cell? (ad.add i) = some (vf i) ∧ RV P w c p (vf i)) (h : (if agg then (range? cs off (tSize P t)).map PV.agg else cs[off]?) = some pv) :
    ∃ v, (loadVar t (ad.add off)).run P w = .ok v w ∧ RV P w c pv v := by
  cases agg with
  | true =>
    simp only [if_true] at h
    cases hr : range? cs off (tSize P t) with
    | none => simp [hr] at h
    | some l =>
      simp [hr] at h
      subst h
      obtain ⟨h1, h2, h3⟩ := range?_some hr
      have get : ∀ j, j < tSize P t → ∃ p, cs[off + j]? = some p := fun j hj => ⟨cs[off + j]'(by omega), List.getElem?_eq_getElem (by omega)⟩
      refine ⟨_, run_loadVar_agg hagg _ (fun j => vf (off + j)) (fun j hj => ?_), .agg l _ (by simp [h2]) fun i p hg => ?_⟩
      · obtain ⟨p, hp⟩ := get j hj
        rw [add_add]; exact (hc _ p hp).1
      · have hi : i < tSize P t := by
          rcases Nat.lt_or_ge i l.length with hh | hh
          · omega
          · rw [List.getElem?_eq_none hh] at hg; cases hg
        have hv : (((List.range (tSize P t)).map fun j => vf (off + j)).toArray).getD i Go.undef = vf (off + i) := by simp [hi]
        rw [hv]
        exact (hc _ p (h3 i p hg)).2
  | false =>
    simp only [Bool.false_eq_true, if_false] at h
    exact ⟨_, run_loadVar_cell hagg _ (hc _ pv h).1, (hc _ pv h).2⟩

theorem owned_get (g i : Nat) : ∀ (J : List (Nat × Nat)) (cs : List PV) (j : Nat), (owned g i J cs)[j]? = match Jat J j with
    | some e => if j < cs.length then some (.row (.sub g i j) e) else none
    | none => cs[j]?
  | [], cs, j => rfl
  | (j0, e) :: J, cs, j => by
    have hl : ∀ J, (owned g i J cs).length = cs.length := by
      intro J
      induction J with
      | nil => rfl
      | cons x J ih => obtain ⟨a, b⟩ := x; simp [owned, ih]
    simp only [owned, Jat]
    rw [List.getElem?_set]
    by_cases h : j0 = j
    · subst h
      simp [hl]
    · have hb : Nat.beq j j0 = false := by cases hq : Nat.beq j j0 with | false => rfl | true => exact absurd (Nat.eq_of_beq_eq_true hq).symm h
      rw [if_neg h, owned_get g i J cs j, hb]; rfl
theorem owned_nil (g i : Nat) (cs : List PV) : owned g i [] cs = cs := rfl
theorem rowJ_sub (h : HP) (g i j : Nat) : h.rowJ (.sub g i j) = [] := rfl

/-- The cells of an element of an owned row. -/
theorem elem_cells {h : HP} (objs : ∀ g o, h.get g = some o → HRep P w c g o) {k : Key} {e i : Nat} (he : c.ty k = e) {cs : List PV} (hc : h.elem k i = some cs) :
    cs.length = tSize P e ∧ ∃ vf : Nat → Value, ∀ (j : Nat) q, cs[j]? = some q → w.cell? (⟨c.τ k, i * tSize P e + j, none⟩) = some (vf j) ∧ RV P w c q (vf j) := by
  unfold HP.elem at hc
  cases hr : h.rowAt k with
  | none => rw [hr] at hc; cases hc
  | some es =>
    rw [hr] at hc
    simp only [Option.map_eq_some_iff] at hc
    obtain ⟨l, hl, rfl⟩ := hc
    obtain ⟨e', xs, r⟩ := rowAt_rep objs hr
    obtain rfl : e' = e := r.ty.symm.trans he
    have hlen := r.len l (List.mem_of_getElem? hl)
    have hol : (owned k.tag i (h.rowJ k) l).length = l.length := by
      generalize h.rowJ k = J
      induction J with
      | nil => rfl
      | cons x J ih => obtain ⟨a, b⟩ := x; simp [owned, ih]
    refine ⟨by rw [hol, hlen], fun j => xs.getD (i * tSize P e' + j) undef, fun j q hq => ?_⟩
    have hj : j < l.length := by have := len_of_get hq; rwa [hol] at this
    have hgE : getE es i j = some l[j] := by unfold getE; rw [hl]; simp [hj]
    have hlt := getE_lt r.len hgE
    refine ⟨?_, ?_⟩
    · rcases r.own.2 with ⟨h0, hn⟩ | ⟨g2, cap, cur, h0, hb2, hg2, hnc, rest⟩
      · omega
      · have hob : (c.hd k).ownBlock = some g2 := by rw [h0]; rfl
        obtain ⟨_, hτ⟩ := r.blk g2 hob
        have := own_cells r.own hob (i * tSize P e' + j) (idx_lt hlt.1 hlt.2)
        rw [add_lit, Nat.zero_add] at this
        rw [hτ]; exact this
    · have hcell := r.rep i j _ hgE
      rw [owned_get] at hq
      cases k with
      | top g =>
        simp only [CellRep] at hcell
        cases hJ : Jat (h.rowJ (.top g)) j with
        | none =>
          rw [hJ] at hq hcell
          simp only [List.getElem?_eq_getElem hj, Option.some.injEq] at hq
          subst hq
          exact .free _ _ hcell
        | some e2 =>
          rw [hJ] at hq hcell
          simp only [hj, if_true, Option.some.injEq] at hq
          subst hq
          obtain ⟨h1, es', xs', _, r'⟩ := hcell
          show RV P w c (.row (.sub g i j) e2) (xs.getD (i * tSize P e' + j) undef)
          rw [h1]
          exact .row _ e2 r'.ty r'.hd_one
      | sub g i' j' =>
        rw [rowJ_sub] at hq
        simp only [Jat, List.getElem?_eq_getElem hj, Option.some.injEq] at hq
        subst hq
        exact .free _ _ hcell

theorem pload_ok {t : TypeId} {agg : Bool} (hagg : tAgg P t = some agg) (h : Inv P E S0 N σ a w c) {p pv : PV} {v : Value} (r : RV P w c p v) (hp : pload agg (tSize P t) σ.h p = some pv) :
    ∃ u, (Instr.loadAt t v).run P w = .ok u w ∧ RV P w c pv u := by
  unfold pload at hp
  cases r with
  | free pv v hf =>
    cases hf with
    | vptr cs off ad vf hS hcell hr =>
      simpa [Instr.loadAt, Instr.sureAddr] using load_ok hagg ad vf (fun i q hg => ⟨hcell i q hg, .free _ _ (hr i q hg)⟩) hp
    | _ => simp at hp
  | ptr g off =>
    simp only at hp
    cases hg : σ.h.get g with
    | none => simp [hg] at hp
    | some ob =>
      cases ob with
      | box cs =>
        simp only [hg] at hp
        obtain ⟨h1, vs, T, h2, h3, h4⟩ := h.objs g _ hg
        have he : (⟨c.τ (.top g), off, none⟩ : Addr) = (⟨c.τ (.top g), 0, none⟩ : Addr).add off := by rw [add_lit]; simp
        rw [he]
        simpa [Instr.loadAt, Instr.sureAddr] using load_ok hagg ⟨c.τ (.top g), 0, none⟩ (fun j => vs.getD j undef) (fun i q hq => ⟨by
          rw [add_lit, cell_of_row w (c.τ (.top g)) (0 + i) vs T (0, 0) h2, Nat.zero_add]
          exact getD_lt (by have := len_of_get hq; omega), h4 i q hq⟩) hp
      | _ => simp [hg] at hp
  | rptr k e i off he =>
    simp only at hp
    cases hg : σ.h.elem k i with
    | none => simp [hg] at hp
    | some cs =>
      simp only [hg] at hp
      obtain ⟨_, vf, hcs⟩ := elem_cells h.objs he hg
      have hx : (⟨c.τ k, i * tSize P e + off, none⟩ : Addr) = (⟨c.τ k, i * tSize P e, none⟩ : Addr).add off := (add_lit _ _ _).symm
      rw [hx]
      simpa [Instr.loadAt, Instr.sureAddr] using load_ok hagg ⟨c.τ k, i * tSize P e, none⟩ vf (fun j q hq => ⟨by rw [add_lit]; exact (hcs j q hq).1, (hcs j q hq).2⟩) hp
  | _ => simp at hp
end
end Go.VI
