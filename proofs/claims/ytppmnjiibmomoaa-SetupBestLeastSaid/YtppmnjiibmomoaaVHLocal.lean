/- What an operation reads: its operands and the objects that they lead to. -/
import Derived.Test.YtppmnjiibmomoaaVHStep
set_option linter.unusedVariables false
set_option linter.unusedSimpArgs false
set_option linter.unusedSectionVars false
namespace Go.VI
open Go.RowKit

/-- v leads to none of the objects T -/
def Avoid (T : List Nat) (v : PV) : Bool := T.all fun g => !v.has (ofTag g)
def HAg (T : List Nat) (h h' : HP) : Prop := ∀ g, g ∉ T → h.get g = h'.get g
theorem avoid_tag {T : List Nat} {k : Key} (h : (T.all fun g => !(ofTag g k)) = true) : k.tag ∉ T := fun hm => by
  have := List.all_eq_true.1 h _ hm
  simp [ofTag] at this
theorem avoid_free {T : List Nat} {v : PV} (h : v.free = true) : Avoid T v = true := List.all_eq_true.2 fun g _ => by rw [has_free _ _ h]; rfl

section
variable {T : List Nat} {h h' : HP} (e : HAg T h h')
include e
theorem rowAt_ag {k : Key} (hk : k.tag ∉ T) : h.rowAt k = h'.rowAt k := by
  cases k with
  | top g => simp only [HP.rowAt, e g hk]
  | sub g i j => simp only [HP.rowAt, e g hk]
theorem rowJ_ag {k : Key} (hk : k.tag ∉ T) : h.rowJ k = h'.rowJ k := by
  cases k with
  | top g => simp only [HP.rowJ, e g hk]
  | sub g i j => rfl
theorem rowSet_ag {k : Key} (hk : k.tag ∉ T) (es : List (List PV)) : h.rowSet es k = h'.rowSet es k := by
  cases k with
  | top g => simp only [HP.rowSet, e g hk]
  | sub g i j => simp only [HP.rowSet, e g hk]
theorem elem_ag {k : Key} (hk : k.tag ∉ T) (i : Nat) : h.elem k i = h'.elem k i := by
  simp only [HP.elem, rowAt_ag e hk, rowJ_ag e hk]
theorem elems_ag {v : PV} (hv : Avoid T v = true) : v.elems h = v.elems h' := by
  cases v with
  | row k t => simp only [PV.elems]; exact rowAt_ag e (avoid_tag hv)
  | part k t lo n => simp only [PV.elems, rowAt_ag e (avoid_tag (k := k) hv)]
  | _ => rfl
theorem flat_ag {v : PV} (hv : Avoid T v = true) : v.flat h = v.flat h' := by
  cases v with
  | row k t => simp only [PV.flat, rowJ_ag e (avoid_tag (k := k) hv)]
  | part k t lo n => simp only [PV.flat, rowJ_ag e (avoid_tag (k := k) hv)]
  | _ => rfl
theorem pload_ag {agg : Bool} {sz : Nat} {v : PV} (hv : Avoid T v = true) : pload agg sz h v = pload agg sz h' v := by
  cases v with
  | ptr g off => simp only [pload, e g (avoid_tag (k := .top g) hv)]
  | rptr k t i off => simp only [pload, elem_ag e (avoid_tag (k := k) hv)]
  | _ => rfl
theorem pstore_ag {agg : Bool} {sz : Nat} {v x : PV} (hv : Avoid T v = true) : pstore agg sz h v x = pstore agg sz h' v x := by
  cases v with
  | ptr g off => simp only [pstore, e g (avoid_tag (k := .top g) hv)]
  | rptr k t i off => simp only [pstore, rowAt_ag e (avoid_tag (k := k) hv), rowJ_ag e (avoid_tag (k := k) hv), rowSet_ag e (avoid_tag (k := k) hv)]
  | _ => rfl
theorem pindexAddr_ag {sz : Nat} {v : PV} (hv : Avoid T v = true) (i : Nat) : pindexAddr sz h v i = pindexAddr sz h' v i := by
  cases v with
  | row k t => simp only [pindexAddr, rowAt_ag e (avoid_tag (k := k) hv)]
  | part k t lo n => simp only [pindexAddr, rowAt_ag e (avoid_tag (k := k) hv)]
  | _ => rfl
theorem pslice_ag {esz : Nat → Nat} {sz : Nat} {v : PV} (hv : Avoid T v = true) (lo : Nat) (hi : Option Nat) : pslice esz sz h v lo hi = pslice esz sz h' v lo hi := by
  cases v with
  | row k t => simp only [pslice, rowAt_ag e (avoid_tag (k := k) hv)]
  | _ => rfl
theorem pappend_ag {t sz d : Nat} {s x : PV} (hs : Avoid T s = true) (hx : Avoid T x = true) : pappend t sz d h s x = pappend t sz d h' s x := by
  simp only [pappend, elems_ag e hx, flat_ag e hx]
  cases s with
  | row k u =>
    cases k with
    | top g => simp only [e g (avoid_tag (k := .top g) hs)]
    | sub => rfl
  | _ => rfl
theorem entries_ag {v : PV} (hv : Avoid T v = true) : v.entries h = v.entries h' := by
  cases v with
  | mp g => simp only [PV.entries, e g (avoid_tag (k := .top g) hv)]
  | _ => rfl
theorem plen_ag {v : PV} (hv : Avoid T v = true) : plen h v = plen h' v := by
  cases v with
  | row k t => simp only [plen, elems_ag e hv]
  | _ => rfl
end

theorem mapM_pev {σ τ : St} {l : List Operand} (h : ∀ x ∈ l, pev σ x = pev τ x) : l.map (pev σ) = l.map (pev τ) := List.map_congr_left h

/-- An operation does alike where its operands and what they lead to are alike. -/
theorem peop_congr (P : Program) (eqn : TypeId → Nat) {σ τ : St} {T : List Nat} (e : HAg T σ.h τ.h) (d : Nat) (ty : TypeId) (op : Op) (h : ∀ x ∈ op.operands.toList, pev σ x = pev τ x) (ha : ∀ x ∈ op.operands.toList, Avoid T (pev τ x) = true) : peop P eqn σ d ty op = peop P eqn τ d ty op := by
  cases op with
  | move x => simp only [peop]; rw [h x (by simp [Op.operands])]
  | nilCheck x => simp only [peop]; rw [h x (by simp [Op.operands])]
  | assign x => simp only [peop]; rw [h x (by simp [Op.operands])]
  | pick c a b => simp only [peop]; rw [h c (by simp [Op.operands]), h a (by simp [Op.operands]), h b (by simp [Op.operands])]
  | box e x => simp only [peop]; rw [h x (by simp [Op.operands])]
  | build t parts =>
    have e : (parts.toList.map fun p => (p.1, pev σ p.2)) = parts.toList.map fun p => (p.1, pev τ p.2) :=
      List.map_congr_left fun p hp => by rw [h p.2 (by simp only [Op.operands]; simp; exact ⟨p.1, by simpa using hp⟩)]
    simp only [peop, e]
  | buildSlice t n parts =>
    have e0 : ∀ p ∈ parts.toList, pev σ p.2 = pev τ p.2 := fun p hp => h p.2 (by simp only [Op.operands]; simp; exact ⟨p.1, by simpa using hp⟩)
    have e1 : (parts.toList.map fun p => (pev σ p.2).cells) = parts.toList.map fun p => (pev τ p.2).cells := List.map_congr_left fun p hp => by rw [e0 p hp]
    have e2 : ∀ e, (parts.toList.all fun p => (pev σ p.2).cells.length == tSize P e && (pev σ p.2).cells.all PV.still) = (parts.toList.all fun p => (pev τ p.2).cells.length == tSize P e && (pev τ p.2).cells.all PV.still) := by
      intro e
      rw [Bool.eq_iff_iff, List.all_eq_true, List.all_eq_true]
      exact ⟨fun q p hp => by rw [← e0 p hp]; exact q p hp, fun q p hp => by rw [e0 p hp]; exact q p hp⟩
    simp only [peop, e1, e2]
  | load t x => simp only [peop]; rw [h x (by simp [Op.operands])]; simp only [pload_ag e (ha x (by simp [Op.operands]))]
  | store t a x => simp only [peop]; rw [h a (by simp [Op.operands]), h x (by simp [Op.operands])]; simp only [pstore_ag e (ha a (by simp [Op.operands]))]
  | binOp op t x y t' => simp only [peop]; rw [h x (by simp [Op.operands]), h y (by simp [Op.operands])]
  | unOp op t x => simp only [peop]; rw [h x (by simp [Op.operands])]
  | convert s t x => simp only [peop]; rw [h x (by simp [Op.operands])]
  | makeFunc f first caps =>
    have e : caps.toList.map (pev σ) = caps.toList.map (pev τ) := mapM_pev fun x hx => h x (by simp only [Op.operands]; simp; exact .inr (by simpa using hx))
    cases f <;> simp only [peop, e]
  | makeSlice t l m => simp only [peop]; rw [h l (by simp [Op.operands]), h m (by simp [Op.operands])]
  | slice t x lo hi mx =>
    cases mx with
    | some m => simp [peop]
    | none =>
      have e1 : poptL σ lo = poptL τ lo := by
        cases lo with
        | none => rfl
        | some y => simp only [poptL]; rw [h y (by simp [Op.operands])]
      have e2 : poptH σ hi = poptH τ hi := by
        cases hi with
        | none => rfl
        | some y => simp only [poptH]; rw [h y (by simp [Op.operands])]
      simp only [peop, e1, e2]
      rw [h x (by simp [Op.operands])]
      simp only [pslice_ag e (ha x (by simp [Op.operands]))]
  | fieldAddr s x f => simp only [peop]; rw [h x (by simp [Op.operands])]
  | field s x f => simp only [peop]; rw [h x (by simp [Op.operands])]
  | indexAddr t x i => simp only [peop]; rw [h x (by simp [Op.operands]), h i (by simp [Op.operands])]; simp only [pindexAddr_ag e (ha x (by simp [Op.operands]))]
  | index t x i => simp only [peop]; rw [h x (by simp [Op.operands]), h i (by simp [Op.operands])]
  | extract x i => simp only [peop]; rw [h x (by simp [Op.operands])]
  | makeMap t r => cases r <;> simp only [peop]
  | lookup t x k ok => simp only [peop]; rw [h x (by simp [Op.operands]), h k (by simp [Op.operands])]; simp only [entries_ag e (ha x (by simp [Op.operands]))]
  | mapUpdate t x k v =>
    simp only [peop]; rw [h x (by simp [Op.operands]), h k (by simp [Op.operands]), h v (by simp [Op.operands])]
    have hx := ha x (by simp [Op.operands])
    generalize pev τ x = X at hx
    cases X with
    | mp g =>
      cases (pev τ k).int64 with
      | none => rfl
      | some a => cases (pev τ v).int64 with
        | none => rfl
        | some b => simp only [e g (avoid_tag (k := .top g) hx)]
    | _ => rfl
  | insert t x k v =>
    simp only [peop]; rw [h x (by simp [Op.operands]), h k (by simp [Op.operands]), h v (by simp [Op.operands])]
    have hx := ha x (by simp [Op.operands])
    generalize pev τ x = X at hx
    cases X with
    | mp g =>
      cases (pev τ k).int64 with
      | none => rfl
      | some a => cases (pev τ v).int64 with
        | none => rfl
        | some b => simp only [e g (avoid_tag (k := .top g) hx)]
    | _ => rfl
  | call c =>
    obtain ⟨cal, args, at_⟩ := c
    have ee : ∀ x ∈ args.toList, pev σ x = pev τ x := fun x hx => h x (by simp only [Op.operands, Call.operands]; simp; exact .inr (by simpa using hx))
    have aa : ∀ x ∈ args.toList, Avoid T (pev τ x) = true := fun x hx => ha x (by simp only [Op.operands, Call.operands]; simp; exact .inr (by simpa using hx))
    simp only [peop, pcallB]
    cases cal with
    | builtin b =>
      have em : args.toList.map (pev σ) = args.toList.map (pev τ) := mapM_pev ee
      cases b <;> simp only [em]
      all_goals
        split
        · rename_i hx _
          rw [hx] at ee aa
          simp only [List.mem_cons, List.not_mem_nil, or_false, forall_eq_or_imp, forall_eq] at ee aa
          first
          | simp only [ee, plen_ag e aa]
          | simp only [ee, pappend_ag e aa.1 aa.2]
        · rfl
    | _ => rfl
  | _ => simp [peop]

theorem pcallee_congr {σ τ : St} {op : Op} (h : ∀ x ∈ op.operands.toList, pev σ x = pev τ x) : pcallee σ op = pcallee τ op := by
  cases op with
  | call c =>
    obtain ⟨cal, args, at_⟩ := c
    simp only [pcallee]
    cases cal with
    | value f =>
      have e1 : pev σ f = pev τ f := h f (by simp [Op.operands, Call.operands])
      have e : args.toList.map (pev σ) = args.toList.map (pev τ) := mapM_pev fun x hx => h x (by simp only [Op.operands, Call.operands]; simp; exact .inr (by simpa using hx))
      simp only [e1, e]
    | _ => rfl
  | _ => rfl
end Go.VI
