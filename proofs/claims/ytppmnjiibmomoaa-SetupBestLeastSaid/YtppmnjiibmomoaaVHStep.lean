/- Steps that do not reckon by themselves: indexes, lengths, appends, slices, calls. -/
import Derived.Test.YtppmnjiibmomoaaVHSem
set_option linter.unusedVariables false
set_option linter.unusedSimpArgs false
set_option linter.unusedSectionVars false
namespace Go.VI
open Go.RowKit

/-! ### at an operation -/
/-- the k-th operation, where it is carried out -/
def onAt (ops : Array Oper) (k : Nat) (σ : St) : Option Oper := match opAt ops k with
  | some o => if pguard ops σ o = some true then some o else none
  | none => none
section
variable {G : Prg} {ops : Array Oper} {k : Nat} {σ : St} {α : Type} {c : α → List PV}
theorem onAt_spec {o : Oper} (h : onAt ops k σ = some o) : opAt ops k = some o ∧ pguard ops σ o = some true := by
  unfold onAt at h
  split at h
  · split at h
    · injection h with h; subst h; exact ⟨by assumption, by assumption⟩
    · cases h
  · cases h
theorem step_of {o : Oper} {r : Res} (h : onAt ops k σ = some o) (hc : pcallee σ o.op = none) (hp : peop G.P G.eqn σ (o.dst.getD 0) o.type o.op = some r) : stepAt G ops k σ = some r := by
  obtain ⟨h1, h2⟩ := onAt_spec h
  unfold stepAt
  simp only [h1, h2, hc, hp]

def idxAt (G : Prg) (ops : Array Oper) (k : Nat) (σ : St) : Option (PV × PV × Nat) := match onAt ops k σ with
  | some o => (match o.op with
    | .indexAddr t x ix => (match tElem G.P t with
      | some e => if (G.P.info? e).isSome = true then some (pev σ x, pev σ ix, tSize G.P e) else none
      | none => none)
    | _ => none)
  | none => none
theorem idxAt_spec {b ix : PV} {sz : Nat} (h : idxAt G ops k σ = some (b, ix, sz)) {i : Nat} (hi : pidx ix = some i) {q : PV} (hq : pindexAddr sz σ.h b i = some q) : stepAt G ops k σ = some (.val q) := by
  unfold idxAt at h
  split at h
  case h_2 => cases h
  rename_i o ho
  split at h
  case h_2 => cases h
  rename_i t x ix' hop
  split at h
  case h_2 => cases h
  rename_i e he
  split at h
  case isFalse => cases h
  rename_i hinf
  simp only [Option.some.injEq, Prod.mk.injEq] at h
  obtain ⟨rfl, rfl, rfl⟩ := h
  refine step_of ho (by rw [hop]; rfl) ?_
  rw [hop]
  simp only [peop, he, hi, hinf, if_true, hq, Option.map_some]
theorem pidx_of {kd : IntKind} {i : Int} (h : 0 ≤ i) : pidx (.lit (.int kd i)) = some i.toNat := by simp [pidx, h]
theorem st_idx {l : List α} {i : Int} {kd : IntKind} {sz : Nat} {x : α} (h : idxAt G ops k σ = some (.sl (l.map c), .lit (.int kd i), sz)) (hx : idx l i = some x) (hs : (c x).length = sz) : stepAt G ops k σ = some (.val (.vptr (c x) 0)) := by
  obtain ⟨h0, h1⟩ := idxS hx
  refine idxAt_spec h (pidx_of h0) ?_
  simp only [pindexAddr, List.getElem?_map, h1, Option.map_some, hs, if_true]
theorem st_idxO {l : List α} {i : Int} {kd : IntKind} {kk : Key} {e sz : Nat} {x : α} (h : idxAt G ops k σ = some (.row kk e, .lit (.int kd i), sz)) (hr : σ.h.rowAt kk = some (l.map c)) (hx : idx l i = some x) (hs : (c x).length = sz) : stepAt G ops k σ = some (.val (.rptr kk e i.toNat 0)) := by
  obtain ⟨h0, h1⟩ := idxS hx
  refine idxAt_spec h (pidx_of h0) ?_
  simp only [pindexAddr, hr, List.getElem?_map, h1, Option.map_some, hs, if_true]
theorem st_idxP {l : List α} {i : Int} {kd : IntKind} {kk : Key} {e sz lo n : Nat} {x : α} (h : idxAt G ops k σ = some (.part kk e lo n, .lit (.int kd i), sz)) (hr : σ.h.rowAt kk = some (l.map c)) (hx : idx ((l.drop lo).take n) i = some x) (hs : (c x).length = sz) : stepAt G ops k σ = some (.val (.rptr kk e (lo + i.toNat) 0)) := by
  obtain ⟨h0, h1⟩ := idxS hx
  have hi := (List.getElem?_eq_some_iff.1 h1).1
  simp only [List.length_take] at hi
  rw [List.getElem?_take, if_pos (by omega), List.getElem?_drop] at h1
  refine idxAt_spec h (pidx_of h0) ?_
  simp only [pindexAddr, hr, List.getElem?_map, h1, Option.map_some, hs]
  rw [if_pos ⟨trivial, by omega⟩]

def ldAt (G : Prg) (ops : Array Oper) (k : Nat) (σ : St) : Option (Bool × Nat × PV) := match onAt ops k σ with
  | some o => (match o.op with
    | .load t a => (match tAgg G.P t with
      | some agg => some (agg, tSize G.P t, pev σ a)
      | none => none)
    | _ => none)
  | none => none
theorem ldAt_spec {agg : Bool} {sz : Nat} {p v : PV} (h : ldAt G ops k σ = some (agg, sz, p)) (hv : pload agg sz σ.h p = some v) : stepAt G ops k σ = some (.val v) := by
  unfold ldAt at h
  split at h
  case h_2 => cases h
  rename_i o ho
  split at h
  case h_2 => cases h
  rename_i t a hop
  split at h
  case h_2 => cases h
  rename_i ag he
  simp only [Option.some.injEq, Prod.mk.injEq] at h
  obtain ⟨rfl, rfl, h3⟩ := h
  refine step_of ho (by rw [hop]; rfl) ?_
  rw [hop]
  simp only [peop, he, h3, hv, Option.map_some]
theorem st_ldO {l : List α} {i : Nat} {agg : Bool} {sz e off : Nat} {kk : Key} {J : List (Nat × Nat)} {x : α} {v : PV} (h : ldAt G ops k σ = some (agg, sz, .rptr kk e i off)) (hr : σ.h.rowAt kk = some (l.map c)) (hJ : σ.h.rowJ kk = J) (hx : l[i]? = some x) (hv : pload agg sz [] (.vptr (owned kk.tag i J (c x)) off) = some v) : stepAt G ops k σ = some (.val v) := by
  refine ldAt_spec h ?_
  simp only [pload, HP.elem, hr, List.getElem?_map, hx, hJ, Option.map_some] at hv ⊢
  exact hv

def stAt (G : Prg) (ops : Array Oper) (k : Nat) (σ : St) : Option (Bool × Nat × PV × PV) := match onAt ops k σ with
  | some o => (match o.op with
    | .store t a x => (match tAgg G.P t with
      | some agg => some (agg, tSize G.P t, pev σ a, pev σ x)
      | none => none)
    | _ => none)
  | none => none
def stillB (agg : Bool) (sz off n : Nat) (J : List (Nat × Nat)) (x : PV) : Bool := x.cells.length == sz && x.isAgg == agg && decide (off + sz ≤ n) && x.cells.all PV.still && J.all (fun y => decide (y.1 < off ∨ off + sz ≤ y.1))
theorem stAt_spec {agg : Bool} {sz : Nat} {p v : PV} {r : Res} (h : stAt G ops k σ = some (agg, sz, p, v)) (hv : pstore agg sz σ.h p v = some r) : stepAt G ops k σ = some r := by
  unfold stAt at h
  split at h
  case h_2 => cases h
  rename_i o ho
  split at h
  case h_2 => cases h
  rename_i t a y hop
  split at h
  case h_2 => cases h
  rename_i ag he
  simp only [Option.some.injEq, Prod.mk.injEq] at h
  obtain ⟨rfl, rfl, h3, rfl⟩ := h
  refine step_of ho (by rw [hop]; rfl) ?_
  rw [hop]
  simp only [peop, he, h3, hv]
theorem modify_map {l : List α} {n : Nat} {x x' : α} {off : Nat} {vs : List PV} (h : l[n]? = some x) (hs : setAt (c x) off vs = c x') : setRow (l.map c) n off vs = (l.set n x').map c := by
  unfold setRow
  apply List.ext_getElem?
  intro j
  rw [List.getElem?_modify, List.getElem?_map, List.getElem?_map, List.getElem?_set]
  by_cases e : n = j
  · subst e
    obtain ⟨hl, rfl⟩ := List.getElem?_eq_some_iff.1 h
    simp [hs, hl]
  · simp [e]
/-- a store into an element; o: the object behind it -/
theorem st_stO {l : List α} {i : Nat} {agg : Bool} {sz e off : Nat} {kk : Key} {J : List (Nat × Nat)} {x x' : α} {v : PV} {o : HO} (h : stAt G ops k σ = some (agg, sz, .rptr kk e i off, v)) (hr : σ.h.rowAt kk = some (l.map c)) (hJ : σ.h.rowJ kk = J) (hx : l[i]? = some x) (hv : stillB agg sz off (c x).length J v = true)
    (hs : setAt (c x) off v.cells = c x') (ho : σ.h.rowSet ((l.set i x').map c) kk = some o) : stepAt G ops k σ = some ⟨[], [(kk.tag, o)], .lit undef⟩ := by
  simp only [stillB, Bool.and_eq_true, beq_iff_eq, decide_eq_true_eq] at hv
  obtain ⟨⟨⟨⟨v1, v2⟩, v3⟩, v4⟩, v5⟩ := hv
  refine stAt_spec h ?_
  have hm := modify_map (c := c) hx hs
  have hg : (List.map c l)[i]? = some (c x) := by rw [List.getElem?_map, hx]; rfl
  simp only [pstore, v1, v2, and_self, if_true, hr, hJ, hg]
  rw [if_pos ⟨v3, v4, v5⟩, hm, ho]
theorem st_stB {agg : Bool} {sz g off : Nat} {cs : List PV} {v : PV} (h : stAt G ops k σ = some (agg, sz, .ptr g off, v)) (hg : σ.h.get g = some (.box cs)) (hv : (v.cells.length == sz && v.isAgg == agg && decide (off + sz ≤ cs.length) && v.cells.all PV.cell) = true) : stepAt G ops k σ = some ⟨[], [(g, .box (setAt cs off v.cells))], .lit undef⟩ := by
  simp only [Bool.and_eq_true, beq_iff_eq, decide_eq_true_eq] at hv
  obtain ⟨⟨⟨v1, v2⟩, v3⟩, v4⟩ := hv
  refine stAt_spec h ?_
  simp only [pstore, v1, v2, and_self, if_true, hg]
  rw [if_pos ⟨v3, v4⟩]

def appAt (G : Prg) (ops : Array Oper) (k : Nat) (σ : St) : Option (PV × PV × Nat × Nat × Nat) := match onAt ops k σ with
  | some o => (match o.op with
    | .call c => (match c.callee with
      | .builtin .append => (match c.args.toList, c.argTypes.toList with
        | [a, x], [t, t'] => if t = t' then (match tElem G.P t with
          | some e => if tRow G.P e = true then some (pev σ a, pev σ x, e, tSize G.P e, o.dst.getD 0) else none
          | none => none) else none
        | _, _ => none)
      | _ => none)
    | _ => none)
  | none => none
theorem appAt_spec {a x : PV} {e sz d : Nat} {r : Res} (h : appAt G ops k σ = some (a, x, e, sz, d)) (hp : pappend e sz d σ.h a x = some r) : stepAt G ops k σ = some r := by
  unfold appAt at h
  split at h
  case h_2 => cases h
  rename_i o ho
  split at h
  case h_2 => cases h
  rename_i cl hop
  split at h
  case h_2 => cases h
  rename_i hcal
  split at h
  case h_2 => cases h
  rename_i a' x' t t' hargs hty
  split at h
  case isFalse => cases h
  rename_i ht
  split at h
  case h_2 => cases h
  rename_i e' he
  split at h
  case isFalse => cases h
  rename_i hrow
  simp only [Option.some.injEq, Prod.mk.injEq] at h
  obtain ⟨rfl, rfl, rfl, rfl, rfl⟩ := h
  refine step_of ho (by rw [hop]; simp only [pcallee, hcal]) ?_
  rw [hop]
  simp only [peop, pcallB, hcal, hargs, hty, ht, if_true]
  rw [← ht, he]
  simp only [hrow, if_true]
  exact hp
theorem all_len {l : List α} {sz : Nat} (hs : ∀ y, (c y).length = sz) : (l.map c).all (fun r => r.length == sz) = true := by
  rw [List.all_eq_true]
  intro r hr
  obtain ⟨y, _, rfl⟩ := List.mem_map.1 hr
  simp [hs y]
theorem st_app {l l2 l' : List α} {x : PV} {g e sz d : Nat} (h : appAt G ops k σ = some (.row (.top g) e, x, e, sz, d)) (ha : σ.h.get g = some (.row e [] (l.map c))) (hx : x.elems σ.h = some (l2.map c)) (hf : x.flat σ.h = true) (hs : ∀ y, (c y).length = sz) (hg : Nat.blt g PIN = true) (hl : app l l2 = some l') : stepAt G ops k σ = some ⟨[ofTag g], [(g, .row e [] (l'.map c))], .row (.top g) e⟩ := by
  obtain ⟨h1, rfl⟩ := appS hl
  refine appAt_spec h ?_
  simp only [pappend, hx, all_len hs, hf, and_self, if_true, ha, List.length_map, List.map_append]
  rw [if_pos ⟨trivial, h1, by simpa using hg⟩]
theorem st_appN {l2 l' : List α} {x : PV} {e sz d : Nat} (h : appAt G ops k σ = some (.nl, x, e, sz, d)) (hx : x.elems σ.h = some (l2.map c)) (hf : x.flat σ.h = true) (hs : ∀ y, (c y).length = sz) (hl : app [] l2 = some l') : stepAt G ops k σ = some (.new d (.row e [] (l'.map c)) (.row (.top d) e)) := by
  obtain ⟨h1, rfl⟩ := appS hl
  refine appAt_spec h ?_
  simp only [List.length_nil, Nat.zero_add] at h1
  simp only [pappend, hx, all_len hs, hf, and_self, if_true, List.length_map, List.nil_append]
  rw [if_pos h1]

def lenAt (G : Prg) (ops : Array Oper) (k : Nat) (σ : St) : Option PV := match onAt ops k σ with
  | some o => (match o.op with
    | .call c => (match c.callee with
      | .builtin .len => (match c.args.toList, c.argTypes.toList with
        | [x], [t] => (match G.P.underlying t with
          | some (.slice _) => some (pev σ x)
          | _ => none)
        | _, _ => none)
      | _ => none)
    | _ => none)
  | none => none
theorem st_len {l : List α} {x : PV} (h : lenAt G ops k σ = some x) (hx : x.elems σ.h = some (l.map c)) : stepAt G ops k σ = some (.val (.lit (.int .i64 l.length))) := by
  unfold lenAt at h
  split at h
  case h_2 => cases h
  rename_i o ho
  split at h
  case h_2 => cases h
  rename_i cl hop
  split at h
  case h_2 => cases h
  rename_i hcal
  split at h
  case h_2 => cases h
  rename_i a t hargs hty
  split at h
  case h_2 => cases h
  rename_i e he
  injection h with h
  subst h
  refine step_of ho (by rw [hop]; simp only [pcallee, hcal]) ?_
  rw [hop]
  simp only [peop, pcallB, hcal, hargs, hty, he]
  have : plen σ.h (pev σ a) = some (l.length : Int) := by
    generalize pev σ a = v at hx
    cases v with
    | nl => simp only [PV.elems, Option.some.injEq] at hx; simp only [plen]; have : l = [] := by simpa using hx.symm
            subst this; rfl
    | sl es => simp only [PV.elems, Option.some.injEq] at hx; simp only [plen, hx, List.length_map]
    | row kk e => simp only [plen, hx, Option.map_some, List.length_map]
    | part kk e lo n =>
      simp only [PV.elems] at hx
      split at hx
      · split at hx
        · rename_i es _ hfit
          injection hx with hx
          have := congrArg List.length hx
          simp only [List.length_take, List.length_drop, List.length_map] at this
          simp only [plen]
          congr 1
          omega
        · cases hx
      · cases hx
    | _ => simp [PV.elems] at hx
  rw [this]; rfl

def ooI : Option PV → Option (Option Int)
  | none => some none
  | some (.lit (.int _ i)) => some (some i)
  | _ => none
def slAt (G : Prg) (ops : Array Oper) (k : Nat) (σ : St) : Option (PV × Nat × Option PV × Option PV) := match onAt ops k σ with
  | some o => (match o.op with
    | .slice t x lo hi none => (match tElem G.P t with
      | some e => if (G.P.info? e).isSome = true then some (pev σ x, tSize G.P e, lo.map (pev σ), hi.map (pev σ)) else none
      | none => none)
    | _ => none)
  | none => none
def optN : Option Int → Option (Option Nat)
  | none => some none
  | some i => if 0 ≤ i then some (some i.toNat) else none
def loN : Option PV → Option Nat
  | none => some 0
  | some v => pidx v
def hiN (n : Nat) : Option PV → Option Nat
  | none => some n
  | some v => pidx v
def hiO : Option PV → Option (Option Nat)
  | none => some none
  | some v => (pidx v).map some
theorem slAt_spec {b : PV} {sz : Nat} {lo hi : Option PV} (h : slAt G ops k σ = some (b, sz, lo, hi)) {l0 : Nat} {h0 : Option Nat} (hlo : loN lo = some l0) (hhi : hiO hi = some h0) {r : PV} (hp : pslice (tSize G.P) sz σ.h b l0 h0 = some r) : stepAt G ops k σ = some (.val r) := by
  unfold slAt at h
  split at h
  case h_2 => cases h
  rename_i o ho
  split at h
  case h_2 => cases h
  rename_i t x lo' hi' hop
  split at h
  case h_2 => cases h
  rename_i e he
  split at h
  case isFalse => cases h
  rename_i hinf
  simp only [Option.some.injEq, Prod.mk.injEq] at h
  obtain ⟨rfl, rfl, rfl, rfl⟩ := h
  refine step_of ho (by rw [hop]; rfl) ?_
  rw [hop]
  have q1 : poptL σ lo' = some l0 := by cases lo' <;> simpa [poptL, loN] using hlo
  have q2 : poptH σ hi' = some h0 := by cases hi' <;> simpa [poptH, hiO] using hhi
  simp only [peop, he, hinf, if_true, q1, q2, hp, Option.map_some]
/-- l[lo:hi] of what is read alone -/
theorem st_sl {l l' : List α} {sz : Nat} {k1 k2 : IntKind} {lo hi : Int} (h : slAt G ops k σ = some (.sl (l.map c), sz, some (.lit (.int k1 lo)), some (.lit (.int k2 hi)))) (hs : ∀ y, (c y).length = sz) (hl : slc l lo hi = some l') : stepAt G ops k σ = some (.val (.sl (l'.map c))) := by
  obtain ⟨⟨h1, h2, h3⟩, rfl⟩ := slcS hl
  refine slAt_spec h (l0 := lo.toNat) (by simp only [loN, pidx_of h1]) (h0 := some hi.toNat) (by simp only [hiO, pidx_of (show 0 ≤ hi by omega), Option.map_some]) ?_
  simp only [pslice, Option.getD_some, List.length_map]
  rw [if_pos ⟨by omega, by omega, by rw [all_len hs]; simp⟩, List.map_drop, List.map_take]
theorem st_slL {l l' : List α} {sz : Nat} {k1 : IntKind} {lo : Int} (h : slAt G ops k σ = some (.sl (l.map c), sz, some (.lit (.int k1 lo)), none)) (hs : ∀ y, (c y).length = sz) (hl : slc l lo l.length = some l') : stepAt G ops k σ = some (.val (.sl (l'.map c))) := by
  obtain ⟨⟨h1, h2, h3⟩, rfl⟩ := slcS hl
  refine slAt_spec h (l0 := lo.toNat) (by simp only [loN, pidx_of h1]) (h0 := none) rfl ?_
  simp only [pslice, Option.getD_none, List.length_map]
  rw [if_pos ⟨by omega, Nat.le_refl _, by rw [all_len hs]; simp⟩]
  simp only [Int.toNat_natCast, List.take_length, List.map_drop]
  rw [List.take_of_length_le (by simp)]
theorem st_slH {l l' : List α} {sz : Nat} {k2 : IntKind} {hi : Int} (h : slAt G ops k σ = some (.sl (l.map c), sz, none, some (.lit (.int k2 hi)))) (hl : slc l 0 hi = some l') : stepAt G ops k σ = some (.val (.sl (l'.map c))) := by
  obtain ⟨⟨h1, h2, h3⟩, rfl⟩ := slcS hl
  refine slAt_spec h (l0 := 0) rfl (h0 := some hi.toNat) (by simp only [hiO, pidx_of h2, Option.map_some]) ?_
  simp only [pslice, Option.getD_some, List.length_map]
  rw [if_pos ⟨by omega, by omega, by simp⟩]
  simp [List.map_take]
/-- a run of an own row's elements -/
theorem st_slR {l : List α} {kk : Key} {e sz : Nat} {lo hi : Option PV} {l0 h0 : Nat} (h : slAt G ops k σ = some (.row kk e, sz, lo, hi)) (hr : σ.h.rowAt kk = some (l.map c)) (hs : ∀ y, (c y).length = sz) (hlo : loN lo = some l0) (hhi : hiN l.length hi = some h0) (hle : l0 ≤ h0 ∧ h0 ≤ l.length) : stepAt G ops k σ = some (.val (.part kk e l0 (h0 - l0))) := by
  cases hi with
  | none =>
    simp only [hiN, Option.some.injEq] at hhi
    subst hhi
    refine slAt_spec h hlo (h0 := none) rfl ?_
    simp only [pslice, hr, Option.getD_none, List.length_map]
    rw [if_pos ⟨hle.1, Nat.le_refl _, all_len hs⟩]
  | some v =>
    refine slAt_spec h hlo (h0 := some h0) (by simp only [hiN] at hhi; simp only [hiO, hhi, Option.map_some]) ?_
    simp only [pslice, hr, Option.getD_some, List.length_map]
    rw [if_pos ⟨hle.1, hle.2, all_len hs⟩]

def mkAt (G : Prg) (ops : Array Oper) (k : Nat) (σ : St) : Option (Nat × List PV × PV × PV × Nat) := match onAt ops k σ with
  | some o => (match o.op with
    | .makeSlice t l h => (match tElem G.P t with
      | some e => (match tZero G.P e with
        | some z => if tRow G.P e = true ∧ (z.cells.toList.all Value.oneCell') = true then some (e, z.cells.toList.map ofE, pev σ l, pev σ h, o.dst.getD 0) else none
        | none => none)
      | none => none)
    | _ => none)
  | none => none
theorem st_mk {z : α} {l' : List α} {e d : Nat} {zs : List PV} {k1 k2 : IntKind} {n : Int} (h : mkAt G ops k σ = some (e, zs, .lit (.int k1 n), .lit (.int k2 n), d)) (hz : zs = c z) (hl : mk n z = some l') : stepAt G ops k σ = some (.new d (.row e [] (l'.map c)) (.row (.top d) e)) := by
  unfold mk at hl
  split at hl
  case isFalse => cases hl
  rename_i hn
  injection hl with hl
  subst hl
  subst hz
  unfold mkAt at h
  split at h
  case h_2 => cases h
  rename_i o ho
  split at h
  case h_2 => cases h
  rename_i t x hi' hop
  split at h
  case h_2 => cases h
  rename_i e' he
  split at h
  case h_2 => cases h
  rename_i z' hz
  split at h
  case isFalse => cases h
  rename_i hrow
  simp only [Option.some.injEq, Prod.mk.injEq] at h
  obtain ⟨rfl, h1, h2, h3, rfl⟩ := h
  refine step_of ho (by rw [hop]; rfl) ?_
  rw [hop]
  have hL : n.toNat ≤ LIM := by have := hn.2; omega
  simp only [peop, he, h2, h3, pidx_of hn.1, hz]
  rw [if_pos ⟨hrow.1, Nat.le_refl _, hL, hrow.2⟩, h1, List.map_replicate]

def binAt (G : Prg) (ops : Array Oper) (k : Nat) (σ : St) : Option (BinOp × PV × PV) := match onAt ops k σ with
  | some o => (match o.op with
    | .binOp op _ x y _ => some (op, pev σ x, pev σ y)
    | _ => none)
  | none => none
theorem binAt_spec {op : BinOp} {kd k2 : IntKind} {u v : Int} {q : PV} (h : binAt G ops k σ = some (op, .lit (.int kd u), .lit (.int k2 v))) (hq : pbin op (.lit (.int kd u)) (.lit (.int k2 v)) = some q) : stepAt G ops k σ = some (.val q) := by
  unfold binAt at h
  split at h
  case h_2 => cases h
  rename_i o ho
  split at h
  case h_2 => cases h
  rename_i op' t x y t' hop
  simp only [Option.some.injEq, Prod.mk.injEq] at h
  obtain ⟨rfl, h1, h2⟩ := h
  refine step_of ho (by rw [hop]; rfl) ?_
  rw [hop]
  simp only [peop, h1, h2, pbin2, hq, Option.map_some]
theorem st_quo {kd : IntKind} {a b : Int} (h : binAt G ops k σ = some (.quo, .lit (.int kd a), .lit (.int kd b))) (hb : b ≠ 0) : stepAt G ops k σ = some (.val (.lit (.int kd (kd.wrap (a.tdiv b))))) := binAt_spec h (by simp [pbin, hb])
theorem st_rem {kd : IntKind} {a b : Int} (h : binAt G ops k σ = some (.rem, .lit (.int kd a), .lit (.int kd b))) (hb : b ≠ 0) : stepAt G ops k σ = some (.val (.lit (.int kd (a.tmod b)))) := binAt_spec h (by simp [pbin, hb])
theorem st_shl {kd k2 : IntKind} {a b : Int} (h : binAt G ops k σ = some (.shl, .lit (.int kd a), .lit (.int k2 b))) (hb : 0 ≤ b) : stepAt G ops k σ = some (.val (.lit (.int kd (kd.wrap (a * 2 ^ (min b.toNat kd.bits)))))) := binAt_spec h (by simp [pbin, hb])
theorem st_shr {kd k2 : IntKind} {a b : Int} (h : binAt G ops k σ = some (.shr, .lit (.int kd a), .lit (.int k2 b))) (hb : 0 ≤ b) : stepAt G ops k σ = some (.val (.lit (.int kd (a.fdiv (2 ^ (min b.toNat kd.bits)))))) := binAt_spec h (by simp [pbin, hb])

/-! ### arrays -/
def aixAt (G : Prg) (ops : Array Oper) (k : Nat) (σ : St) : Option (Nat × Nat × Bool × PV × PV) := match onAt ops k σ with
  | some o => (match o.op with
    | .index t x ix => (match tArr G.P t with
      | some (n, e) => (match tAgg G.P e with
        | some b => some (n, tSize G.P e, b, pev σ x, pev σ ix)
        | none => none)
      | none => none)
    | _ => none)
  | none => none
theorem flat_range {l : List α} {sz n : Nat} {x : α} (hs : ∀ y, (c y).length = sz) (h : l[n]? = some x) : (((l.flatMap c).drop (n * sz)).take sz = c x) ∧ n * sz + sz ≤ (l.flatMap c).length := by
  induction l generalizing n with
  | nil => simp at h
  | cons y l ih =>
    cases n with
    | zero =>
      simp at h; subst h
      simp only [List.flatMap_cons, Nat.zero_mul, List.drop_zero, Nat.zero_add, List.length_append, hs]
      exact ⟨by rw [List.take_append_of_le_length (by rw [hs]; exact Nat.le_refl _), List.take_of_length_le (by rw [hs]; exact Nat.le_refl _)], by omega⟩
    | succ n =>
      have := ih (by simpa using h)
      simp only [List.flatMap_cons, List.length_append, hs]
      refine ⟨?_, by rw [Nat.add_mul]; omega⟩
      rw [show (n + 1) * sz = (c y).length + n * sz from by rw [hs, Nat.add_mul]; omega, List.drop_append]
      simp only [Nat.add_sub_cancel_left]
      rw [List.drop_of_length_le (by omega), List.nil_append]
      exact this.1
theorem getElem?_of_range {cs : List PV} {a : Nat} {v : PV} (h : (cs.drop a).take 1 = [v]) : cs[a]? = some v := by
  have := congrArg (fun l => l[0]?) h
  simpa [List.getElem?_take, List.getElem?_drop] using this
theorem st_aix {l : List α} {n sz : Nat} {kd : IntKind} {i : Int} {cs : List PV} {x : α} (h : aixAt G ops k σ = some (n, sz, true, .agg cs, .lit (.int kd i))) (hc : cs = l.flatMap c) (hn : l.length = n) (hx : idx l i = some x) (hs : ∀ y, (c y).length = sz) : stepAt G ops k σ = some (.val (.agg (c x))) := by
  obtain ⟨h0, h1⟩ := idxS hx
  unfold aixAt at h
  split at h
  case h_2 => cases h
  rename_i o ho
  split at h
  case h_2 => cases h
  rename_i t y z hop
  split at h
  case h_2 => cases h
  rename_i n' e he
  split at h
  case h_2 => cases h
  rename_i b hb
  simp only [Option.some.injEq, Prod.mk.injEq] at h
  obtain ⟨rfl, rfl, rfl, h4, h5⟩ := h
  refine step_of ho (by rw [hop]; rfl) ?_
  obtain ⟨q1, q2⟩ := flat_range hs h1
  have hlt : i.toNat < n' := by rw [← hn]; exact (List.getElem?_eq_some_iff.1 h1).1
  rw [hop]
  simp only [peop, he, h5, pidx_of h0, h4, hb, hlt, if_true, range?]
  rw [hc, if_pos q2, q1]; rfl
theorem st_aix0 {l : List α} {n : Nat} {kd : IntKind} {i : Int} {cs : List PV} {x : α} {v : PV} (h : aixAt G ops k σ = some (n, 1, false, .agg cs, .lit (.int kd i))) (hc : cs = l.flatMap c) (hn : l.length = n) (hx : idx l i = some x) (hs : ∀ y, (c y).length = 1) (hv : c x = [v]) : stepAt G ops k σ = some (.val v) := by
  obtain ⟨h0, h1⟩ := idxS hx
  unfold aixAt at h
  split at h
  case h_2 => cases h
  rename_i o ho
  split at h
  case h_2 => cases h
  rename_i t y z hop
  split at h
  case h_2 => cases h
  rename_i n' e he
  split at h
  case h_2 => cases h
  rename_i b hb
  simp only [Option.some.injEq, Prod.mk.injEq] at h
  obtain ⟨rfl, h2, rfl, h4, h5⟩ := h
  refine step_of ho (by rw [hop]; rfl) ?_
  obtain ⟨q1, q2⟩ := flat_range hs h1
  have hlt : i.toNat < n' := by rw [← hn]; exact (List.getElem?_eq_some_iff.1 h1).1
  rw [hop]
  simp only [peop, he, h5, pidx_of h0, h4, hb, hlt, if_true, h2]
  rw [hv] at q1
  rw [hc, getElem?_of_range q1]; rfl
/-- a pointer into an array -/
def paxAt (G : Prg) (ops : Array Oper) (k : Nat) (σ : St) : Option (Nat × Nat × PV × PV) := match onAt ops k σ with
  | some o => (match o.op with
    | .indexAddr t x ix => (match tElem G.P t, tArr G.P t with
      | none, some (n, e) => if (G.P.info? e).isSome = true then some (n, tSize G.P e, pev σ x, pev σ ix) else none
      | _, _ => none)
    | _ => none)
  | none => none
theorem st_pax {n sz : Nat} {kd : IntKind} {i : Int} {p q : PV} (h : paxAt G ops k σ = some (n, sz, p, .lit (.int kd i))) (h0 : 0 ≤ i) (hi : i < n) (hq : padd (i.toNat * sz) p = some q) : stepAt G ops k σ = some (.val q) := by
  unfold paxAt at h
  split at h
  case h_2 => cases h
  rename_i o ho
  split at h
  case h_2 => cases h
  rename_i t y z hop
  split at h
  case h_2 => cases h
  rename_i n' e he1 he2
  split at h
  case isFalse => cases h
  rename_i hinf
  simp only [Option.some.injEq, Prod.mk.injEq] at h
  obtain ⟨rfl, rfl, rfl, h5⟩ := h
  refine step_of ho (by rw [hop]; rfl) ?_
  rw [hop]
  simp only [peop, he1, he2, h5, pidx_of h0]
  rw [if_pos ⟨by omega, hinf⟩, hq]; rfl
/-- an element of an array, out of its variable -/
theorem st_pld {l : List α} {i : Int} {agg : Bool} {sz g esz fo : Nat} {cs : List PV} {x : α} {v : PV} (h : ldAt G ops k σ = some (agg, sz,   .ptr g (0 + i.toNat * esz + fo))) (hg : σ.h.get g = some (.box cs)) (hc : cs = l.flatMap c) (hx : idx l i = some x) (hs : ∀ y, (c y).length = esz) (hv : pload agg sz [] (.vptr (c x) fo) = some v) : stepAt G ops k σ = some (.val v) := by
  obtain ⟨h0, h1⟩ := idxS hx
  refine ldAt_spec h ?_
  obtain ⟨q1, q2⟩ := flat_range hs h1
  simp only [pload, hg] at hv ⊢
  have key : ∀ m, fo + m ≤ esz → ((cs.drop (0 + i.toNat * esz + fo)).take m) = ((c x).drop fo).take m := by
    intro m hm
    rw [hc, ← q1, List.drop_take, List.take_take, List.drop_drop, Nat.zero_add, Nat.min_eq_left (by omega)]
  cases agg with
  | true =>
    simp only [if_true] at hv ⊢
    unfold range? at hv ⊢
    rw [hs] at hv
    split at hv
    case isFalse => cases hv
    rename_i hh
    rw [if_pos (by rw [hc]; omega), key _ hh]
    exact hv
  | false =>
    simp only [Bool.false_eq_true, if_false] at hv ⊢
    have hlt : fo < esz := by
      have := (List.getElem?_eq_some_iff.1 hv).1
      rw [hs] at this; exact this
    have h4 : ((c x).drop fo).take 1 = [v] := by
      rw [List.take_one, List.head?_drop, hv]; rfl
    have := key 1 (by omega)
    rw [h4] at this
    exact getElem?_of_range this

theorem st_pld0 {l : List α} {i : Int} {agg : Bool} {sz g esz : Nat} {cs : List PV} {x : α} {v : PV} (h : ldAt G ops k σ = some (agg, sz, .ptr g (0 + i.toNat * esz))) (hg : σ.h.get g = some (.box cs)) (hc : cs = l.flatMap c) (hx : idx l i = some x) (hs : ∀ y, (c y).length = esz) (hv : pload agg sz [] (.vptr (c x) 0) = some v) : stepAt G ops k σ = some (.val v) :=
  st_pld (fo := 0) (by rw [Nat.add_zero]; exact h) hg hc hx hs hv

end
end Go.VI
