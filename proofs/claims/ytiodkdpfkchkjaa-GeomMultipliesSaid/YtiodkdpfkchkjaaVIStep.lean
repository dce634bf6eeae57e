/- Steps that do not reckon by themselves: indexes, lengths, appends, slices, calls; and the plain words for them. -/
import Derived.Test.YtiodkdpfkchkjaaVISem
set_option linter.unusedVariables false
set_option linter.unusedSimpArgs false
set_option linter.unusedSectionVars false
namespace Go.VI
open Go.RowKit

/-! ### plain words -/
def idx {α : Type} (l : List α) (i : Int) : Option α := if 0 ≤ i then l[i.toNat]? else none
def app {α : Type} (l xs : List α) : Option (List α) := if l.length + xs.length ≤ LIM then some (l ++ xs) else none
def slc {α : Type} (l : List α) (lo hi : Int) : Option (List α) := if 0 ≤ lo ∧ lo ≤ hi ∧ hi ≤ l.length then some ((l.take hi.toNat).drop lo.toNat) else none
def put1 {α : Type} (l : List α) (i : Int) (x : α) : List α := l.set i.toNat x
def mk {α : Type} (n : Int) (z : α) : Option (List α) := if 0 ≤ n ∧ n ≤ LIM then some (List.replicate n.toNat z) else none
def chk (b : Bool) : Option Unit := if b then some () else none
def iadd (a b : Int) : Int := IntKind.wrap .i64 (a + b)
def isub (a b : Int) : Int := IntKind.wrap .i64 (a - b)
def imul (a b : Int) : Int := IntKind.wrap .i64 (a * b)
def ineg (a : Int) : Int := IntKind.wrap .i64 (0 - a)
def iquo (a b : Int) : Int := IntKind.wrap .i64 (a.tdiv b)

theorem bindS {α β : Type} {o : Option α} {k : α → Option β} {r : β} (h : o.bind k = some r) : ∃ x, o = some x ∧ k x = some r := Option.bind_eq_some_iff.1 h
theorem iteT {α : Type} {b : Bool} {x y : Option α} {r : α} (hb : b = true) (h : (if b then x else y) = some r) : x = some r := by rw [if_pos hb] at h; exact h
theorem iteF {α : Type} {b : Bool} {x y : Option α} {r : α} (hb : b = false) (h : (if b then x else y) = some r) : y = some r := by rw [if_neg (by simp [hb])] at h; exact h
theorem chkS {b : Bool} {u : Unit} (h : chk b = some u) : b = true := by unfold chk at h; split at h; assumption; cases h

theorem idxS {α : Type} {l : List α} {i : Int} {x : α} (h : idx l i = some x) : 0 ≤ i ∧ l[i.toNat]? = some x := by
  unfold idx at h; split at h
  · exact ⟨by assumption, h⟩
  · cases h
theorem appS {α : Type} {l xs l' : List α} (h : app l xs = some l') : l.length + xs.length ≤ LIM ∧ l' = l ++ xs := by
  unfold app at h; split at h
  · injection h with h; exact ⟨by assumption, h.symm⟩
  · cases h
theorem slcS {α : Type} {l l' : List α} {lo hi : Int} (h : slc l lo hi = some l') : (0 ≤ lo ∧ lo ≤ hi ∧ hi ≤ l.length) ∧ l' = (l.take hi.toNat).drop lo.toNat := by
  unfold slc at h; split at h
  · injection h with h; exact ⟨by assumption, h.symm⟩
  · cases h

/-! ### at an operation -/
/-- the k-th operation, where it is carried out -/
def onAt (ops : Array Oper) (k : Nat) (σ : St) : Option Oper := match opAt ops k with
  | some o => if pguard ops σ o = some true then some o else none
  | none => none
section
variable {G : Prg} {ops : Array Oper} {k : Nat} {σ : St} {α : Type} {c : α → List PV}
theorem onAt_spec {o : Oper} (h : onAt ops k σ = some o) : opAt ops k = some o ∧ pguard ops σ o = some true := by
  unfold onAt at h
  split at h
  · split at h
    · injection h with h; subst h; exact ⟨by assumption, by assumption⟩
    · cases h
  · cases h
theorem step_of {o : Oper} {r : Res} (h : onAt ops k σ = some o) (hc : pcallee σ o.op = none) (hp : peop G.P G.eqn σ (o.dst.getD 0) o.type o.op = some r) : stepAt G ops k σ = some r := by
  obtain ⟨h1, h2⟩ := onAt_spec h
  unfold stepAt
  simp only [h1, h2, hc, hp]

def idxAt (G : Prg) (ops : Array Oper) (k : Nat) (σ : St) : Option (PV × PV × Nat) := match onAt ops k σ with
  | some o => (match o.op with
    | .indexAddr t x ix => (match tElem G.P t with
      | some e => if (G.P.info? e).isSome = true then some (pev σ x, pev σ ix, tSize G.P e) else none
      | none => none)
    | _ => none)
  | none => none
theorem idxAt_spec {b ix : PV} {sz : Nat} (h : idxAt G ops k σ = some (b, ix, sz)) {i : Nat} (hi : pidx ix = some i) {q : PV} (hq : pindexAddr sz b i = some q) : stepAt G ops k σ = some (.val q) := by
  unfold idxAt at h
  split at h
  case h_2 => cases h
  rename_i o ho
  split at h
  case h_2 => cases h
  rename_i t x ix' hop
  split at h
  case h_2 => cases h
  rename_i e he
  split at h
  case isFalse => cases h
  rename_i hinf
  simp only [Option.some.injEq, Prod.mk.injEq] at h
  obtain ⟨rfl, rfl, rfl⟩ := h
  refine step_of ho (by rw [hop]; rfl) ?_
  rw [hop]
  simp only [peop, he, hi, hinf, if_true, hq, Option.map_some]
theorem pidx_of {kd : IntKind} {i : Int} (h : 0 ≤ i) : pidx (.lit (.int kd i)) = some i.toNat := by simp [pidx, h]
theorem st_idx {l : List α} {i : Int} {kd : IntKind} {sz : Nat} {x : α} (h : idxAt G ops k σ = some (.sl (l.map c), .lit (.int kd i), sz)) (hx : idx l i = some x) (hs : (c x).length = sz) : stepAt G ops k σ = some (.val (.vptr (c x) 0)) := by
  obtain ⟨h0, h1⟩ := idxS hx
  refine idxAt_spec h (pidx_of h0) ?_
  simp only [pindexAddr, List.getElem?_map, h1, Option.map_some, hs, if_true]
theorem st_idxO {l : List α} {i : Int} {kd : IntKind} {g e sz : Nat} {x : α} (h : idxAt G ops k σ = some (.own g e (l.map c), .lit (.int kd i), sz)) (hx : idx l i = some x) (hs : (c x).length = sz) : stepAt G ops k σ = some (.val (.optr g e (l.map c) i.toNat 0)) := by
  obtain ⟨h0, h1⟩ := idxS hx
  refine idxAt_spec h (pidx_of h0) ?_
  simp only [pindexAddr, List.getElem?_map, h1, Option.map_some, hs, if_true]

def ldAt (G : Prg) (ops : Array Oper) (k : Nat) (σ : St) : Option (Bool × Nat × PV) := match onAt ops k σ with
  | some o => (match o.op with
    | .load t a => (match tAgg G.P t with
      | some agg => some (agg, tSize G.P t, pev σ a)
      | none => none)
    | _ => none)
  | none => none
theorem st_ldO {l : List α} {i : Int} {agg : Bool} {sz g e off : Nat} {x : α} {v : PV} (h : ldAt G ops k σ = some (agg, sz, .optr g e (l.map c) i.toNat off)) (hx : idx l i = some x) (hv : pload agg sz (.vptr (c x) off) = some v) : stepAt G ops k σ = some (.val v) := by
  obtain ⟨h0, h1⟩ := idxS hx
  unfold ldAt at h
  split at h
  case h_2 => cases h
  rename_i o ho
  split at h
  case h_2 => cases h
  rename_i t a hop
  split at h
  case h_2 => cases h
  rename_i ag he
  simp only [Option.some.injEq, Prod.mk.injEq] at h
  obtain ⟨rfl, rfl, h3⟩ := h
  refine step_of ho (by rw [hop]; rfl) ?_
  rw [hop]
  simp only [peop, he, h3]
  simp only [pload, List.getElem?_map, h1, Option.map_some] at hv ⊢
  rw [hv]; rfl

def stAt (G : Prg) (ops : Array Oper) (k : Nat) (σ : St) : Option (Bool × Nat × PV × PV) := match onAt ops k σ with
  | some o => (match o.op with
    | .store t a x => (match tAgg G.P t with
      | some agg => some (agg, tSize G.P t, pev σ a, pev σ x)
      | none => none)
    | _ => none)
  | none => none
def stillB (agg : Bool) (sz off n : Nat) (x : PV) : Bool := x.cells.length == sz && x.isAgg == agg && decide (off + sz ≤ n) && x.cells.all PV.still
theorem st_stO {l : List α} {i : Int} {agg : Bool} {sz g e off : Nat} {x : α} {v : PV} (h : stAt G ops k σ = some (agg, sz, .optr g e (l.map c) i.toNat off, v)) (hx : idx l i = some x) (hv : stillB agg sz off (c x).length v = true) : stepAt G ops k σ = some (.mut (PV.updR g i.toNat off v.cells) (.lit undef)) := by
  obtain ⟨h0, h1⟩ := idxS hx
  simp only [stillB, Bool.and_eq_true, beq_iff_eq, decide_eq_true_eq] at hv
  obtain ⟨⟨⟨v1, v2⟩, v3⟩, v4⟩ := hv
  unfold stAt at h
  split at h
  case h_2 => cases h
  rename_i o ho
  split at h
  case h_2 => cases h
  rename_i t a y hop
  split at h
  case h_2 => cases h
  rename_i ag he
  simp only [Option.some.injEq, Prod.mk.injEq] at h
  obtain ⟨rfl, rfl, h3, rfl⟩ := h
  refine step_of ho (by rw [hop]; rfl) ?_
  rw [hop]
  simp only [peop, he, h3, pstore, v1, v2, and_self, if_true, List.getElem?_map, h1, Option.map_some]
  rw [if_pos ⟨v3, v4⟩]
theorem modify_map {l : List α} {n : Nat} {x x' : α} {off : Nat} {vs : List PV} (h : l[n]? = some x) (hs : setAt (c x) off vs = c x') : setRow (l.map c) n off vs = (l.set n x').map c := by
  unfold setRow
  apply List.ext_getElem?
  intro j
  rw [List.getElem?_modify, List.getElem?_map, List.getElem?_map, List.getElem?_set]
  by_cases e : n = j
  · subst e
    obtain ⟨hl, rfl⟩ := List.getElem?_eq_some_iff.1 h
    simp [hs, hl]
  · simp [e]
theorem evs_stO {K : St → Prop} (F : List (List PV) → St) {l : List α} {i : Int} {agg : Bool} {sz g e off : Nat} {x x' : α} {v : PV} (h : stAt G ops k σ = some (agg, sz, .optr g e (l.map c) i.toNat off, v)) (hx : idx l i = some x) (hv : stillB agg sz off (c x).length v = true) (hs : setAt (c x) off v.cells = c x')
    (hF : atS (F (setRow (l.map c) i.toNat off v.cells)) (Res.put σ (dstAt ops k) (.mut (PV.updR g i.toNat off v.cells) (.lit undef))) = F (setRow (l.map c) i.toNat off v.cells)) (next : EVS G ops (k + 1) (F ((put1 l i x').map c)) K) : EVS G ops k σ K := by
  refine evs_op (st_stO h hx hv) (evs_set _ hF ?_)
  rw [modify_map (idxS hx).2 hs]
  exact next

def appAt (G : Prg) (ops : Array Oper) (k : Nat) (σ : St) : Option (PV × PV × Nat × Nat × Nat) := match onAt ops k σ with
  | some o => (match o.op with
    | .call c => (match c.callee with
      | .builtin .append => (match c.args.toList, c.argTypes.toList with
        | [a, x], [t, t'] => if t = t' then (match tElem G.P t with
          | some e => if tRow G.P e = true then some (pev σ a, pev σ x, e, tSize G.P e, o.dst.getD 0) else none
          | none => none) else none
        | _, _ => none)
      | _ => none)
    | _ => none)
  | none => none
theorem appAt_spec {a x : PV} {e sz d : Nat} {r : Res} (h : appAt G ops k σ = some (a, x, e, sz, d)) (hp : pappend e sz d a x = some r) : stepAt G ops k σ = some r := by
  unfold appAt at h
  split at h
  case h_2 => cases h
  rename_i o ho
  split at h
  case h_2 => cases h
  rename_i cl hop
  split at h
  case h_2 => cases h
  rename_i hcal
  split at h
  case h_2 => cases h
  rename_i a' x' t t' hargs hty
  split at h
  case isFalse => cases h
  rename_i ht
  split at h
  case h_2 => cases h
  rename_i e' he
  split at h
  case isFalse => cases h
  rename_i hrow
  simp only [Option.some.injEq, Prod.mk.injEq] at h
  obtain ⟨rfl, rfl, rfl, rfl, rfl⟩ := h
  refine step_of ho (by rw [hop]; simp only [pcallee, hcal]) ?_
  rw [hop]
  simp only [peop, pcallB, hcal, hargs, hty, ht, if_true]
  rw [← ht, he]
  simp only [hrow, if_true]
  exact hp
theorem all_len {l : List α} {sz : Nat} (hs : ∀ y, (c y).length = sz) : (l.map c).all (fun r => r.length == sz) = true := by
  rw [List.all_eq_true]
  intro r hr
  obtain ⟨y, _, rfl⟩ := List.mem_map.1 hr
  simp [hs y]
theorem st_app {l l2 l' : List α} {a x : PV} {g e sz d : Nat} (h : appAt G ops k σ = some (a, x, e, sz, d)) (ha : a = .own g e (l.map c)) (hx : x.elems = some (l2.map c)) (hs : ∀ y, (c y).length = sz) (hl : app l l2 = some l') : stepAt G ops k σ = some (.mut (PV.kill g) (.own g e (l'.map c))) := by
  obtain ⟨h1, rfl⟩ := appS hl
  subst ha
  refine appAt_spec h ?_
  simp only [pappend, hx, all_len hs, if_true, List.length_map, List.map_append]
  rw [if_pos ⟨trivial, h1⟩]
theorem st_appN {l2 l' : List α} {x : PV} {e sz d : Nat} (h : appAt G ops k σ = some (.nl, x, e, sz, d)) (hx : x.elems = some (l2.map c)) (hs : ∀ y, (c y).length = sz) (hl : app [] l2 = some l') : stepAt G ops k σ = some (.new (.own d e (l'.map c))) := by
  obtain ⟨h1, rfl⟩ := appS hl
  refine appAt_spec h ?_
  simp only [List.length_nil, Nat.zero_add] at h1
  simp only [pappend, hx, all_len hs, if_true, List.length_map, List.nil_append]
  rw [if_pos h1]

def lenAt (G : Prg) (ops : Array Oper) (k : Nat) (σ : St) : Option PV := match onAt ops k σ with
  | some o => (match o.op with
    | .call c => (match c.callee with
      | .builtin .len => (match c.args.toList, c.argTypes.toList with
        | [x], [t] => (match G.P.underlying t with
          | some (.slice _) => some (pev σ x)
          | _ => none)
        | _, _ => none)
      | _ => none)
    | _ => none)
  | none => none
theorem st_len {l : List α} {x : PV} (h : lenAt G ops k σ = some x) (hx : x.elems = some (l.map c)) : stepAt G ops k σ = some (.val (.lit (.int .i64 l.length))) := by
  unfold lenAt at h
  split at h
  case h_2 => cases h
  rename_i o ho
  split at h
  case h_2 => cases h
  rename_i cl hop
  split at h
  case h_2 => cases h
  rename_i hcal
  split at h
  case h_2 => cases h
  rename_i a t hargs hty
  split at h
  case h_2 => cases h
  rename_i e he
  injection h with h
  subst h
  refine step_of ho (by rw [hop]; simp only [pcallee, hcal]) ?_
  rw [hop]
  simp only [peop, pcallB, hcal, hargs, hty, he]
  have : plen (pev σ a) = some (l.length : Int) := by
    generalize pev σ a = v at hx
    cases v <;> simp only [PV.elems, Option.some.injEq, reduceCtorEq] at hx
    · simp only [plen]
      have : l = [] := by simpa using hx.symm
      subst this; rfl
    · simp only [plen, hx, List.length_map]
    · simp only [plen, hx, List.length_map]
  rw [this]; rfl

def ooI : Option PV → Option (Option Int)
  | none => some none
  | some (.lit (.int _ i)) => some (some i)
  | _ => none
def slAt (G : Prg) (ops : Array Oper) (k : Nat) (σ : St) : Option (PV × Nat × Option PV × Option PV) := match onAt ops k σ with
  | some o => (match o.op with
    | .slice t x lo hi none => (match tElem G.P t with
      | some e => if (G.P.info? e).isSome = true then some (pev σ x, tSize G.P e, lo.map (pev σ), hi.map (pev σ)) else none
      | none => none)
    | _ => none)
  | none => none
def optN : Option Int → Option (Option Nat)
  | none => some none
  | some i => if 0 ≤ i then some (some i.toNat) else none
theorem slAt_spec {b : PV} {sz : Nat} {lo hi : Option PV} (h : slAt G ops k σ = some (b, sz, lo, hi)) {l0 : Nat} {h0 : Option Nat} (hlo : (match lo with | none => some 0 | some v => pidx v) = some l0) (hhi : (match hi with | none => some none | some v => (pidx v).map some) = some h0) {r : Res} (hp : pslice sz b l0 h0 = some r) : stepAt G ops k σ = some r := by
  unfold slAt at h
  split at h
  case h_2 => cases h
  rename_i o ho
  split at h
  case h_2 => cases h
  rename_i t x lo' hi' hop
  split at h
  case h_2 => cases h
  rename_i e he
  split at h
  case isFalse => cases h
  rename_i hinf
  simp only [Option.some.injEq, Prod.mk.injEq] at h
  obtain ⟨rfl, rfl, rfl, rfl⟩ := h
  refine step_of ho (by rw [hop]; rfl) ?_
  rw [hop]
  have q1 : poptL σ lo' = some l0 := by cases lo' <;> simpa [poptL] using hlo
  have q2 : poptH σ hi' = some h0 := by cases hi' <;> simpa [poptH] using hhi
  simp only [peop, he, hinf, if_true, q1, q2, hp]
/-- l[lo:hi] of what is read alone -/
theorem st_sl {l l' : List α} {sz : Nat} {k1 k2 : IntKind} {lo hi : Int} (h : slAt G ops k σ = some (.sl (l.map c), sz, some (.lit (.int k1 lo)), some (.lit (.int k2 hi)))) (hs : ∀ y, (c y).length = sz) (hl : slc l lo hi = some l') : stepAt G ops k σ = some (.val (.sl (l'.map c))) := by
  obtain ⟨⟨h1, h2, h3⟩, rfl⟩ := slcS hl
  refine slAt_spec h (pidx_of h1) (h0 := some hi.toNat) (by simp only [pidx_of (show 0 ≤ hi by omega), Option.map_some]) ?_
  simp only [pslice, Option.getD_some, List.length_map]
  rw [if_pos ⟨by omega, by omega, by rw [all_len hs]; simp⟩, List.map_drop, List.map_take]
theorem st_slL {l l' : List α} {sz : Nat} {k1 : IntKind} {lo : Int} (h : slAt G ops k σ = some (.sl (l.map c), sz, some (.lit (.int k1 lo)), none)) (hs : ∀ y, (c y).length = sz) (hl : slc l lo l.length = some l') : stepAt G ops k σ = some (.val (.sl (l'.map c))) := by
  obtain ⟨⟨h1, h2, h3⟩, rfl⟩ := slcS hl
  refine slAt_spec h (pidx_of h1) (h0 := none) rfl ?_
  simp only [pslice, Option.getD_none, List.length_map]
  rw [if_pos ⟨by omega, Nat.le_refl _, by rw [all_len hs]; simp⟩]
  simp only [Int.toNat_natCast, List.take_length, List.map_drop]
  rw [List.take_of_length_le (by simp)]
theorem st_slH {l l' : List α} {sz : Nat} {k2 : IntKind} {hi : Int} (h : slAt G ops k σ = some (.sl (l.map c), sz, none, some (.lit (.int k2 hi)))) (hl : slc l 0 hi = some l') : stepAt G ops k σ = some (.val (.sl (l'.map c))) := by
  obtain ⟨⟨h1, h2, h3⟩, rfl⟩ := slcS hl
  refine slAt_spec h (l0 := 0) rfl (h0 := some hi.toNat) (by simp only [pidx_of h2, Option.map_some]) ?_
  simp only [pslice, Option.getD_some, List.length_map]
  rw [if_pos ⟨by omega, by omega, by simp⟩]
  simp [List.map_take]
theorem st_slOH {l l' : List α} {g e sz : Nat} {k2 : IntKind} {hi : Int} (h : slAt G ops k σ = some (.own g e (l.map c), sz, none, some (.lit (.int k2 hi)))) (hl : slc l 0 hi = some l') : stepAt G ops k σ = some (.mut (PV.kill g) (.own g e (l'.map c))) := by
  obtain ⟨⟨h1, h2, h3⟩, rfl⟩ := slcS hl
  refine slAt_spec h (l0 := 0) rfl (h0 := some hi.toNat) (by simp only [pidx_of h2, Option.map_some]) ?_
  simp only [pslice, Option.getD_some, List.length_map]
  rw [if_pos ⟨trivial, by omega⟩]
  simp [List.map_take]

def mkAt (G : Prg) (ops : Array Oper) (k : Nat) (σ : St) : Option (Nat × List PV × PV × PV × Nat) := match onAt ops k σ with
  | some o => (match o.op with
    | .makeSlice t l h => (match tElem G.P t with
      | some e => (match tZero G.P e with
        | some z => if tRow G.P e = true ∧ (z.cells.toList.all Value.oneCell') = true then some (e, z.cells.toList.map ofC, pev σ l, pev σ h, o.dst.getD 0) else none
        | none => none)
      | none => none)
    | _ => none)
  | none => none
theorem st_mk {z : α} {l' : List α} {e d : Nat} {zs : List PV} {k1 k2 : IntKind} {n : Int} (h : mkAt G ops k σ = some (e, zs, .lit (.int k1 n), .lit (.int k2 n), d)) (hz : zs = c z) (hl : mk n z = some l') : stepAt G ops k σ = some (.new (.own d e (l'.map c))) := by
  unfold mk at hl
  split at hl
  case isFalse => cases hl
  rename_i hn
  injection hl with hl
  subst hl
  subst hz
  unfold mkAt at h
  split at h
  case h_2 => cases h
  rename_i o ho
  split at h
  case h_2 => cases h
  rename_i t x hi' hop
  split at h
  case h_2 => cases h
  rename_i e' he
  split at h
  case h_2 => cases h
  rename_i z' hz
  split at h
  case isFalse => cases h
  rename_i hrow
  simp only [Option.some.injEq, Prod.mk.injEq] at h
  obtain ⟨rfl, h1, h2, h3, rfl⟩ := h
  refine step_of ho (by rw [hop]; rfl) ?_
  rw [hop]
  have hL : n.toNat ≤ LIM := by have := hn.2; omega
  simp only [peop, he, h2, h3, pidx_of hn.1, hz]
  rw [if_pos ⟨hrow.1, Nat.le_refl _, hL, hrow.2⟩, h1, List.map_replicate]

def binAt (G : Prg) (ops : Array Oper) (k : Nat) (σ : St) : Option (BinOp × PV × PV) := match onAt ops k σ with
  | some o => (match o.op with
    | .binOp op _ x y _ => some (op, pev σ x, pev σ y)
    | _ => none)
  | none => none
theorem binAt_spec {op : BinOp} {kd k2 : IntKind} {u v : Int} {q : PV} (h : binAt G ops k σ = some (op, .lit (.int kd u), .lit (.int k2 v))) (hq : pbin op (.lit (.int kd u)) (.lit (.int k2 v)) = some q) : stepAt G ops k σ = some (.val q) := by
  unfold binAt at h
  split at h
  case h_2 => cases h
  rename_i o ho
  split at h
  case h_2 => cases h
  rename_i op' t x y t' hop
  simp only [Option.some.injEq, Prod.mk.injEq] at h
  obtain ⟨rfl, h1, h2⟩ := h
  refine step_of ho (by rw [hop]; rfl) ?_
  rw [hop]
  simp only [peop, h1, h2, pbin2, hq, Option.map_some]
theorem st_quo {kd : IntKind} {a b : Int} (h : binAt G ops k σ = some (.quo, .lit (.int kd a), .lit (.int kd b))) (hb : b ≠ 0) : stepAt G ops k σ = some (.val (.lit (.int kd (kd.wrap (a.tdiv b))))) := binAt_spec h (by simp [pbin, hb])
theorem st_rem {kd : IntKind} {a b : Int} (h : binAt G ops k σ = some (.rem, .lit (.int kd a), .lit (.int kd b))) (hb : b ≠ 0) : stepAt G ops k σ = some (.val (.lit (.int kd (a.tmod b)))) := binAt_spec h (by simp [pbin, hb])
theorem st_shl {kd k2 : IntKind} {a b : Int} (h : binAt G ops k σ = some (.shl, .lit (.int kd a), .lit (.int k2 b))) (hb : 0 ≤ b) : stepAt G ops k σ = some (.val (.lit (.int kd (kd.wrap (a * 2 ^ (min b.toNat kd.bits)))))) := binAt_spec h (by simp [pbin, hb])
theorem st_shr {kd k2 : IntKind} {a b : Int} (h : binAt G ops k σ = some (.shr, .lit (.int kd a), .lit (.int k2 b))) (hb : 0 ≤ b) : stepAt G ops k σ = some (.val (.lit (.int kd (a.fdiv (2 ^ (min b.toNat kd.bits)))))) := binAt_spec h (by simp [pbin, hb])

/-! ### arrays -/
def aixAt (G : Prg) (ops : Array Oper) (k : Nat) (σ : St) : Option (Nat × Nat × Bool × PV × PV) := match onAt ops k σ with
  | some o => (match o.op with
    | .index t x ix => (match tArr G.P t with
      | some (n, e) => (match tAgg G.P e with
        | some b => some (n, tSize G.P e, b, pev σ x, pev σ ix)
        | none => none)
      | none => none)
    | _ => none)
  | none => none
theorem flat_range {l : List α} {sz n : Nat} {x : α} (hs : ∀ y, (c y).length = sz) (h : l[n]? = some x) : (((l.flatMap c).drop (n * sz)).take sz = c x) ∧ n * sz + sz ≤ (l.flatMap c).length := by
  induction l generalizing n with
  | nil => simp at h
  | cons y l ih =>
    cases n with
    | zero =>
      simp at h; subst h
      simp only [List.flatMap_cons, Nat.zero_mul, List.drop_zero, Nat.zero_add, List.length_append, hs]
      exact ⟨by rw [List.take_append_of_le_length (by rw [hs]; exact Nat.le_refl _), List.take_of_length_le (by rw [hs]; exact Nat.le_refl _)], by omega⟩
    | succ n =>
      have := ih (by simpa using h)
      simp only [List.flatMap_cons, List.length_append, hs]
      refine ⟨?_, by rw [Nat.add_mul]; omega⟩
      rw [show (n + 1) * sz = (c y).length + n * sz from by rw [hs, Nat.add_mul]; omega, List.drop_append]
      simp only [Nat.add_sub_cancel_left]
      rw [List.drop_of_length_le (by omega), List.nil_append]
      exact this.1
theorem getElem?_of_range {cs : List PV} {a : Nat} {v : PV} (h : (cs.drop a).take 1 = [v]) : cs[a]? = some v := by
  have := congrArg (fun l => l[0]?) h
  simpa [List.getElem?_take, List.getElem?_drop] using this
theorem st_aix {l : List α} {n sz : Nat} {kd : IntKind} {i : Int} {cs : List PV} {x : α} (h : aixAt G ops k σ = some (n, sz, true, .agg cs, .lit (.int kd i))) (hc : cs = l.flatMap c) (hn : l.length = n) (hx : idx l i = some x) (hs : ∀ y, (c y).length = sz) : stepAt G ops k σ = some (.val (.agg (c x))) := by
  obtain ⟨h0, h1⟩ := idxS hx
  unfold aixAt at h
  split at h
  case h_2 => cases h
  rename_i o ho
  split at h
  case h_2 => cases h
  rename_i t y z hop
  split at h
  case h_2 => cases h
  rename_i n' e he
  split at h
  case h_2 => cases h
  rename_i b hb
  simp only [Option.some.injEq, Prod.mk.injEq] at h
  obtain ⟨rfl, rfl, rfl, h4, h5⟩ := h
  refine step_of ho (by rw [hop]; rfl) ?_
  obtain ⟨q1, q2⟩ := flat_range hs h1
  have hlt : i.toNat < n' := by rw [← hn]; exact (List.getElem?_eq_some_iff.1 h1).1
  rw [hop]
  simp only [peop, he, h5, pidx_of h0, h4, hb, hlt, if_true, range?]
  rw [hc, if_pos q2, q1]; rfl
theorem st_aix0 {l : List α} {n : Nat} {kd : IntKind} {i : Int} {cs : List PV} {x : α} {v : PV} (h : aixAt G ops k σ = some (n, 1, false, .agg cs, .lit (.int kd i))) (hc : cs = l.flatMap c) (hn : l.length = n) (hx : idx l i = some x) (hs : ∀ y, (c y).length = 1) (hv : c x = [v]) : stepAt G ops k σ = some (.val v) := by
  obtain ⟨h0, h1⟩ := idxS hx
  unfold aixAt at h
  split at h
  case h_2 => cases h
  rename_i o ho
  split at h
  case h_2 => cases h
  rename_i t y z hop
  split at h
  case h_2 => cases h
  rename_i n' e he
  split at h
  case h_2 => cases h
  rename_i b hb
  simp only [Option.some.injEq, Prod.mk.injEq] at h
  obtain ⟨rfl, h2, rfl, h4, h5⟩ := h
  refine step_of ho (by rw [hop]; rfl) ?_
  obtain ⟨q1, q2⟩ := flat_range hs h1
  have hlt : i.toNat < n' := by rw [← hn]; exact (List.getElem?_eq_some_iff.1 h1).1
  rw [hop]
  simp only [peop, he, h5, pidx_of h0, h4, hb, hlt, if_true, h2]
  rw [hv] at q1
  rw [hc, getElem?_of_range q1]; rfl
/-- a pointer into an array -/
def paxAt (G : Prg) (ops : Array Oper) (k : Nat) (σ : St) : Option (Nat × Nat × PV × PV) := match onAt ops k σ with
  | some o => (match o.op with
    | .indexAddr t x ix => (match tElem G.P t, tArr G.P t with
      | none, some (n, e) => if (G.P.info? e).isSome = true then some (n, tSize G.P e, pev σ x, pev σ ix) else none
      | _, _ => none)
    | _ => none)
  | none => none
theorem st_pax {n sz : Nat} {kd : IntKind} {i : Int} {p q : PV} (h : paxAt G ops k σ = some (n, sz, p, .lit (.int kd i))) (h0 : 0 ≤ i) (hi : i < n) (hq : padd (i.toNat * sz) p = some q) : stepAt G ops k σ = some (.val q) := by
  unfold paxAt at h
  split at h
  case h_2 => cases h
  rename_i o ho
  split at h
  case h_2 => cases h
  rename_i t y z hop
  split at h
  case h_2 => cases h
  rename_i n' e he1 he2
  split at h
  case isFalse => cases h
  rename_i hinf
  simp only [Option.some.injEq, Prod.mk.injEq] at h
  obtain ⟨rfl, rfl, rfl, h5⟩ := h
  refine step_of ho (by rw [hop]; rfl) ?_
  rw [hop]
  simp only [peop, he1, he2, h5, pidx_of h0]
  rw [if_pos ⟨by omega, hinf⟩, hq]; rfl
/-- an element of an array, out of its variable -/
theorem st_pld {l : List α} {i : Int} {agg : Bool} {sz g esz fo : Nat} {cs : List PV} {x : α} {v : PV} (h : ldAt G ops k σ = some (agg, sz, .ptr g cs (0 + i.toNat * esz + fo))) (hc : cs = l.flatMap c) (hx : idx l i = some x) (hs : ∀ y, (c y).length = esz) (hv : pload agg sz (.vptr (c x) fo) = some v) : stepAt G ops k σ = some (.val v) := by
  obtain ⟨h0, h1⟩ := idxS hx
  unfold ldAt at h
  split at h
  case h_2 => cases h
  rename_i o ho
  split at h
  case h_2 => cases h
  rename_i t a hop
  split at h
  case h_2 => cases h
  rename_i ag he
  simp only [Option.some.injEq, Prod.mk.injEq] at h
  obtain ⟨rfl, rfl, h3⟩ := h
  refine step_of ho (by rw [hop]; rfl) ?_
  rw [hop]
  obtain ⟨q1, q2⟩ := flat_range hs h1
  simp only [peop, he, h3]
  simp only [pload] at hv ⊢
  have key : ∀ m, fo + m ≤ esz → ((cs.drop (0 + i.toNat * esz + fo)).take m) = ((c x).drop fo).take m := by
    intro m hm
    rw [hc, ← q1, List.drop_take, List.take_take, List.drop_drop, Nat.zero_add, Nat.min_eq_left (by omega)]
  cases ag with
  | true =>
    simp only [if_true] at hv ⊢
    unfold range? at hv ⊢
    rw [hs] at hv
    split at hv
    case isFalse => cases hv
    rename_i hh
    rw [if_pos (by rw [hc]; omega), key _ hh]
    simp only [Option.map_some, Option.some.injEq] at hv ⊢
    rw [hv]
  | false =>
    simp only [Bool.false_eq_true, if_false] at hv ⊢
    have hlt : fo < esz := by
      have := (List.getElem?_eq_some_iff.1 hv).1
      rw [hs] at this; exact this
    have h4 : ((c x).drop fo).take 1 = [v] := by
      rw [List.take_one, List.head?_drop, hv]; rfl
    have := key 1 (by omega)
    rw [h4] at this
    rw [getElem?_of_range this]; rfl

theorem st_pld0 {l : List α} {i : Int} {agg : Bool} {sz g esz : Nat} {cs : List PV} {x : α} {v : PV} (h : ldAt G ops k σ = some (agg, sz, .ptr g cs (0 + i.toNat * esz))) (hc : cs = l.flatMap c) (hx : idx l i = some x) (hs : ∀ y, (c y).length = esz) (hv : pload agg sz (.vptr (c x) 0) = some v) : stepAt G ops k σ = some (.val v) :=
  st_pld (fo := 0) (by rw [Nat.add_zero]; exact h) hc hx hs hv

/-! ### calls -/
def callAt (ops : Array Oper) (k : Nat) (σ : St) : Option (Nat × List PV × Bool) := match onAt ops k σ with
  | some o => (pcallee σ o.op).map fun fa => (fa.1, PV.viewL fa.2, PV.freeL fa.2)
  | none => none
theorem evs_call {K : St → Prop} {f : Nat} {args : List PV} {b : Bool} {r : PV} (h : callAt ops k σ = some (f, args, b)) (hp : PCalls G.P f args r) (hf : b = true ∨ r.fresh = true) (next : EVS G ops (k + 1) (Res.put σ (dstAt ops k) (.val r.view)) K) : EVS G ops k σ K := by
  unfold callAt at h
  split at h
  case h_2 => cases h
  rename_i o ho
  obtain ⟨h1, h2⟩ := onAt_spec ho
  cases hc : pcallee σ o.op with
  | none => rw [hc] at h; cases h
  | some fa =>
    rw [hc] at h
    simp only [Option.map_some, Option.some.injEq, Prod.mk.injEq] at h
    obtain ⟨rfl, rfl, rfl⟩ := h
    refine evs_one h1 h2 (fun _ => .inl ?_) fun e => nomatch e
    simp only [hc]
    refine ⟨r, hp, hf, .inl ?_⟩
    have hd : dstAt ops k = o.dst := by unfold dstAt; rw [h1]; rfl
    rw [← hd]; exact next
theorem evs_callO {K : St → Prop} {f d : Nat} {args : List PV} {b : Bool} {g e : Nat} {es : List (List PV)} (h : callAt ops k σ = some (f, args, b)) (hp : PCalls G.P f args (.own g e es)) (hf : b = true ∨ (PV.own g e es).fresh = true) (hd : dstAt ops k = some d) (next : EVS G ops (k + 1) (Res.put σ (some d) (.new (.own d e es))) K) : EVS G ops k σ K := by
  unfold callAt at h
  split at h
  case h_2 => cases h
  rename_i o ho
  obtain ⟨h1, h2⟩ := onAt_spec ho
  cases hc : pcallee σ o.op with
  | none => rw [hc] at h; cases h
  | some fa =>
    rw [hc] at h
    simp only [Option.map_some, Option.some.injEq, Prod.mk.injEq] at h
    obtain ⟨rfl, rfl, rfl⟩ := h
    refine evs_one h1 h2 (fun _ => .inl ?_) fun e => nomatch e
    simp only [hc]
    have hd' : dstAt ops k = o.dst := by unfold dstAt; rw [h1]; rfl
    rw [hd] at hd'
    rw [← hd']
    exact ⟨_, hp, hf, .inr ⟨g, e, es, d, rfl, rfl, next⟩⟩
/-- a test that is not known -/
theorem evs_split {K : St → Prop} (b : Bool) (σf : Bool → St) (h : atS (σf b) σ = σf b) (ht : b = true → EVS G ops k (σf true) K) (hf : b = false → EVS G ops k (σf false) K) : EVS G ops k σ K := by
  refine evs_set _ h ?_
  cases b
  · exact hf rfl
  · exact ht rfl
theorem evs_mono {K K' : St → Prop} (hk : ∀ τ, K' τ → K τ) (h : EVS G ops k σ K') : EVS G ops k σ K := fun w0 S0 N a w c hd hi Q hn => h w0 S0 N a w c hd hi Q fun σ' a' w' c' hK hI => hn σ' a' w' c' (hk _ hK) hI
end
section
variable {G : Prg} {cd : Code} {σ : St} {K : PX → St → Prop}
/-- a region whose ways meet in one state -/
theorem sem_regionC (σe : St) (hk : knd cd = 1) (h : EVS G (cOps cd) 0 σ (fun τ => Sub σe τ)) (next : ∀ τ, Sub σe τ → K .normal τ) : SEM G cd σ K := sem_region hk (evs_mono next h)
/-- ways that meet behind a statement -/
theorem sem_join (σe : St) (h : SEM G cd σ (fun px τ => px = .normal ∧ Sub σe τ)) (next : ∀ τ, Sub σe τ → K .normal τ) : SEM G cd σ K := sem_mono (fun _ _ ⟨e, hs⟩ => e ▸ next _ hs) h
end

/-! ### regions that draw -/
def EVD (G : Prg) (ops : Array Oper) (ab : List (List Nat)) (m k : Nat) (σ : St) (K : St → Prop) : Prop := evD G.P G.eqn ops (ab.drop k) ((ops.toList.take m).drop k) σ K
section
variable {G : Prg} {ops : Array Oper} {ab : List (List Nat)} {m k : Nat} {σ : St} {K : St → Prop}
theorem evd_end (h : Nat.ble m k = true) (hk : K σ) : EVD G ops ab m k σ K := by
  unfold EVD
  have e : (ops.toList.take m).drop k = [] := List.drop_eq_nil_of_le (by have := Nat.le_of_ble_eq_true h; simp; omega)
  rw [e]
  cases ab.drop k <;> exact hk
theorem evd_one {o : Oper} (hm : k < m) (ho : opAt ops k = some o) {b : Bool} (hg : pguard ops σ o = some b) (h1 : b = true → opD G.P G.eqn (ab.getD k []) o σ (fun σ' => EVD G ops ab m (k + 1) σ' K)) (h2 : b = false → EVD G ops ab m (k + 1) (Res.put σ o.dst (.val (.lit undef))) K) : EVD G ops ab m k σ K := by
  unfold EVD at *
  have e : (ops.toList.take m).drop k = o :: (ops.toList.take m).drop (k + 1) := by
    unfold opAt at ho
    obtain ⟨q, rfl⟩ := List.getElem?_eq_some_iff.1 ho
    rw [List.drop_eq_getElem_cons (by simp at q ⊢; omega), List.getElem_take]
  rw [e]
  have hh : (ab.drop k).headD [] = ab.getD k [] := by
    rw [List.headD_eq_head?_getD, List.head?_drop, List.getD_eq_getElem?_getD]
  have ht : (ab.drop k).tail = ab.drop (k + 1) := by rw [List.tail_drop]
  have key : optE (pguard ops σ o) (fun b => match b with
    | true => opD G.P G.eqn ((ab.drop k).headD []) o σ fun σ' => evD G.P G.eqn ops (ab.drop k).tail ((ops.toList.take m).drop (k + 1)) σ' K
    | false => evD G.P G.eqn ops (ab.drop k).tail ((ops.toList.take m).drop (k + 1)) (Res.put σ o.dst (.val (.lit undef))) K) := by
    rw [hg, hh, ht]
    cases b
    · exact h2 rfl
    · exact h1 rfl
  generalize ab.drop k = A at key
  cases A <;> exact key
def stepD (G : Prg) (ops : Array Oper) (ab : List (List Nat)) (m k : Nat) (σ : St) : Option PV := if Nat.ble m k = true then none else match opAt ops k with
  | some o => (match pguard ops σ o with
    | some true => (match pcallee σ o.op with
      | none => (match (peop G.P G.eqn σ (o.dst.getD 0) o.type o.op).bind (resD o.op) with
        | some v => if (ab.getD k []).all (fun d => !v.has d) = true then some v else none
        | none => none)
      | some _ => none)
    | some false => some (.lit undef)
    | none => none)
  | none => none
theorem evd_step {v : PV} (h : stepD G ops ab m k σ = some v) (next : EVD G ops ab m (k + 1) (Res.put σ (dstAt ops k) (.val v)) K) : EVD G ops ab m k σ K := by
  unfold stepD at h
  split at h
  · cases h
  rename_i hm
  have hm : k < m := by
    rcases Nat.lt_or_ge k m with q | q
    · exact q
    · exact absurd (Nat.ble_eq_true_of_le q) hm
  cases ho : opAt ops k with
  | none => rw [ho] at h; cases h
  | some o =>
    have hd : dstAt ops k = o.dst := by unfold dstAt; rw [ho]; rfl
    rw [hd] at next
    simp only [ho] at h
    cases hg : pguard ops σ o with
    | none => rw [hg] at h; cases h
    | some b =>
      rw [hg] at h
      cases b with
      | true =>
        refine evd_one hm ho hg (fun _ => ?_) fun e => nomatch e
        unfold opD
        simp only at h
        split at h
        · rename_i hc
          simp only [hc]
          split at h
          · rename_i v' hv
            split at h
            · rename_i ha
              injection h with h
              subst h
              simp only [hv, optE]
              exact ⟨ha, next⟩
            · cases h
          · cases h
        · cases h
      | false =>
        simp only [Option.some.injEq] at h
        subst h
        exact evd_one hm ho hg (fun e => nomatch e) fun _ => next
def runDK (G : Prg) (ops : Array Oper) (ab : List (List Nat)) (m : Nat) : Nat → Nat → St → Option St
  | _, 0, σ => some σ
  | k, n + 1, σ => match stepD G ops ab m k σ with
    | some v => runDK G ops ab m (k + 1) n (Res.put σ (dstAt ops k) (.val v))
    | none => none
def runDD (G : Prg) (ops : Array Oper) (ab : List (List Nat)) (m k n : Nat) (σ : St) : St := (runDK G ops ab m k n σ).getD []
theorem evd_run (n : Nat) (h : (runDK G ops ab m k n σ).isSome = true) (next : EVD G ops ab m (k + n) (runDD G ops ab m k n σ) K) : EVD G ops ab m k σ K := by
  induction n generalizing k σ with
  | zero => exact next
  | succ n ih =>
    simp only [runDK] at h
    simp only [runDD, runDK] at next
    cases hs : stepD G ops ab m k σ with
    | none => rw [hs] at h; cases h
    | some r =>
      rw [hs] at h next
      refine evd_step hs (ih h ?_)
      rw [show k + 1 + n = k + (n + 1) from by omega]
      exact next
/-- a step that does not reckon by itself -/
theorem evd_op {v : PV} (hm : Nat.ble m k = false) (h : stepAt G ops k σ = some (.val v)) (ha : (ab.getD k []).all (fun d => !v.has d) = true) (next : EVD G ops ab m (k + 1) (Res.put σ (dstAt ops k) (.val v)) K) : EVD G ops ab m k σ K := by
  refine evd_step ?_ next
  unfold stepAt at h
  unfold stepD
  rw [if_neg (by rw [hm]; simp)]
  split at h
  · split at h
    · split at h
      · rename_i o ho _ hg _ hc
        simp only [ho, hg, hc, h, Option.bind_some, resD, ha, if_true]
      · cases h
    · simp only [Option.some.injEq, Res.val.injEq] at h
      rename_i o ho _ hg
      simp only [ho, hg, h]
    · cases h
  · cases h
theorem evd_call {f : Nat} {args : List PV} {b : Bool} {r : PV} (hm : Nat.ble m k = false) (h : callAt ops k σ = some (f, args, b)) (hp : PCalls G.P f args r) (hf : b = true ∨ r.fresh = true) (next : EVD G ops ab m (k + 1) (Res.put σ (dstAt ops k) (.val r.view)) K) : EVD G ops ab m k σ K := by
  unfold callAt at h
  split at h
  case h_2 => cases h
  rename_i o ho
  obtain ⟨h1, h2⟩ := onAt_spec ho
  cases hc : pcallee σ o.op with
  | none => rw [hc] at h; cases h
  | some fa =>
    rw [hc] at h
    simp only [Option.map_some, Option.some.injEq, Prod.mk.injEq] at h
    obtain ⟨rfl, rfl, rfl⟩ := h
    have hm : k < m := by
      rcases Nat.lt_or_ge k m with q | q
      · exact q
      · rw [Nat.ble_eq_true_of_le q] at hm; cases hm
    refine evd_one hm h1 h2 (fun _ => ?_) fun e => nomatch e
    unfold opD
    simp only [hc]
    refine ⟨r, hp, hf, ?_⟩
    have hd : dstAt ops k = o.dst := by unfold dstAt; rw [h1]; rfl
    rw [← hd]; exact next
theorem evd_split (b : Bool) (σf : Bool → St) (h : σ = σf b) (ht : b = true → EVD G ops ab m k (σf true) K) (hf : b = false → EVD G ops ab m k (σf false) K) : EVD G ops ab m k σ K := by
  subst h
  cases b
  · exact hf rfl
  · exact ht rfl
theorem evd_mono_aux {P : Program} {eqn : TypeId → Nat} {K' : St → Prop} (hk : ∀ τ, K' τ → K τ) : ∀ (l : List Oper) (ab : List (List Nat)) (σ : St), evD P eqn ops ab l σ K' → evD P eqn ops ab l σ K
  | [], ab, σ, h => by cases ab <;> exact hk _ h
  | o :: l, ab, σ, h => by
    have key : optE (pguard ops σ o) (fun b => match b with
      | true => opD P eqn (ab.headD []) o σ fun σ' => evD P eqn ops ab.tail l σ' K'
      | false => evD P eqn ops ab.tail l (Res.put σ o.dst (.val (.lit undef))) K') := by cases ab <;> exact h
    have goal : optE (pguard ops σ o) (fun b => match b with
      | true => opD P eqn (ab.headD []) o σ fun σ' => evD P eqn ops ab.tail l σ' K
      | false => evD P eqn ops ab.tail l (Res.put σ o.dst (.val (.lit undef))) K) := by
      cases hg : pguard ops σ o with
      | none => rw [hg] at key; exact key
      | some b =>
        rw [hg] at key
        cases b with
        | false => exact evd_mono_aux hk l _ _ key
        | true =>
          simp only [optE, opD] at key ⊢
          split
          · rename_i fa hc
            simp only [hc] at key
            obtain ⟨r, h1, h2, h3⟩ := key
            exact ⟨r, h1, h2, evd_mono_aux hk l _ _ h3⟩
          · rename_i hc
            simp only [hc] at key
            split
            · rename_i r hr
              simp only [hr] at key
              exact ⟨key.1, evd_mono_aux hk l _ _ key.2⟩
            · rename_i hr; simp only [hr] at key
    cases ab <;> exact goal
end
/-- the operations behind them, one after another -/
def EVO (G : Prg) (ops : Array Oper) (k : Nat) (σ : St) (K : St → Prop) : Prop := evOps G.P G.eqn ops (ops.toList.drop k) σ K
section
variable {G : Prg} {ops : Array Oper} {k : Nat} {σ : St} {K : St → Prop}
theorem evo_end (h : Nat.ble ops.size k = true) (hk : K σ) : EVO G ops k σ K := by
  unfold EVO
  rw [List.drop_eq_nil_of_le (by have := Nat.le_of_ble_eq_true h; simpa using this)]
  exact hk
theorem evo_one {o : Oper} (ho : opAt ops k = some o) {b : Bool} (hg : pguard ops σ o = some b) (h1 : b = true → opE G.P G.eqn o σ (fun σ' => EVO G ops (k + 1) σ' K)) (h2 : b = false → EVO G ops (k + 1) (Res.put σ o.dst (.val (.lit undef))) K) : EVO G ops k σ K := by
  unfold EVO at *
  have e : ops.toList.drop k = o :: ops.toList.drop (k + 1) := by
    unfold opAt at ho
    obtain ⟨q, rfl⟩ := List.getElem?_eq_some_iff.1 ho
    exact List.drop_eq_getElem_cons q
  rw [e]
  simp only [evOps, hg, optE]
  cases b
  · exact h2 rfl
  · exact h1 rfl
theorem evo_op {r : Res} (h : stepAt G ops k σ = some r) (next : EVO G ops (k + 1) (r.put σ (dstAt ops k)) K) : EVO G ops k σ K := by
  unfold stepAt at h
  cases ho : opAt ops k with
  | none => rw [ho] at h; cases h
  | some o =>
    rw [ho] at h
    have hd : dstAt ops k = o.dst := by unfold dstAt; rw [ho]; rfl
    rw [hd] at next
    simp only at h
    cases hg : pguard ops σ o with
    | none => rw [hg] at h; cases h
    | some b =>
      rw [hg] at h
      cases b with
      | true =>
        refine evo_one ho hg (fun _ => .inl ?_) fun e => nomatch e
        simp only at h
        split at h
        · rename_i hc; simp only [hc, h, optE]; exact next
        · cases h
      | false =>
        refine evo_one ho hg (fun e => nomatch e) fun _ => ?_
        simp only [Option.some.injEq] at h
        subst h
        exact next
theorem evo_run (n : Nat) (h : (runK G ops k n σ).isSome = true) (next : EVO G ops (k + n) (runD G ops k n σ) K) : EVO G ops k σ K := by
  induction n generalizing k σ with
  | zero => exact next
  | succ n ih =>
    simp only [runK] at h
    simp only [runD, runK] at next
    cases hs : stepAt G ops k σ with
    | none => rw [hs] at h; cases h
    | some r =>
      rw [hs] at h next
      refine evo_op hs (ih h ?_)
      rw [show k + 1 + n = k + (n + 1) from by omega]
      exact next
theorem evo_call {f : Nat} {args : List PV} {b : Bool} {r : PV} (h : callAt ops k σ = some (f, args, b)) (hp : PCalls G.P f args r) (hf : b = true ∨ r.fresh = true) (next : EVO G ops (k + 1) (Res.put σ (dstAt ops k) (.val r.view)) K) : EVO G ops k σ K := by
  unfold callAt at h
  split at h
  case h_2 => cases h
  rename_i o ho
  obtain ⟨h1, h2⟩ := onAt_spec ho
  cases hc : pcallee σ o.op with
  | none => rw [hc] at h; cases h
  | some fa =>
    rw [hc] at h
    simp only [Option.map_some, Option.some.injEq, Prod.mk.injEq] at h
    obtain ⟨rfl, rfl, rfl⟩ := h
    refine evo_one h1 h2 (fun _ => .inl ?_) fun e => nomatch e
    simp only [hc]
    refine ⟨r, hp, hf, .inl ?_⟩
    have hd : dstAt ops k = o.dst := by unfold dstAt; rw [h1]; rfl
    rw [← hd]; exact next
theorem evo_callO {f d : Nat} {args : List PV} {b : Bool} {g e : Nat} {es : List (List PV)} (h : callAt ops k σ = some (f, args, b)) (hp : PCalls G.P f args (.own g e es)) (hf : b = true ∨ (PV.own g e es).fresh = true) (hd : dstAt ops k = some d) (next : EVO G ops (k + 1) (Res.put σ (some d) (.new (.own d e es))) K) : EVO G ops k σ K := by
  unfold callAt at h
  split at h
  case h_2 => cases h
  rename_i o ho
  obtain ⟨h1, h2⟩ := onAt_spec ho
  cases hc : pcallee σ o.op with
  | none => rw [hc] at h; cases h
  | some fa =>
    rw [hc] at h
    simp only [Option.map_some, Option.some.injEq, Prod.mk.injEq] at h
    obtain ⟨rfl, rfl, rfl⟩ := h
    refine evo_one h1 h2 (fun _ => .inl ?_) fun e => nomatch e
    simp only [hc]
    have hd' : dstAt ops k = o.dst := by unfold dstAt; rw [h1]; rfl
    rw [hd] at hd'
    rw [← hd']
    exact ⟨_, hp, hf, .inr ⟨g, e, es, d, rfl, rfl, next⟩⟩
theorem evo_split (b : Bool) (σf : Bool → St) (h : σ = σf b) (ht : b = true → EVO G ops k (σf true) K) (hf : b = false → EVO G ops k (σf false) K) : EVO G ops k σ K := by
  subst h
  cases b
  · exact hf rfl
  · exact ht rfl
theorem evo_mono_aux {P : Program} {eqn : TypeId → Nat} {ops : Array Oper} {K K' : St → Prop} (hk : ∀ τ, K' τ → K τ) : ∀ (l : List Oper) (σ : St), evOps P eqn ops l σ K' → evOps P eqn ops l σ K
  | [], σ, h => hk _ h
  | o :: l, σ, h => by
    simp only [evOps] at h ⊢
    cases hg : pguard ops σ o with
    | none => rw [hg] at h; exact h
    | some b =>
      rw [hg] at h
      cases b with
      | false => exact evo_mono_aux hk l _ h
      | true =>
        simp only [optE, opE] at h ⊢
        rcases h with h | h
        · left
          split
          · rename_i fa hc
            simp only [hc] at h
            obtain ⟨r, h1, h2, h3⟩ := h
            refine ⟨r, h1, h2, ?_⟩
            rcases h3 with h3 | ⟨g, e, es, dd, q1, q2, h3⟩
            · exact .inl (evo_mono_aux hk l _ h3)
            · exact .inr ⟨g, e, es, dd, q1, q2, evo_mono_aux hk l _ h3⟩
          · rename_i hc
            simp only [hc] at h
            split
            · rename_i r hr; simp only [hr] at h; exact evo_mono_aux hk l _ h
            · rename_i hr; simp only [hr] at h
        · exact .inr fun w0 S0 N a w c hi hd next Q hn => h w0 S0 N a w c hi hd next Q fun σ' a' w' c' hK => hn σ' a' w' c' (evo_mono_aux hk l _ hK)
end
theorem evd_tail {G : Prg} {ops : Array Oper} {ab : List (List Nat)} {m k : Nat} {σ : St} {K : St → Prop} (h : Nat.beq m k = true) (next : EVO G ops k σ K) : EVD G ops ab m k σ (fun τ => EVO G ops m τ K) := by
  obtain rfl := Nat.eq_of_beq_eq_true h
  exact evd_end (Nat.ble_self_eq_true _) next
section
variable {G : Prg} {cd : Code} {σ : St} {K : PX → St → Prop}
/-- a region that draws: its first m operations may change places -/
theorem sem_draw (ab : List (List Nat)) (m : Nat) (σ1 : St) (hk : knd cd = 2) (hok : drawOk (cOps cd) ab m = true) (h1 : killAll (cOps cd) m σ = σ1) (h : EVD G (cOps cd) ab m 0 σ1 (fun τ => EVO G (cOps cd) m τ (K .normal))) : SEM G cd σ K := by
  cases cd <;> simp [knd] at hk
  rename_i id ops b
  cases b <;> simp [knd] at hk
  subst h1
  intro w0 S0 N a w c hd hi
  refine drawE_ok G.hE G.hmix (dstOk_all hd) (K := K .normal) ⟨ab, m, hok, ?_⟩ hi _ fun σ' a' w' c' hk hi => ⟨.normal, σ', c', trivial, hk, hi⟩
  simp only [EVD, List.drop_zero] at h
  exact h
theorem sem_drawC (ab : List (List Nat)) (m : Nat) (σ1 σe : St) (hk : knd cd = 2) (hok : drawOk (cOps cd) ab m = true) (h1 : killAll (cOps cd) m σ = σ1) (h : EVD G (cOps cd) ab m 0 σ1 (fun τ => EVO G (cOps cd) m τ (fun τ => Sub σe τ))) (next : ∀ τ, Sub σe τ → K .normal τ) : SEM G cd σ K :=
  sem_draw ab m σ1 hk hok h1 (evd_mono_aux (fun _ => evo_mono_aux next _ _) _ _ _ h)
end

/-! ### a contract -/
def codeOf (fn : Func) : Code := fn.body.getD .skip
/-- how a body ends -/
def RK (P : Program) (l : List ResultVar) (r : PV) (x : PX) (σ : St) : Prop := (match x with | .exit _ => False | _ => True) ∧ pres P σ l = some r
theorem rk_ret {P : Program} {l : List ResultVar} {r : PV} {σ : St} (h : pres P σ l = some r) : RK P l r .ret σ := ⟨trivial, h⟩
theorem rk_normal {P : Program} {l : List ResultVar} {r : PV} {σ : St} (h : pres P σ l = some r) : RK P l r .normal σ := ⟨trivial, h⟩
theorem pc_sem (G : Prg) {f : FuncId} {fn : Func} {args : List PV} {r : PV} (hf : G.P.funcs[f]? = some fn) (hb : fn.body.isSome = true) (hname : (fn.name == "runtime.NumGoroutine") = false)
    (hd : dstOk fn.ntmps (codeOf fn) = true) (hl : Nat.ble args.length fn.ntmps = true) (h : SEM G (codeOf fn) (initSt 0 args) (RK G.P fn.results.toList r)) : PCalls G.P f args r := by
  obtain ⟨cd, hcd⟩ := Option.isSome_iff_exists.1 hb
  have e : codeOf fn = cd := by unfold codeOf; rw [hcd]; rfl
  rw [e] at hd h
  have hl := Nat.le_of_ble_eq_true hl
  refine ⟨by unfold enters; simp [hf, hcd, hname], fun w S vals hS hlen hrep => ?_⟩
  refine calls_of_wp hf hcd ?_
  have hsz : (vals.toArray ++ Array.replicate (fn.ntmps - vals.toArray.size) undef).size = fn.ntmps := by simp; omega
  have inv : Inv G.P ⟨w, fun b => w.heap.size ≤ b, fun _ h => h⟩ S fn.ntmps (initSt 0 args) { tmps := vals.toArray ++ Array.replicate (fn.ntmps - vals.toArray.size) undef, defers := [] } w ⟨S, fun _ => 0, fun _ _ => False⟩ := by
    refine ⟨⟨rfl, rfl, rfl, Nat.le_refl _, fun _ _ _ => rfl⟩, ⟨hS, fun _ _ h => h.elim, fun _ _ _ _ h => h.elim⟩, fun _ h => h, fun _ h => .inl h, fun i => ?_, hsz, rfl⟩
    rw [initSt_get]
    simp only [Nat.zero_le, if_true, Nat.sub_zero]
    cases hi : args[i]? with
    | none => exact .free _ _ (.undef _)
    | some pv =>
      have hlt : i < vals.length := by
        rw [hlen]
        rcases Nat.lt_or_ge i args.length with q | q
        · exact q
        · rw [List.getElem?_eq_none q] at hi; cases hi
      refine .free _ _ ?_
      have := hrep i pv hi
      simp only [Option.getD_some]
      rw [Array.getD_eq_getD_getElem?, Array.getElem?_append_left (by simpa using hlt)]
      simpa [List.getD_eq_getElem?_getD] using this
  refine wp_mono (h _ _ _ _ _ _ hd inv) fun e a' w' he => ?_
  obtain ⟨px, σ', c', hl, ⟨hk1, hk2⟩, hi⟩ := he
  obtain ⟨v, q1, q2⟩ := pres_ok hi hk2
  have fin : bodyPost G.P fn (fun e w' => ∃ v c', e = .returned v ∧ Below w.heap.size w w' ∧ (∀ b, S b → c'.S b) ∧ (∀ b, c'.S b → S b ∨ w.heap.size ≤ b) ∧ c'.Ok (fun b => w.heap.size ≤ b) w' ∧ RV G.P w' c' r v) .ret a' w' :=
    ⟨hi.defers, v, q1, v, c', rfl, ⟨hi.below.os, hi.below.tape, hi.below.output, hi.below.size, fun k hk => hi.below.block k hk (Nat.not_le.2 hk)⟩, hi.sub, hi.sup, hi.ok, q2⟩
  cases px <;> cases e <;> simp only [PX.like] at hl
  · exact fin
  · exact hk1.elim
  · exact fin
end Go.VI
