/- Calls: what is handed over, what is read, what comes back; and freezing. -/
import Derived.Test.YtppmnjiibmomoaaVHPeop
import Derived.LoopN
set_option linter.unusedVariables false
set_option linter.unusedSimpArgs false
set_option linter.unusedSectionVars false
namespace Go.VI
open Go.RowKit

def Key.retag (k : Key) (g : Nat) : Key := match k with
  | .top _ => .top g
  | .sub _ i j => .sub g i j
theorem retag_tag (k : Key) (g : Nat) : (k.retag g).tag = g := by cases k <;> rfl
theorem retag_retag (k : Key) (g g' : Nat) : (k.retag g).retag g' = k.retag g' := by cases k <;> rfl
theorem retag_self (k : Key) : k.retag k.tag = k := by cases k <;> rfl
theorem retag_inj {k k' : Key} {g : Nat} (h : k.retag g = k'.retag g) (ht : k.tag = k'.tag) : k = k' := by
  have := congrArg (·.retag k.tag) h
  simp only [retag_retag] at this
  rwa [retag_self, ht, retag_self] at this
/-- tags of the callee, with the caller's -/
abbrev TL := List (Nat × Nat)
/-- the caller's tag of the callee's t -/
def TL.out : TL → Nat → Option Nat
  | [], _ => none
  | (t, g) :: R, x => if Nat.beq x t = true then some g else TL.out R x
/-- the callee's tag of the caller's g -/
def TL.inn : TL → Nat → Option Nat
  | [], _ => none
  | (t, g) :: R, x => if Nat.beq x g = true then some t else TL.inn R x
/-- each tag once -/
def TL.okB : TL → Bool
  | [] => true
  | (t, g) :: R => (TL.out R t).isNone && (TL.inn R g).isNone && TL.okB R
theorem beq_ff {a b : Nat} (h : a ≠ b) : Nat.beq a b = false := by cases hq : Nat.beq a b with | false => rfl | true => exact absurd (Nat.eq_of_beq_eq_true hq) h
theorem TL.out_inn : ∀ {R : TL}, R.okB = true → ∀ {t g : Nat}, (R.out t = some g ↔ R.inn g = some t)
  | [], _, t, g => by simp [TL.out, TL.inn]
  | (t0, g0) :: R, h, t, g => by
    simp only [TL.okB, Bool.and_eq_true, Option.isNone_iff_eq_none] at h
    obtain ⟨⟨h1, h2⟩, h3⟩ := h
    have ih := @TL.out_inn R h3 t g
    simp only [TL.out, TL.inn]
    by_cases ht : t = t0 <;> by_cases hg : g = g0
    · subst ht hg; simp
    · subst ht
      simp only [Nat.beq_refl, if_true, beq_ff hg, Bool.false_eq_true, if_false, Option.some.injEq]
      constructor
      · intro e; exact absurd e.symm hg
      · intro e; rw [(@TL.out_inn R h3 t g).2 e] at h1; cases h1
    · subst hg
      simp only [Nat.beq_refl, if_true, beq_ff ht, Bool.false_eq_true, if_false, Option.some.injEq]
      constructor
      · intro e; rw [ih.1 e] at h2; cases h2
      · intro e; exact absurd e.symm ht
    · simp only [beq_ff ht, beq_ff hg, Bool.false_eq_true, if_false]; exact ih

mutual
/-- What the callee gets for a value: what is handed over keeps its tag, the rest is read. -/
def PV.viewR (R : TL) (h : HP) : Nat → PV → PV
  | 0, _ => .undef
  | n + 1, v => match v with
    | .row k e => (match R.inn k.tag with | some t => .row (k.retag t) e | none => PV.view h (n + 1) (.row k e))
    | .part k e lo m => (match R.inn k.tag with | some t => .part (k.retag t) e lo m | none => PV.view h (n + 1) (.part k e lo m))
    | .rptr k e i off => (match R.inn k.tag with | some t => .rptr (k.retag t) e i off | none => PV.view h (n + 1) (.rptr k e i off))
    | .ptr g off => (match R.inn g with | some t => .ptr t off | none => PV.view h (n + 1) (.ptr g off))
    | .mp g => (match R.inn g with | some t => .mp t | none => PV.view h (n + 1) (.mp g))
    | .agg cs => .agg (PV.viewRL R h n cs)
    | .tup cs => .tup (PV.viewRL R h n cs)
    | .fn f cs => .fn f (PV.viewRL R h n cs)
    | .nl => .sl []
    | v => v
def PV.viewRL (R : TL) (h : HP) : Nat → List PV → List PV
  | 0, cs => cs.map fun _ => .undef
  | n + 1, cs => match cs with
    | [] => []
    | c :: cs => PV.viewR R h n c :: PV.viewRL R h n cs
end
def HO.viewR (R : TL) (h : HP) : HO → HO
  | .box cs => .box (PV.viewRL R h DEEP cs)
  | .row e J es => .row e J es
  | .map m => .map m
  | .it l u => .it l u
/-- the objects that are handed over -/
def handed (R : TL) (hv h : HP) : TL → HP
  | [] => []
  | (t, g) :: L => match h.get g with
    | some o => (t, o.viewR R hv) :: handed R hv h L
    | none => handed R hv h L
mutual
/-- What the caller gets for a value of the callee's. -/
def PV.ren (R : TL) : PV → PV
  | .row k e => (match R.out k.tag with | some g => .row (k.retag g) e | none => .undef)
  | .part k e lo m => (match R.out k.tag with | some g => .part (k.retag g) e lo m | none => .undef)
  | .rptr k e i off => (match R.out k.tag with | some g => .rptr (k.retag g) e i off | none => .undef)
  | .ptr g off => (match R.out g with | some g => .ptr g off | none => .undef)
  | .mp g => (match R.out g with | some g => .mp g | none => .undef)
  | .agg cs => .agg (PV.renL R cs)
  | .tup cs => .tup (PV.renL R cs)
  | .fn f cs => .fn f (PV.renL R cs)
  | .undef => .undef
  | .lit v => .lit v
  | .nl => .nl
  | .sl es => .sl es
  | .fmap m => .fmap m
  | .vptr cs o => .vptr cs o
def PV.renL (R : TL) : List PV → List PV
  | [] => []
  | c :: cs => PV.ren R c :: PV.renL R cs
end
def HO.ren (R : TL) : HO → HO
  | .box cs => .box (PV.renL R cs)
  | .row e J es => .row e J es
  | .map m => .map m
  | .it l u => .it l u
def HP.ren (R : TL) : HP → HP
  | [] => []
  | (t, o) :: h => match R.out t with
    | some g => (g, o.ren R) :: HP.ren R h
    | none => HP.ren R h
mutual
/-- no part that is read alone -/
def PV.ind : PV → Bool
  | .sl _ => false
  | .fmap _ => false
  | .vptr _ _ => false
  | .agg cs => PV.indL cs
  | .tup cs => PV.indL cs
  | .fn _ cs => PV.indL cs
  | _ => true
def PV.indL : List PV → Bool
  | [] => true
  | c :: cs => PV.ind c && PV.indL cs
end
/-- all cells are plain -/
def Lits (es : List (List PV)) : Prop := ∀ i j p, getE es i j = some p → ∃ v, p = .lit v
def HO.ind : HO → Prop
  | .box cs => PV.indL cs = true
  | .row _ J es => ∀ i j p, getE es i j = some p → (Jat J j = none ∧ ∃ v, p = .lit v) ∨ ((Jat J j).isSome = true ∧ ∃ es', p = .sl es' ∧ Lits es')
  | .map _ => True
  | .it _ _ => False
/-- the tags that the caller forgets: those that the call lays anew; of what was handed over in its place, the rows within -/
def gone (R1 : TL) (pins : List Nat) (k : Key) : Bool := (R1.inn k.tag).isSome && (!(pins.any (fun g => Nat.beq g k.tag)) || !k.isTop)
def HP.del (R1 : TL) : HP → HP
  | [] => []
  | (g, o) :: h => if (R1.inn g).isSome = true then HP.del R1 h else (g, o) :: HP.del R1 h
/-- The caller's state behind the call. -/
def after (R1 : TL) (pins : List Nat) (σ : St) (H1 : HP) : St := ⟨(σ.kill (gone R1 pins)).s, H1.ren R1 ++ ((σ.kill (gone R1 pins)).h.del R1)⟩

/-- the objects that are shown -/
def HP.only (vis : List Nat) (h : HP) : HP := vis.filterMap fun g => (h.get g).map fun o => (g, o)
/-- A call of function f: R: what is handed over; R1: what comes back; vis: what else is read. -/
structure CallE (P : Program) (f : FuncId) (args : List PV) (d : Option Nat) (σ : St) (R R1 : TL) (vis : List Nat) (qs : List PV) (H0 : HP) (r : PV) (H1 : HP) (K : St → Prop) : Prop where
  pc : PC P f qs H0 r H1
  hR : R.okB = true
  hR1 : R1.okB = true
  sub : ∀ t g, R.out t = some g → R1.out t = some g
  small : ∀ t g, R1.out t = some g → (R.out t = some g ∧ (PIN ≤ g → PIN ≤ t)) ∨ (R.out t = none ∧ g < PIN)
  hvis : vis.all (fun g => (R.inn g).isNone) = true
  hq : PV.viewRL R (σ.h.only vis) DEEP args = qs
  hH : handed R (σ.h.only vis) σ.h R = H0
  ind : vis = [] ∨ (r.ind = true ∧ ∀ g o, H1.get g = some o → o.ind)
  K : K (setO (after R1 ((R.filter fun x => Nat.ble PIN x.1).map (·.2)) σ H1) d (r.ren R1))

/-! ### lookups -/
theorem inn_mem {R : TL} {t g : Nat} (h : R.inn g = some t) : (t, g) ∈ R := by
  induction R with
  | nil => cases h
  | cons x R ih =>
    obtain ⟨t0, g0⟩ := x
    simp only [TL.inn] at h
    split at h
    · rename_i hb
      have := Nat.eq_of_beq_eq_true hb
      injection h with h
      subst h this
      simp
    · exact List.mem_cons_of_mem _ (ih h)
theorem mem_out {R : TL} (hR : R.okB = true) {t g : Nat} (h : (t, g) ∈ R) : R.out t = some g := by
  induction R with
  | nil => cases h
  | cons x R ih =>
    obtain ⟨t0, g0⟩ := x
    simp only [TL.okB, Bool.and_eq_true, Option.isNone_iff_eq_none] at hR
    simp only [TL.out]
    rcases List.mem_cons.1 h with e | e
    · injection e with e1 e2; subst e1 e2; simp
    · by_cases ht : t = t0
      · subst ht; rw [ih hR.2 e] at hR; cases hR.1.1
      · rw [beq_ff ht]; exact ih hR.2 e
theorem del_get (R : TL) (h : HP) (g : Nat) : (h.del R).get g = if (R.inn g).isSome = true then none else h.get g := by
  induction h with
  | nil => simp [HP.del, HP.get]
  | cons x h ih =>
    obtain ⟨g', o⟩ := x
    simp only [HP.del]
    by_cases e : g = g'
    · subst e
      split
      · rename_i hp; rw [ih]; simp [hp]
      · rename_i hp; simp [HP.get, hp]
    · split
      · rw [ih]; simp [HP.get, beq_ff e]
      · simp only [HP.get, beq_ff e, Bool.false_eq_true, if_false]; rw [ih]
theorem only_get {vis : List Nat} {h : HP} {g : Nat} {o : HO} (hg : (h.only vis).get g = some o) : g ∈ vis ∧ h.get g = some o := by
  unfold HP.only at hg
  induction vis with
  | nil => cases hg
  | cons x vis ih =>
    rw [List.filterMap_cons] at hg
    cases hx : h.get x with
    | none =>
      rw [hx] at hg
      obtain ⟨q1, q2⟩ := ih hg
      exact ⟨List.mem_cons_of_mem _ q1, q2⟩
    | some o' =>
      rw [hx] at hg
      simp only [Option.map_some, HP.get] at hg
      split at hg
      · rename_i hb
        have := Nat.eq_of_beq_eq_true hb
        subst this
        exact ⟨by simp, hx.trans hg⟩
      · obtain ⟨q1, q2⟩ := ih hg
        exact ⟨List.mem_cons_of_mem _ q1, q2⟩
theorem append_hget (h1 h2 : HP) (g : Nat) : HP.get (h1 ++ h2) g = match HP.get h1 g with | some o => some o | none => HP.get h2 g := by
  induction h1 with
  | nil => rfl
  | cons x h1 ih =>
    obtain ⟨g', o⟩ := x
    simp only [List.cons_append, HP.get]
    split
    · rfl
    · exact ih
theorem ren_get {R : TL} (hR : R.okB = true) {h : HP} {g : Nat} {o : HO} (hg : (HP.ren R h).get g = some o) : ∃ t o1, R.out t = some g ∧ h.get t = some o1 ∧ o = o1.ren R := by
  induction h with
  | nil => cases hg
  | cons x h ih =>
    obtain ⟨t0, o0⟩ := x
    simp only [HP.ren] at hg
    split at hg
    · rename_i g0 h0
      simp only [HP.get] at hg
      split at hg
      · rename_i hb
        have := Nat.eq_of_beq_eq_true hb
        subst this
        injection hg with hg
        exact ⟨t0, o0, h0, by simp [HP.get], hg.symm⟩
      · rename_i hb
        obtain ⟨t, o1, q1, q2, q3⟩ := ih hg
        refine ⟨t, o1, q1, ?_, q3⟩
        have : t ≠ t0 := by
          rintro rfl
          rw [h0] at q1; injection q1 with q1
          subst q1; simp at hb
        simp only [HP.get, beq_ff this, Bool.false_eq_true, if_false]; exact q2
    · rename_i h0
      obtain ⟨t, o1, q1, q2, q3⟩ := ih hg
      refine ⟨t, o1, q1, ?_, q3⟩
      have : t ≠ t0 := by rintro rfl; rw [h0] at q1; cases q1
      simp only [HP.get, beq_ff this, Bool.false_eq_true, if_false]; exact q2
theorem handed_get {R : TL} {hv h : HP} : ∀ {L : TL} {t : Nat} {o' : HO}, (handed R hv h L).get t = some o' → ∃ g o, (t, g) ∈ L ∧ h.get g = some o ∧ o' = o.viewR R hv
  | [], _, _, hg => by cases hg
  | (t0, g0) :: L, t, o', hg => by
    simp only [handed] at hg
    split at hg
    · rename_i o0 h0
      simp only [HP.get] at hg
      split at hg
      · rename_i hb
        have := Nat.eq_of_beq_eq_true hb
        subst this
        injection hg with hg
        exact ⟨g0, o0, by simp, h0, hg.symm⟩
      · obtain ⟨g, o, q1, q2, q3⟩ := handed_get hg
        exact ⟨g, o, List.mem_cons_of_mem _ q1, q2, q3⟩
    · obtain ⟨g, o, q1, q2, q3⟩ := handed_get hg
      exact ⟨g, o, List.mem_cons_of_mem _ q1, q2, q3⟩

section
variable {P : Program} {E : Ent} {S0 : Nat → Prop} {N : Nat} {σ : St} {a : Act} {w : World} {c : Ctx}

/-- One key's row, by another context. -/
theorem RowRep.retag {c c' : Ctx} {k k' : Key} {e : Nat} {es : List (List PV)} {R R' : Nat → Nat → PV → Value → Prop} {xs : List Value} (h1 : c'.τ k' = c.τ k) (h2 : c'.hd k' = c.hd k) (h3 : c'.ty k' = c.ty k) (hD : c.D k → c'.D k')
    (hR : ∀ i j pv v, getE es i j = some pv → R i j pv v → R' i j pv v) (r : RowRep P w c k e es R xs) : RowRep P w c' k' e es R' xs :=
  ⟨h3.trans r.ty, r.pos, r.len, by rw [h2]; exact r.own, fun b hb => by rw [h2] at hb; obtain ⟨q1, q2⟩ := r.blk b hb; exact ⟨hD q1, h1.trans q2⟩, r.one, fun i j pv hg => hR _ _ _ _ hg (r.rep i j pv hg)⟩

/-- The context of the callee. -/
def inCtx (c : Ctx) (R : TL) (S : Nat → Prop) : Ctx :=
  ⟨S, fun k => c.τ (k.retag ((R.out k.tag).getD 0)), fun k => c.hd (k.retag ((R.out k.tag).getD 0)), fun k => c.ty (k.retag ((R.out k.tag).getD 0)), fun k => ∃ g, R.out k.tag = some g ∧ c.D (k.retag g)⟩
theorem inCtx_at {R : TL} {S : Nat → Prop} {k : Key} {g : Nat} (h : R.out k.tag = some g) : (inCtx c R S).τ k = c.τ (k.retag g) ∧ (inCtx c R S).hd k = c.hd (k.retag g) ∧ (inCtx c R S).ty k = c.ty (k.retag g) ∧ ((inCtx c R S).D k ↔ c.D (k.retag g)) := by
  simp [inCtx, h]
theorem inCtx_key {R : TL} (hR : R.okB = true) {S : Nat → Prop} {k : Key} {t : Nat} (h : R.inn k.tag = some t) : (inCtx c R S).τ (k.retag t) = c.τ k ∧ (inCtx c R S).hd (k.retag t) = c.hd k ∧ (inCtx c R S).ty (k.retag t) = c.ty k ∧ ((inCtx c R S).D (k.retag t) ↔ c.D k) := by
  have ho : R.out (k.retag t).tag = some k.tag := by rw [retag_tag]; exact (TL.out_inn hR).2 h
  have := inCtx_at (c := c) (S := S) ho
  rwa [retag_retag, retag_self] at this

theorem viewRL_length (R : TL) (h : HP) : ∀ (n : Nat) (l : List PV), (PV.viewRL R h n l).length = l.length
  | 0, l => by simp [PV.viewRL]
  | n + 1, [] => by simp [PV.viewRL]
  | n + 1, c :: cs => by simp [PV.viewRL, viewRL_length R h n cs]
/-- What the callee gets. -/
theorem viewR_ok {R : TL} (hR : R.okB = true) {hv : HP} {S : Nat → Prop} (hS : ∀ b, c.S b → S b) (objs : ∀ g o, hv.get g = some o → HRep P w c g o) (hb : ∀ g o, hv.get g = some o → ∀ k : Key, k.tag = g → c.D k → S (c.τ k)) :
    ∀ n, (∀ pv v, RV P w c pv v → RV P w (inCtx c R S) (PV.viewR R hv n pv) v) ∧ (∀ (cs : List PV) (vf : Nat → Value), (∀ (i : Nat) pv, cs[i]? = some pv → RV P w c pv (vf i)) → ∀ (i : Nat) pv, (PV.viewRL R hv n cs)[i]? = some pv → RV P w (inCtx c R S) pv (vf i))
  | 0 => ⟨fun pv v _ => by rw [PV.viewR]; exact .free _ _ (.undef v), fun cs vf _ i pv hg => by
      simp only [PV.viewRL, List.getElem?_map, Option.map_eq_some_iff] at hg
      obtain ⟨_, _, rfl⟩ := hg
      exact .free _ _ (.undef _)⟩
  | n + 1 => by
    obtain ⟨ih1, ih2⟩ := viewR_ok hR hS objs hb n
    have see : ∀ pv v, RV P w c pv v → RV P w (inCtx c R S) (PV.view hv (n + 1) pv) v := fun pv v r => .free _ _ ((view_ok (P := P) hS objs hb (n + 1)).1 pv v r)
    refine ⟨fun pv v r => ?_, fun cs vf hr i pv hg => ?_⟩
    · cases r with
      | free pv v hf =>
        have hf' : RV P w (inCtx c R S) pv v := .free _ _ (hf.same (w' := w) (S' := S) (fun _ _ => rfl) hS)
        cases hf with
        | nl => rw [PV.viewR]; exact .free _ _ (RF.sl_nil w S)
        | agg cs vs hn hr => rw [PV.viewR]; exact .agg _ vs (by rw [viewRL_length, hn]) (ih2 cs _ fun i pv hg => .free _ _ (hr i pv hg))
        | tup cs vs hn hr => rw [PV.viewR]; exact .tup _ vs (by rw [viewRL_length, hn]) (ih2 cs _ fun i pv hg => .free _ _ (hr i pv hg))
        | fn f cs vs hn hr => rw [PV.viewR]; exact .fn f _ vs (by rw [viewRL_length, hn]) (ih2 cs _ fun i pv hg => .free _ _ (hr i pv hg))
        | undef => rw [PV.viewR] <;> first | exact hf' | (intros; simp_all; done)
        | lit => rw [PV.viewR] <;> first | exact hf' | (intros; simp_all; done)
        | fmap => rw [PV.viewR] <;> first | exact hf' | (intros; simp_all; done)
        | sl => rw [PV.viewR] <;> first | exact hf' | (intros; simp_all; done)
        | vptr => rw [PV.viewR] <;> first | exact hf' | (intros; simp_all; done)
      | row k e he h1 =>
        rw [PV.viewR]
        split
        · rename_i t ht
          obtain ⟨_, q2, q3, _⟩ := inCtx_key (c := c) (S := S) hR ht
          rw [← q2] at h1 ⊢
          exact .row _ e (q3.trans he) h1
        · exact see _ _ (.row k e he h1)
      | part k e lo m A cc he hn hA =>
        rw [PV.viewR]
        split
        · rename_i t ht
          obtain ⟨q1, _, q3, _⟩ := inCtx_key (c := c) (S := S) hR ht
          exact .part _ e lo m A cc (q3.trans he) hn fun h => by rw [q1]; exact hA h
        · exact see _ _ (.part k e lo m A cc he hn hA)
      | rptr k e i off he =>
        rw [PV.viewR]
        split
        · rename_i t ht
          obtain ⟨q1, _, q3, _⟩ := inCtx_key (c := c) (S := S) hR ht
          rw [← q1]
          exact .rptr _ e i off (q3.trans he)
        · exact see _ _ (.rptr k e i off he)
      | ptr g off =>
        rw [PV.viewR]
        split
        · rename_i t ht
          obtain ⟨q1, _⟩ := inCtx_key (c := c) (S := S) (k := .top g) hR ht
          rw [← q1]
          exact .ptr t off
        · exact see _ _ (.ptr g off)
      | mp g =>
        rw [PV.viewR]
        split
        · rename_i t ht
          obtain ⟨q1, _⟩ := inCtx_key (c := c) (S := S) (k := .top g) hR ht
          rw [← q1]
          exact .mp t
        · exact see _ _ (.mp g)
      | agg cs vs hn hr => rw [PV.viewR]; exact .agg _ vs (by rw [viewRL_length, hn]) (ih2 cs _ hr)
      | tup cs vs hn hr => rw [PV.viewR]; exact .tup _ vs (by rw [viewRL_length, hn]) (ih2 cs _ hr)
      | fn f cs vs hn hr => rw [PV.viewR]; exact .fn f _ vs (by rw [viewRL_length, hn]) (ih2 cs _ hr)
    · cases cs with
      | nil => simp [PV.viewRL] at hg
      | cons x cs =>
        rw [PV.viewRL] at hg
        cases i with
        | zero => simp at hg; subst hg; exact ih1 _ _ (hr 0 x (by simp))
        | succ i => exact ih2 cs (fun i => vf (i + 1)) (fun i pv hg => hr (i + 1) pv (by simpa using hg)) i pv (by simpa using hg)

/-- The caller's context behind the call. -/
def outCtx (c c1 : Ctx) (R1 : TL) (S : Nat → Prop) : Ctx :=
  ⟨S, fun k => match R1.inn k.tag with | some t => c1.τ (k.retag t) | none => c.τ k, fun k => match R1.inn k.tag with | some t => c1.hd (k.retag t) | none => c.hd k, fun k => match R1.inn k.tag with | some t => c1.ty (k.retag t) | none => c.ty k,
    fun k => match R1.inn k.tag with | some t => c1.D (k.retag t) | none => c.D k⟩
theorem outCtx_old {c1 : Ctx} {R1 : TL} {S : Nat → Prop} {k : Key} (h : R1.inn k.tag = none) : Agree c (outCtx c c1 R1 S) k ∧ ((outCtx c c1 R1 S).D k ↔ c.D k) := by
  simp [Agree, outCtx, h]
theorem outCtx_new {c1 : Ctx} {R1 : TL} (hR : R1.okB = true) {S : Nat → Prop} {k : Key} {g : Nat} (h : R1.out k.tag = some g) : (outCtx c c1 R1 S).τ (k.retag g) = c1.τ k ∧ (outCtx c c1 R1 S).hd (k.retag g) = c1.hd k ∧ (outCtx c c1 R1 S).ty (k.retag g) = c1.ty k ∧ ((outCtx c c1 R1 S).D (k.retag g) ↔ c1.D k) := by
  have := (TL.out_inn hR).1 h
  simp [outCtx, retag_tag, this, retag_retag, retag_self]

theorem indL_get {l : List PV} (h : PV.indL l = true) {i : Nat} {pv : PV} (hg : l[i]? = some pv) : pv.ind = true := by
  induction l generalizing i with
  | nil => simp at hg
  | cons c cs ih =>
    simp only [PV.indL, Bool.and_eq_true] at h
    cases i with
    | zero => simp at hg; subst hg; exact h.1
    | succ i => exact ih h.2 (by simpa using hg)
theorem renL_get (R : TL) (l : List PV) (i : Nat) : (PV.renL R l)[i]? = (l[i]?).map (PV.ren R) := by
  induction l generalizing i with
  | nil => simp [PV.renL]
  | cons c cs ih => cases i <;> simp [PV.renL, ih]
theorem renL_length (R : TL) (l : List PV) : (PV.renL R l).length = l.length := by
  induction l <;> simp_all [PV.renL]
theorem ren_RF {R : TL} {S S' : Nat → Prop} {pv : PV} {v : Value} (r : RF w S pv v) : ((∀ b, S b → S' b) ∨ pv.ind = true) → RF w S' (pv.ren R) v := by
  have lst : ∀ {cs : List PV} {vs : Array Value}, (∀ (i : Nat) pv, cs[i]? = some pv → ((∀ b, S b → S' b) ∨ pv.ind = true) → RF w S' (pv.ren R) (vs.getD i Go.undef)) → ((∀ b, S b → S' b) ∨ PV.indL cs = true) → ∀ (i : Nat) pv, (PV.renL R cs)[i]? = some pv → RF w S' pv (vs.getD i Go.undef) := by
    intro cs vs ih hh i pv hg
    rw [renL_get] at hg
    cases hc : cs[i]? <;> simp [hc] at hg
    subst hg
    exact ih i _ hc (hh.imp id fun q => indL_get q hc)
  induction r with
  | undef v => intro _; exact .undef v
  | lit v => intro _; exact .lit v
  | nl => intro _; exact .nl
  | fmap m b hb hm => intro hh; rcases hh with hh | hh; exact .fmap m b (hh b hb) hm; simp [PV.ind] at hh
  | sl es k a n c vf hn hk hk0 hc ha hcell h1 hr ih =>
    intro hh
    rcases hh with hh | hh
    · exact (RF.sl es k a n c vf hn hk hk0 hc ha hcell h1 hr).same (fun _ _ => rfl) hh
    · simp [PV.ind] at hh
  | vptr cs off ad vf hS hcell hr ih =>
    intro hh
    rcases hh with hh | hh
    · exact (RF.vptr cs off ad vf hS hcell hr).same (fun _ _ => rfl) hh
    · simp [PV.ind] at hh
  | agg cs vs hn hr ih => intro hh; rw [PV.ind] at hh; rw [PV.ren]; exact .agg _ vs (by rw [renL_length, hn]) (lst ih hh)
  | tup cs vs hn hr ih => intro hh; rw [PV.ind] at hh; rw [PV.ren]; exact .tup _ vs (by rw [renL_length, hn]) (lst ih hh)
  | fn f cs vs hn hr ih => intro hh; rw [PV.ind] at hh; rw [PV.ren]; exact .fn f _ vs (by rw [renL_length, hn]) (lst ih hh)
/-- What the caller gets. -/
theorem ren_ok {c1 : Ctx} {R1 : TL} (hR : R1.okB = true) {S : Nat → Prop} {pv : PV} {v : Value} (r : RV P w c1 pv v) : ((∀ b, c1.S b → S b) ∨ pv.ind = true) → RV P w (outCtx c c1 R1 S) (pv.ren R1) v := by
  have lst : ∀ {cs : List PV} {vs : Array Value}, (∀ (i : Nat) pv, cs[i]? = some pv → ((∀ b, c1.S b → S b) ∨ pv.ind = true) → RV P w (outCtx c c1 R1 S) (pv.ren R1) (vs.getD i Go.undef)) → ((∀ b, c1.S b → S b) ∨ PV.indL cs = true) → ∀ (i : Nat) pv, (PV.renL R1 cs)[i]? = some pv → RV P w (outCtx c c1 R1 S) pv (vs.getD i Go.undef) := by
    intro cs vs ih hh i pv hg
    rw [renL_get] at hg
    cases hc : cs[i]? <;> simp [hc] at hg
    subst hg
    exact ih i _ hc (hh.imp id fun q => indL_get q hc)
  induction r with
  | free pv v h => intro hh; exact .free _ _ (ren_RF h hh)
  | row k e he h1 =>
    intro _
    rw [PV.ren]
    split
    · rename_i g hg
      obtain ⟨_, q2, q3, _⟩ := outCtx_new (c := c) (c1 := c1) (S := S) hR hg
      rw [← q2] at h1 ⊢
      exact .row _ e (q3.trans he) h1
    · exact .free _ _ (.undef _)
  | part k e lo n A cc he hn hA =>
    intro _
    rw [PV.ren]
    split
    · rename_i g hg
      obtain ⟨q1, _, q3, _⟩ := outCtx_new (c := c) (c1 := c1) (S := S) hR hg
      exact .part _ e lo n A cc (q3.trans he) hn fun h => by rw [q1]; exact hA h
    · exact .free _ _ (.undef _)
  | rptr k e i off he =>
    intro _
    rw [PV.ren]
    split
    · rename_i g hg
      obtain ⟨q1, _, q3, _⟩ := outCtx_new (c := c) (c1 := c1) (S := S) hR hg
      rw [← q1]
      exact .rptr _ e i off (q3.trans he)
    · exact .free _ _ (.undef _)
  | ptr g off =>
    intro _
    rw [PV.ren]
    split
    · rename_i g' hg
      obtain ⟨q1, _⟩ := outCtx_new (c := c) (c1 := c1) (S := S) (k := .top g) hR hg
      rw [← q1]
      exact .ptr g' off
    · exact .free _ _ (.undef _)
  | mp g =>
    intro _
    rw [PV.ren]
    split
    · rename_i g' hg
      obtain ⟨q1, _⟩ := outCtx_new (c := c) (c1 := c1) (S := S) (k := .top g) hR hg
      rw [← q1]
      exact .mp g'
    · exact .free _ _ (.undef _)
  | agg cs vs hn hr ih => intro hh; rw [PV.ind] at hh; rw [PV.ren]; exact .agg _ vs (by rw [renL_length, hn]) (lst ih hh)
  | tup cs vs hn hr ih => intro hh; rw [PV.ind] at hh; rw [PV.ren]; exact .tup _ vs (by rw [renL_length, hn]) (lst ih hh)
  | fn f cs vs hn hr ih => intro hh; rw [PV.ind] at hh; rw [PV.ren]; exact .fn f _ vs (by rw [renL_length, hn]) (lst ih hh)

theorem hrep_out {c1 : Ctx} {R1 : TL} (hR : R1.okB = true) {S : Nat → Prop} {t g : Nat} (hg : R1.out t = some g) {o : HO} (hh : (∀ b, c1.S b → S b) ∨ o.ind) (r : HRep P w c1 t o) : HRep P w (outCtx c c1 R1 S) g (o.ren R1) := by
  have at_ : ∀ k : Key, k.tag = t → _ := fun k hk => outCtx_new (c := c) (c1 := c1) (S := S) (k := k) hR (hk ▸ hg)
  cases o with
  | box cs =>
    obtain ⟨h1, vs, T, h2, h3, h4⟩ := r
    obtain ⟨q1, _, _, q4⟩ := at_ (.top t) rfl
    refine ⟨q4.2 h1, vs, T, by show w.heap[(outCtx c c1 R1 S).τ ((Key.top t).retag g)]? = _; rw [q1]; exact h2, by rw [renL_length, h3], fun i pv hgt => ?_⟩
    rw [renL_get] at hgt
    cases hc : cs[i]? <;> simp [hc] at hgt
    subst hgt
    exact ren_ok hR (h4 i _ hc) (hh.imp id fun q => indL_get q hc)
  | map m =>
    obtain ⟨h1, h2⟩ := r
    obtain ⟨q1, _, _, q4⟩ := at_ (.top t) rfl
    exact ⟨q4.2 h1, by show MapRep w ((outCtx c c1 R1 S).τ ((Key.top t).retag g)) m; rw [q1]; exact h2⟩
  | it l u =>
    obtain ⟨h1, h2⟩ := r
    obtain ⟨q1, _, _, q4⟩ := at_ (.top t) rfl
    refine ⟨q4.2 h1, ?_⟩
    show IterRep w S ((outCtx c c1 R1 S).τ ((Key.top t).retag g)) l u
    rw [q1]
    rcases hh with hh | hh
    · exact h2.same (fun b hb => ⟨rfl, hh b hb⟩) rfl
    · exact hh.elim
  | row e J es =>
    obtain ⟨xs, r⟩ := r
    obtain ⟨q1, q2, q3, q4⟩ := at_ (.top t) rfl
    refine ⟨xs, r.retag (k' := .top g) q1 q2 q3 q4.2 fun i j pv v hgE hc => ?_⟩
    have hh' : (∀ b, c1.S b → S b) ∨ ((Jat J j = none ∧ ∃ v, pv = .lit v) ∨ ((Jat J j).isSome = true ∧ ∃ es', pv = .sl es' ∧ Lits es')) := hh.imp id fun q => q i j pv hgE
    unfold CellRep at hc ⊢
    split at hc
    · rename_i hj
      rcases hh' with q | q
      · exact hc.same (fun _ _ => rfl) q
      · rcases q with ⟨_, v', rfl⟩ | ⟨q, _⟩
        · cases hc; exact .lit _
        · rw [hj] at q; cases q
    · rename_i e' hj
      obtain ⟨h1, es', xs', rfl, r'⟩ := hc
      obtain ⟨p1, p2, p3, p4⟩ := at_ (.sub t i j) rfl
      refine ⟨h1.trans p2.symm, es', xs', rfl, r'.retag (k' := .sub g i j) p1 p2 p3 p4.2 fun i2 j2 pv v hgE2 hc2 => ?_⟩
      rcases hh' with q | q
      · exact RF.same (fun _ _ => rfl) q hc2
      · rcases q with ⟨q, _⟩ | ⟨_, es2, q1, q2⟩
        · rw [hj] at q; cases q
        · injection q1 with q1
          subst q1
          obtain ⟨v', rfl⟩ := q2 i2 j2 pv hgE2
          cases hc2; exact .lit _
theorem hrep_in {R : TL} (hR : R.okB = true) {hv : HP} {S : Nat → Prop} (hS : ∀ b, c.S b → S b) (objs : ∀ g o, hv.get g = some o → HRep P w c g o) (hb : ∀ g o, hv.get g = some o → ∀ k : Key, k.tag = g → c.D k → S (c.τ k))
    {t g : Nat} (hg : R.out t = some g) {o : HO} (r : HRep P w c g o) : HRep P w (inCtx c R S) t (o.viewR R hv) := by
  have at_ : ∀ k : Key, k.tag = t → _ := fun k hk => inCtx_at (c := c) (S := S) (k := k) (hk ▸ hg)
  cases o with
  | box cs =>
    obtain ⟨h1, vs, T, h2, h3, h4⟩ := r
    obtain ⟨q1, _, _, q4⟩ := at_ (.top t) rfl
    exact ⟨q4.2 h1, vs, T, by rw [q1]; exact h2, by rw [viewRL_length, h3], (viewR_ok hR hS objs hb DEEP).2 cs _ h4⟩
  | map m =>
    obtain ⟨h1, h2⟩ := r
    obtain ⟨q1, _, _, q4⟩ := at_ (.top t) rfl
    exact ⟨q4.2 h1, by rw [q1]; exact h2⟩
  | it l u =>
    obtain ⟨h1, h2⟩ := r
    obtain ⟨q1, _, _, q4⟩ := at_ (.top t) rfl
    exact ⟨q4.2 h1, by rw [q1]; exact h2.same (fun b hb => ⟨rfl, hS b hb⟩) rfl⟩
  | row e J es =>
    obtain ⟨xs, r⟩ := r
    obtain ⟨q1, q2, q3, q4⟩ := at_ (.top t) rfl
    refine ⟨xs, r.retag (k' := .top t) q1 q2 q3 q4.2 fun i j pv v _ hc => ?_⟩
    unfold CellRep at hc ⊢
    split at hc
    · exact hc.same (fun _ _ => rfl) hS
    · obtain ⟨h1, es', xs', h2, r'⟩ := hc
      obtain ⟨p1, p2, p3, p4⟩ := at_ (.sub t i j) rfl
      exact ⟨h1.trans p2.symm, es', xs', h2, r'.retag (k' := .sub t i j) p1 p2 p3 p4.2 fun _ _ _ _ _ r => RF.same (fun _ _ => rfl) hS r⟩
end
end Go.VI
