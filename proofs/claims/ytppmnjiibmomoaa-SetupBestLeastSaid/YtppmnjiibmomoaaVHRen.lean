/- The tags of a state are only names. -/
import Derived.Test.YtppmnjiibmomoaaVHDeed
set_option linter.unusedVariables false
set_option linter.unusedSimpArgs false
set_option linter.unusedSectionVars false
namespace Go.VI
open Go.RowKit

def St.ren (R : TL) (σ : St) : St := ⟨σ.s.map (PV.ren R), σ.h.ren R⟩
def pinOk (R : TL) : Bool := R.all fun x => Nat.beq x.1 x.2 || (Nat.blt x.1 PIN && Nat.blt x.2 PIN)
theorem ren_get' {R : TL} (hR : R.okB = true) {h : HP} {t g : Nat} {o : HO} (ho : R.out t = some g) (hg : h.get t = some o) : (HP.ren R h).get g = some (o.ren R) := by
  induction h with
  | nil => cases hg
  | cons x h ih =>
    obtain ⟨t0, o0⟩ := x
    simp only [HP.get] at hg
    simp only [HP.ren]
    split at hg
    · rename_i hb
      have := Nat.eq_of_beq_eq_true hb
      subst this
      injection hg with hg
      subst hg
      rw [ho]; simp [HP.get]
    · rename_i hb
      have ih := ih hg
      split
      · rename_i g0 h0
        have : g ≠ g0 := by
          rintro rfl
          have q1 := (TL.out_inn hR).1 ho
          rw [(TL.out_inn hR).1 h0] at q1
          injection q1 with q1
          subst q1; simp at hb
        simp only [HP.get, beq_ff this, Bool.false_eq_true, if_false]; exact ih
      · exact ih
theorem get_ren (R : TL) (σ : St) (k : Nat) : (σ.ren R).get k = (σ.get k).ren R := get_map _ rfl _ _
/-- A state by other names. -/
theorem Inv.ren {P : Program} {E : Ent} {S0 : Nat → Prop} {N : Nat} {σ : St} {a : Act} {w : World} {c : Ctx} (h : Inv P E S0 N σ a w c) {R : TL} (hR : R.okB = true) (hp : pinOk R = true) : ∃ c', Inv P E S0 N (σ.ren R) a w c' := by
  let c1 := outCtx c c R c.S
  let c2 : Ctx := ⟨c1.S, c1.τ, c1.hd, c1.ty, fun k => (R.inn k.tag).isSome = true ∧ c1.D k⟩
  have hag : ∀ k, Agree c1 c2 k := fun k => ⟨rfl, rfl, rfl⟩
  have old : ∀ k, c2.D k → ∃ t, R.inn k.tag = some t ∧ c2.τ k = c.τ (k.retag t) ∧ c.D (k.retag t) := fun k hk => by
    obtain ⟨t, ht⟩ := Option.isSome_iff_exists.1 hk.1
    refine ⟨t, ht, by simp [c2, c1, outCtx, ht], ?_⟩
    have := hk.2
    simpa [c1, outCtx, ht] using this
  refine ⟨c2, h.below, ⟨h.ok.hS, fun k hk => ?_, fun k k' hk hk' he => ?_⟩, h.sub, h.sup, fun i => ?_, fun g o hg => ?_, fun g hg => ?_, h.small, h.size, h.defers⟩
  · obtain ⟨t, ht, q1, q2⟩ := old k hk
    rw [q1]; exact h.ok.hD _ q2
  · obtain ⟨t, ht, q1, q2⟩ := old k hk
    obtain ⟨t', ht', q1', q2'⟩ := old k' hk'
    rw [q1, q1'] at he
    have e := h.ok.inj _ _ q2 q2' he
    have et : t = t' := by have := congrArg Key.tag e; rwa [retag_tag, retag_tag] at this
    subst et
    have hg : k.tag = k'.tag := by
      have p1 := (TL.out_inn hR).2 ht
      rw [(TL.out_inn hR).2 ht'] at p1
      injection p1 with p1; exact p1.symm
    exact retag_inj e hg
  · rw [get_ren]
    exact RV.keepAll (c := c1) (c' := c2) (fun _ _ => rfl) (fun _ h => h) hag (ren_ok (c := c) (c1 := c) (S := c.S) hR (h.slots i) (.inl fun _ h => h))
  · have hgg : (σ.ren R).hget g = (σ.h.ren R).get g := rfl
    rw [hgg] at hg
    obtain ⟨t, o1, q1, q2, rfl⟩ := ren_get hR hg
    have := hrep_out (c := c) (c1 := c) (S := c.S) hR q1 (.inl fun _ h => h) (h.objs t o1 q2)
    exact HRep.keepAll (c := c1) (c' := c2) (fun _ _ => rfl) (fun _ h => h) hag (fun k hk hD => ⟨rfl, by rw [hk, (TL.out_inn hR).1 q1]; rfl, hD⟩) this
  · obtain ⟨p1, p2, p3⟩ := h.pin g hg
    cases hi : R.inn g with
    | none =>
      obtain ⟨⟨q1, q2, q3⟩, _⟩ := outCtx_old (c := c) (c1 := c) (R1 := R) (S := c.S) (k := .top g) hi
      exact ⟨q1.trans p1, q2.trans p2, q3.trans p3⟩
    | some t =>
      have hm := List.all_eq_true.1 hp _ (inn_mem hi)
      simp only [Bool.or_eq_true, Bool.and_eq_true] at hm
      have ht : t = g := by
        rcases hm with q | ⟨_, q⟩
        · exact Nat.eq_of_beq_eq_true q
        · have : g < PIN := by simpa using q
          omega
      subst ht
      simp only [Agree, c2, c1, outCtx, Key.tag, hi]
      exact ⟨p1, p2, p3⟩

/-- σ' says no more than σ does, by other names and with less that may be written if need be. -/
def SubR (P : Program) (σ' σ : St) : Prop := ∀ {E : Ent} {S0 : Nat → Prop} {N : Nat} {a : Act} {w : World} {c : Ctx}, Inv P E S0 N σ a w c → ∃ c', Inv P E S0 N σ' a w c'
theorem SubR.inv {P : Program} {E : Ent} {S0 : Nat → Prop} {N : Nat} {σ σ' : St} {a : Act} {w : World} {c : Ctx} (hs : SubR P σ' σ) (h : Inv P E S0 N σ a w c) : ∃ c', Inv P E S0 N σ' a w c' := hs h
theorem subR_trans {P : Program} {σ'' σ' σ : St} (h : SubR P σ'' σ') (k : SubR P σ' σ) : SubR P σ'' σ := fun i => by
  obtain ⟨c', i'⟩ := k i
  exact h i'
theorem subR_sub {P : Program} {σ' σ : St} (h : Sub σ' σ) : SubR P σ' σ := fun i => ⟨_, sub_inv h i⟩
theorem subR_refl {P : Program} (σ : St) : SubR P σ σ := fun i => ⟨_, i⟩

/-! ### what may be said otherwise -/
/-- A place of a value: a slot, a cell of a slot's value, a cell of a box. -/
inductive Pl where
  | slot (i : Nat)
  | cell (i j : Nat)
  | box (g j : Nat)
def St.getPl (σ : St) : Pl → PV
  | .slot i => σ.get i
  | .cell i j => match σ.get i with
    | .agg cs => cs.getD j .undef
    | _ => .undef
  | .box g j => match σ.hget g with
    | some (.box cs) => cs.getD j .undef
    | _ => .undef
def St.setPl (σ : St) (v : PV) : Pl → St
  | .slot i => σ.set i v
  | .cell i j => match σ.get i with
    | .agg cs => σ.set i (.agg (cs.set j v))
    | _ => σ
  | .box g j => match σ.hget g with
    | some (.box cs) => σ.put g (.box (cs.set j v))
    | _ => σ
section
variable {P : Program} {E : Ent} {S0 : Nat → Prop} {N : Nat} {σ : St} {a : Act} {w : World} {c : Ctx}
theorem Inv.setSlot (h : Inv P E S0 N σ a w c) {i : Nat} {v : PV} (hv : RV P w c v (a.tmps.getD i undef)) : Inv P E S0 N (σ.set i v) a w c :=
  ⟨h.below, h.ok, h.sub, h.sup, fun k => by
    rw [get_set]
    split
    · rename_i e; subst e; exact hv
    · exact h.slots k, h.objs, h.pin, h.small, h.size, h.defers⟩
theorem getD_set (cs : List PV) (j k : Nat) (v : PV) : (cs.set j v)[k]? = if j = k ∧ k < cs.length then some v else cs[k]? := by
  rw [List.getElem?_set]
  by_cases e : j = k
  · subst e
    by_cases hl : j < cs.length
    · simp [hl]
    · simp [hl]
  · simp [e]
theorem Inv.setPl (h : Inv P E S0 N σ a w c) {p : Pl} {v : PV} (hv : ∀ x, RV P w c (σ.getPl p) x → RV P w c v x) : Inv P E S0 N (σ.setPl v p) a w c := by
  cases p with
  | slot i => exact h.setSlot (hv _ (h.slots i))
  | cell i j =>
    simp only [St.setPl]
    split
    case h_2 => exact h
    rename_i cs hcs
    have hi := h.slots i
    simp only [St.getPl, hcs] at hv
    rw [hcs] at hi
    refine h.setSlot ?_
    generalize a.tmps.getD i undef = X at hi
    have fin : ∀ (vs : Array Value), vs.size = cs.length → (∀ i pv, cs[i]? = some pv → RV P w c pv (vs.getD i undef)) → RV P w c (.agg (cs.set j v)) (.agg vs) := fun vs hn hr => by
      refine .agg _ _ (by simpa using hn) fun k pv hk => ?_
      rw [getD_set] at hk
      split at hk
      · rename_i e
        obtain ⟨rfl, hl⟩ := e
        injection hk with hk; subst hk
        have := hr j _ (List.getElem?_eq_getElem hl)
        refine hv _ ?_
        rwa [List.getD_eq_getElem?_getD, List.getElem?_eq_getElem hl]
      · exact hr k pv hk
    cases hi with
    | free _ _ hf => cases hf with
      | agg _ vs hn hr => exact fin vs hn fun i pv hg => .free _ _ (hr i pv hg)
    | agg _ vs hn hr => exact fin vs hn hr
  | box g j =>
    simp only [St.setPl]
    split
    case h_2 => exact h
    rename_i cs hcs
    simp only [St.getPl, hcs] at hv
    refine ⟨h.below, h.ok, h.sub, h.sup, h.slots, fun g' o hg => ?_, h.pin, h.small, h.size, h.defers⟩
    rw [hget_put] at hg
    split at hg
    · rename_i e; subst e
      injection hg with hg; subst hg
      obtain ⟨hD, vs, T, q1, q2, q3⟩ := h.objs _ _ hcs
      refine ⟨hD, vs, T, q1, by simpa using q2, fun k pv hk => ?_⟩
      rw [getD_set] at hk
      split at hk
      · rename_i e
        obtain ⟨rfl, hl⟩ := e
        injection hk with hk; subst hk
        refine hv _ ?_
        have := q3 j _ (List.getElem?_eq_getElem hl)
        rwa [List.getD_eq_getElem?_getD, List.getElem?_eq_getElem hl]
      · exact q3 k pv hk
    · exact h.objs g' o hg
/-- an empty row of one's own out of nothing -/
theorem Inv.empty (h : Inv P E S0 N σ a w c) {g e : Nat} {J : List (Nat × Nat)} (hg : g < PIN) (he : 0 < tSize P e) : ∃ c', Inv P E S0 N ((σ.kill (ofTag g)).put g (.row e J [])) a w c' ∧ RV P w c' (.row (.top g) e) (.slice none 0 0) := by
  let c' := c.lay g 0 (.slice none 0 0) e False
  have hhd : c'.hd (.top g) = .slice none 0 0 := lay_top.2.1
  have hrep : HRep P w c' g (.row e J []) := ⟨[], lay_top.2.2.1, he, by simp, by rw [hhd]; exact World.ownsRow_nil w 0 e _, fun b hb => by rw [hhd] at hb; simp [Value.ownBlock] at hb, by simp [getE], by simp [getE]⟩
  refine ⟨c', ?_, ?_⟩
  · refine h.step (ofTag g) (fun x => x = g) h.below (lay_ok h.ok (Nat.le_refl _) (fun q => q.elim) fun q => q.elim) (fun _ _ => rfl) (fun _ h => h) h.sup (fun k hk hp => ?_) (fun k hk => lay_agree (ofTag_ff.1 hk)) (fun k hk hx => ⟨rfl, (lay_D hx).2 hk⟩) (fun k hk => ofTag_iff.1 hk) rfl (fun g' o hx hg' => ?_) fun g' o hx hg' => ?_
    · have := ofTag_iff.1 hp; omega
    · rw [hget_put, if_neg hx] at hg'; exact hg'
    · replace hx : g' = g := hx
      subst hx
      rw [hget_put, if_pos rfl] at hg'
      injection hg' with hg'; subst hg'
      exact hrep
  · obtain ⟨xs', r'⟩ := hrep
    have := RV.row (P := P) (w := w) (c := c') (.top g) e r'.ty r'.hd_one
    rwa [hhd] at this
end
/-- What may be done to a state: a row or a map is given to be read; a nil slice becomes an empty row, or an empty slice that is read. -/
inductive Prep where
  | frz (g : Nat)
  | row (p : Pl) (g e : Nat) (J : List (Nat × Nat))
  | soft (p : Pl)
  | drop (p : Pl)
  | jrow (g : Nat) (J : List (Nat × Nat))
def St.prep1 (P : Program) (σ : St) : Prep → Option St
  | .frz g => if Nat.blt g PIN = true then (match σ.hget g with
    | some (.row _ _ es) => some (σ.frz g (.sl es))
    | some (.map m) => some (σ.frz g (.fmap m))
    | _ => none) else none
  | .row p g e J => if (Nat.blt g PIN && Nat.blt 0 (tSize P e) && (σ.hget g).isNone) = true then (match σ.getPl p with
    | .nl => some (((σ.kill (ofTag g)).put g (.row e J [])).setPl (.row (.top g) e) p)
    | _ => none) else none
  | .soft p => match σ.getPl p with
    | .nl => some (σ.setPl (.sl []) p)
    | _ => none
  | .drop p => some (σ.setPl .undef p)
  | .jrow g J => match σ.hget g with
    | some (.row e [] []) => some (σ.put g (.row e J []))
    | _ => none
def St.prep (P : Program) (σ : St) : List Prep → Option St
  | [] => some σ
  | x :: l => match σ.prep1 P x with
    | some σ' => σ'.prep P l
    | none => none
theorem getPl_kill {σ : St} {g : Nat} {o : HO} {p : Pl} (h : σ.getPl p = .nl) (hg : σ.hget g = none) : ((σ.kill (ofTag g)).put g o).getPl p = .nl := by
  cases p with
  | slot i => simp only [St.getPl] at h ⊢; rw [get_put, get_kill, h]; rfl
  | cell i j =>
    simp only [St.getPl] at h ⊢
    rw [get_put, get_kill]
    split at h
    · rename_i cs hcs
      rw [hcs]
      simp only [PV.kill]
      have : ∀ (l : List PV) (j : Nat), l.getD j .undef = .nl → (PV.killL (ofTag g) l).getD j .undef = .nl := by
        intro l
        induction l with
        | nil => intro j h; simp at h
        | cons x l ih =>
          intro j h
          cases j with
          | zero => simp at h; subst h; rfl
          | succ j => simpa [PV.killL] using ih j (by simpa using h)
      exact this cs j h
    · cases h
  | box g' j =>
    simp only [St.getPl] at h ⊢
    split at h
    · rename_i cs hcs
      have hne : g' ≠ g := by rintro rfl; rw [hg] at hcs; cases hcs
      rw [hget_put, if_neg hne, hget_kill, if_neg (by rw [ofTag_iff]; exact hne), hcs]
      simp only [Option.map_some, HO.kill]
      have : ∀ (l : List PV) (j : Nat), l.getD j .undef = .nl → (PV.killL (ofTag g) l).getD j .undef = .nl := by
        intro l
        induction l with
        | nil => intro j h; simp at h
        | cons x l ih =>
          intro j h
          cases j with
          | zero => simp at h; subst h; rfl
          | succ j => simpa [PV.killL] using ih j (by simpa using h)
      exact this cs j h
    · cases h
theorem subR_prep1 {P : Program} {σ σ' : St} {x : Prep} (h : σ.prep1 P x = some σ') : SubR P σ' σ := by
  intro E S0 N a w c hi
  unfold St.prep1 at h
  split at h
  · rename_i g
    split at h
    case isFalse => cases h
    rename_i hg
    split at h
    · rename_i e J es ho
      injection h with h; subst h
      exact hi.freeze (by simpa using hg) (.inl ⟨e, J, es, ho, rfl⟩)
    · rename_i m ho
      injection h with h; subst h
      exact hi.freeze (by simpa using hg) (.inr ⟨m, ho, rfl⟩)
    · cases h
  · rename_i p g e J
    split at h
    case isFalse => cases h
    rename_i hg
    simp only [Bool.and_eq_true, Option.isNone_iff_eq_none] at hg
    obtain ⟨⟨hg, he⟩, hn⟩ := hg
    split at h
    case h_2 => cases h
    rename_i hp
    injection h with h; subst h
    obtain ⟨c', hi', hr⟩ := hi.empty (J := J) (by simpa using hg) (show 0 < tSize P e by simpa using he)
    refine ⟨c', hi'.setPl fun x hx => ?_⟩
    rw [getPl_kill hp hn] at hx
    rw [hx.nl_eq]; exact hr
  · rename_i p
    split at h
    case h_2 => cases h
    rename_i hp
    injection h with h; subst h
    refine ⟨c, hi.setPl fun x hx => ?_⟩
    rw [hp] at hx
    rw [hx.nl_eq]; exact .free _ _ (RF.sl_nil w _)
  · rename_i p
    injection h with h; subst h
    exact ⟨c, hi.setPl fun x _ => .free _ _ (.undef _)⟩
  · rename_i g J
    split at h
    case h_2 => cases h
    rename_i e ho
    injection h with h; subst h
    refine ⟨c, hi.below, hi.ok, hi.sub, hi.sup, hi.slots, fun g' o hg => ?_, hi.pin, hi.small, hi.size, hi.defers⟩
    rw [hget_put] at hg
    split at hg
    · rename_i q
      injection hg with hg
      subst hg q
      obtain ⟨xs, r⟩ := hi.objs _ _ ho
      exact ⟨xs, r.ty, r.pos, r.len, r.own, r.blk, r.one, fun i j pv hg => by simp [getE] at hg⟩
    · exact hi.objs _ _ hg
theorem subR_prepL {P : Program} : ∀ {l : List Prep} {σ σ' : St}, σ.prep P l = some σ' → SubR P σ' σ
  | [], σ, σ', h => by injection h with h; subst h; exact subR_refl _
  | x :: l, σ, σ', h => by
    simp only [St.prep] at h
    split at h
    · rename_i σ1 h1
      exact subR_trans (subR_prepL h) (subR_prep1 h1)
    · cases h
def St.prepD (P : Program) (l : List Prep) (σ : St) : St := (σ.prep P l).getD ⟨[], []⟩
theorem subR_prep {P : Program} (l : List Prep) (R : TL) {X σe : St} (hp : (X.prep P l).isSome = true) (h1 : R.okB = true) (h2 : pinOk R = true) (h : atS σe ((X.prepD P l).ren R) = asS σe) : SubR P σe X := by
  obtain ⟨σ1, hs⟩ := Option.isSome_iff_exists.1 hp
  unfold St.prepD at h
  rw [hs] at h
  refine subR_trans ?_ (subR_prepL hs)
  intro E S0 N a w c hi
  obtain ⟨c', hi'⟩ := hi.ren h1 h2
  exact ⟨c', sub_inv (sub_map h) hi'⟩
theorem subR_of {P : Program} (R : TL) {X σe : St} (h1 : R.okB = true) (h2 : pinOk R = true) (h : atS σe (X.ren R) = asS σe) : SubR P σe X := subR_prep [] R rfl h1 h2 h
section
variable {G : Prg} {cd : Code} {σ : St} {K : PX → St → Prop}
theorem sem_subR {σ' : St} (hs : SubR G.P σ' σ) (h : SEM G cd σ' K) : SEM G cd σ K := fun E S0 N a w c hd hi => by
  obtain ⟨c', hi'⟩ := hs hi
  exact h E S0 N a w c' hd hi'
theorem evs_subR {ops : Array Oper} {k : Nat} {K : St → Prop} {σ' : St} (hs : SubR G.P σ' σ) (h : EVS G ops k σ' K) : EVS G ops k σ K := fun E S0 N a w c hd hi => by
  obtain ⟨c', hi'⟩ := hs hi
  exact h E S0 N a w c' hd hi'
theorem evo_subR {ops : Array Oper} {k : Nat} {K : St → Prop} {σ' : St} (hs : SubR G.P σ' σ) (h : EVO G ops k σ' K) : EVO G ops k σ K := fun E S0 N a w c hd hi => by
  obtain ⟨c', hi'⟩ := hs hi
  exact h E S0 N a w c' hd hi'
/-- how a round of the body must end -/
def LKR (P : Program) {S R : Type} (emb : S → St) (out : R → PX × St) (t : S ⊕ R) (px : PX) (τ : St) : Prop := match t with
  | .inl s' => px = .normal ∧ SubR P (emb s') τ
  | .inr r => px = (out r).1 ∧ SubR P (out r).2 τ
theorem sem_loopR {S R : Type} (emb : S → St) (out : R → PX × St) (body : S → Option (S ⊕ R)) (s : S) (r : R) (hk : knd cd = 6) (h0 : SubR G.P (emb s) σ) (h : loopT body s = some r)
    (hbody : ∀ s t, body s = some t → SEM G (cL cd) (emb s) (LKR G.P emb out t)) (hout : ∀ r, (out r).1 ≠ .normal) (hK : ∀ τ, SubR G.P (out r).2 τ → K (out r).1 τ) : SEM G cd σ K := by
  refine sem_subR h0 ?_
  cases cd <;> simp [knd] at hk
  · rename_i b; cases b <;> simp [knd] at hk
  rename_i x
  intro E S0 N a w c hd hi
  obtain ⟨n, hn⟩ := loopT_iff.1 h
  refine wp_loop_rounds n ?_
  clear h0 h
  induction n generalizing s a w c with
  | zero => cases hn
  | succ n ih =>
    simp only [iterT] at hn
    rw [rounds_succ]
    cases hb : body s with
    | none => rw [hb] at hn; cases hn
    | some t =>
      rw [hb] at hn
      refine wp_mono (hbody s t hb E S0 N a w c (by rw [dstOk] at hd; exact hd) hi) fun e a' w' he => ?_
      obtain ⟨px, σ', c', hl, hk, hi⟩ := he
      cases t with
      | inl s' =>
        obtain ⟨rfl, hs⟩ := hk
        cases e <;> simp only [PX.like] at hl
        obtain ⟨c2, hi2⟩ := hs.inv hi
        exact ih s' _ _ _ hi2 hn
      | inr r' =>
        simp only [Option.some.injEq] at hn
        subst hn
        obtain ⟨he, hs⟩ := hk
        have hne := hout r'
        have hfin := hK σ' hs
        rw [← he] at hne hfin
        cases px <;> cases e <;> simp only [PX.like] at hl
        · exact absurd rfl hne
        · subst hl; exact ⟨.exit _, σ', c', rfl, hfin, hi⟩
        · exact ⟨.ret, σ', c', trivial, hfin, hi⟩
end
end Go.VI
