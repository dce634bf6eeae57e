/- Steps in a region that draws its order. -/
import Derived.Test.YtppmnjiibmomoaaVHDraw2
set_option linter.unusedVariables false
set_option linter.unusedSimpArgs false
set_option linter.unusedSectionVars false
namespace Go.VI
open Go.RowKit

mutual
theorem has_or (p q : Key → Bool) : ∀ v : PV, v.has (fun k => p k || q k) = (v.has p || v.has q)
  | .undef => rfl
  | .lit _ => rfl
  | .nl => rfl
  | .sl _ => rfl
  | .fmap _ => rfl
  | .vptr _ _ => rfl
  | .agg cs => by simp only [PV.has]; exact hasL_or p q cs
  | .tup cs => by simp only [PV.has]; exact hasL_or p q cs
  | .fn _ cs => by simp only [PV.has]; exact hasL_or p q cs
  | .row k _ => rfl
  | .part k _ _ _ => rfl
  | .ptr g _ => rfl
  | .rptr k _ _ _ => rfl
  | .mp g => rfl
theorem hasL_or (p q : Key → Bool) : ∀ l : List PV, PV.hasL (fun k => p k || q k) l = (PV.hasL p l || PV.hasL q l)
  | [] => rfl
  | c :: cs => by
    simp only [PV.hasL, has_or p q c, hasL_or p q cs]
    cases c.has p <;> cases c.has q <;> cases PV.hasL p cs <;> cases PV.hasL q cs <;> rfl
end
theorem ofC_free (v : Value) : (ofC v).free = true := by unfold ofC; split <;> rfl
theorem ofV_free (v : Value) : (ofV v).free = true := (ofV_RF default (fun _ => True) v).free
section
variable {ops : Array Oper} {o : Oper} {rd T F : List Nat} {σ τ : St}
theorem local_pev (l : Local ops o rd T σ τ) : (∀ x ∈ o.op.operands.toList, pev τ x = pev σ x) ∧ (shallow o.op = false → ∀ x ∈ o.op.operands.toList, Avoid T (pev σ x) = true) := by
  have mem : ∀ t, (.tmp t : Operand) ∈ o.op.operands.toList → t ∈ oreads ops o := fun t ht => by
    unfold oreads
    rw [List.mem_append, List.mem_filterMap]
    exact .inl ⟨_, ht, rfl⟩
  refine ⟨fun x hx => ?_, fun hsh x hx => ?_⟩
  · cases x with
    | tmp t => exact l.slots t (mem t hx)
    | _ => rfl
  · cases x with
    | tmp t => exact l.avoid t (by rw [odeep_of hsh]; exact mem t hx)
    | const v => exact avoid_free (ofV_free v)
    | global g => exact avoid_free rfl
    | func f => exact avoid_free rfl
theorem local_guard (l : Local ops o rd T σ τ) : pguard ops τ o = pguard ops σ o := by
  unfold pguard
  split
  · rfl
  · rename_i j want e
    split
    · rename_i d hd
      rw [l.slots d (by
        unfold oreads
        rw [List.mem_append, e]
        right
        simp only [hd]
        simp)]
    · rfl
theorem peop_shallow (P : Program) (eqn : TypeId → Nat) {σ τ : St} (d : Nat) (ty : TypeId) (op : Op) (hs : shallow op = true) (h : ∀ x ∈ op.operands.toList, pev σ x = pev τ x) : peop P eqn σ d ty op = peop P eqn τ d ty op := by
  cases op with
  | move x => simp only [peop]; rw [h x (by simp [Op.operands])]
  | nilCheck x => simp only [peop]; rw [h x (by simp [Op.operands])]
  | assign x => simp only [peop]; rw [h x (by simp [Op.operands])]
  | pick c a b => simp only [peop]; rw [h c (by simp [Op.operands]), h a (by simp [Op.operands]), h b (by simp [Op.operands])]
  | build t parts =>
    have e : (parts.toList.map fun p => (p.1, pev σ p.2)) = parts.toList.map fun p => (p.1, pev τ p.2) :=
      List.map_congr_left fun p hp => by rw [h p.2 (by simp only [Op.operands]; simp; exact ⟨p.1, by simpa using hp⟩)]
    simp only [peop, e]
  | makeFunc f first caps =>
    have e : caps.toList.map (pev σ) = caps.toList.map (pev τ) := mapM_pev fun x hx => h x (by simp only [Op.operands]; simp; exact .inr (by simpa using hx))
    cases f <;> simp only [peop, e]
  | fieldAddr s x f => simp only [peop]; rw [h x (by simp [Op.operands])]
  | field s x f => simp only [peop]; rw [h x (by simp [Op.operands])]
  | extract x i => simp only [peop]; rw [h x (by simp [Op.operands])]
  | _ => cases hs
theorem haG_symm {h h' : HP} (e : HAg T h h') : HAg T h' h := fun g hg => (e g hg).symm

theorem dstep_of {G : Prg} {r : Res} {A : Deed} (hg : pguard ops σ o = some true) (hc : pcallee σ o.op = none) (hp : peop G.P G.eqn σ (o.dst.getD 0) o.type o.op = some r) (hal : ∀ τ, Clean F τ → Alike (r.put τ o.dst) (τ.act o.dst A)) : DStep G.P ops o rd F σ A := fun T τ l => by
  obtain ⟨h1, h2⟩ := local_pev l
  refine .inr ⟨by rw [local_guard l]; exact hg, fun E S0 N a w c hi hcl hd next Q hn => ?_⟩
  have hp' : peop G.P G.eqn τ (o.dst.getD 0) o.type o.op = some r := by
    cases hsh : shallow o.op with
    | false => rw [peop_congr G.P G.eqn (haG_symm l.heap) _ _ _ h1 (h2 hsh)]; exact hp
    | true => rw [peop_shallow G.P G.eqn _ _ _ hsh h1]; exact hp
  exact peop_ok G.hE hi hd hp' next Q fun a' w' c' hi' => hn a' w' c' (hi'.alike (hal τ hcl))
theorem dstep_off {P : Program} (hg : pguard ops σ o = some false) : DStep P ops o rd F σ ⟨[], [], .lit undef⟩ := fun T τ l => .inl ⟨by rw [local_guard l]; exact hg, rfl⟩

theorem alike_val (τ : St) (d : Option Nat) (v : PV) : Alike (Res.put τ d (.val v)) (τ.act d ⟨[], [], v⟩) := by
  refine ⟨fun k => ?_, fun g => ?_⟩
  · rw [act_get]; cases d with
    | none => rfl
    | some d => simp only [Res.put, Res.val, Res.base, List.foldl_nil, get_set, Option.some.injEq]
  · rw [act_hget]; cases d <;> simp [Deed.touch, Res.put, Res.val, Res.base, hget_set]
theorem clean_kill {p : Key → Bool} (hF : ∀ k, p k = true → k.tag ∈ F) (hcl : Clean F τ) : Alike (τ.kill p) τ := by
  have av : ∀ v : PV, Avoid F v = true → v.kill p = v := fun v hv => kill_free p v (by
    have : ∀ (L : List Nat) (v : PV), Avoid L v = true → v.has (killT L) = false := by
      intro L
      induction L with
      | nil => intro v _; exact has_less (p := noKey) (q := killT []) (fun _ _ => rfl) v (has_no v)
      | cons g L ih =>
        intro v hv
        simp only [Avoid, List.all_cons, Bool.and_eq_true, Bool.not_eq_true'] at hv
        have h1 := hv.1
        have h2 := ih v hv.2
        clear hv ih
        have comb : ∀ {q1 q2 q : Key → Bool}, (∀ k, q1 k = false → q2 k = false → q k = false) → (∀ v : PV, v.has q1 = false → v.has q2 = false → v.has q = false) := by
          intro q1 q2 q hq v
          have both : ∀ v : PV, v.has (fun k => q1 k || q2 k) = (v.has q1 || v.has q2) := by
            intro v
            exact has_or q1 q2 v
          intro a b
          exact has_less (p := fun k => q1 k || q2 k) (fun k hk => by simp only [Bool.or_eq_false_iff] at hk; exact hq k hk.1 hk.2) v (by rw [both, a, b]; rfl)
        exact comb (fun k a b => by
          simp only [killT, List.any_cons, Bool.or_eq_false_iff]
          refine ⟨?_, b⟩
          rw [ofTag_ff] at a
          exact beq_ff (Ne.symm a)) v h1 h2
    exact has_less (p := killT F) (q := p) (fun k hk => by
      cases hq : p k with
      | false => rfl
      | true => have : killT F k = true := any_beq.2 (hF k hq); rw [this] at hk; cases hk) v (this F v hv))
  refine ⟨fun k => by rw [get_kill]; exact av _ (hcl.1 k), fun g => ?_⟩
  rw [hget_kill]
  cases hg : τ.hget g with
  | none => split <;> rfl
  | some o =>
    obtain ⟨q1, q2⟩ := hcl.2 g o hg
    have hp : p (.top g) = false := by
      cases hq : p (.top g) with
      | false => rfl
      | true => exact absurd (hF _ hq) q1
    rw [if_neg (by rw [hp]; simp)]
    simp only [Option.map_some, Option.some.injEq]
    cases o with
    | box cs =>
      simp only [HO.kill]
      congr 1
      have : ∀ l : List PV, l.all (Avoid F) = true → PV.killL p l = l := by
        intro l
        induction l with
        | nil => intro _; rfl
        | cons c l ih => intro h; simp only [List.all_cons, Bool.and_eq_true] at h; simp only [PV.killL, av c h.1, ih h.2]
      exact this cs q2
    | _ => rfl
theorem alike_new {d g : Nat} (hF : g ∈ F) (hcl : Clean F τ) (dst : Option Nat) (o : HO) (v : PV) : Alike (Res.put τ dst (.new g o v)) (τ.act dst ⟨[], [(g, o)], v⟩) := by
  have e := clean_kill (p := ofTag g) (fun k hk => by rw [ofTag_iff.1 hk]; exact hF) hcl
  have e2 : Alike ((τ.kill (ofTag g)).put g o) (τ.put g o) := ⟨fun k => e.1 k, fun k => by rw [hget_put, hget_put, e.2 k]⟩
  refine ⟨fun k => ?_, fun k => ?_⟩
  · rw [act_get]; cases dst with
    | none => exact e2.1 k
    | some d => simp only [Res.put, Res.new, Res.base, List.foldl_cons, List.foldl_nil, get_set, Option.some.injEq]; split; rfl; exact e2.1 k
  · rw [act_hget]
    have : (Res.put τ dst (.new g o v)).hget k = ((τ.kill (ofTag g)).put g o).hget k := by cases dst <;> rfl
    rw [this, e2.2 k, hget_put]
    simp only [Deed.touch, List.nil_append, List.map_cons, List.map_nil, List.mem_singleton]
    split
    · rename_i h; subst h; simp [HP.get]
    · rfl
theorem alike_set (dst : Option Nat) (g : Nat) (o : HO) (v : PV) : Alike (Res.put τ dst ⟨[], [(g, o)], v⟩) (τ.act dst ⟨[], [(g, o)], v⟩) := by
  refine ⟨fun k => ?_, fun k => ?_⟩
  · rw [act_get]; cases dst with
    | none => rfl
    | some d => simp only [Res.put, Res.base, List.foldl_cons, List.foldl_nil, get_set, Option.some.injEq]; rfl
  · rw [act_hget]
    have : (Res.put τ dst ⟨[], [(g, o)], v⟩).hget k = (τ.put g o).hget k := by cases dst <;> rfl
    rw [this, hget_put]
    simp only [Deed.touch, List.nil_append, List.map_cons, List.map_nil, List.mem_singleton]
    split
    · rename_i h; subst h; simp [HP.get]
    · rfl

theorem only_ag {vis : List Nat} {h h' : HP} (e : ∀ g ∈ vis, h.get g = h'.get g) : h.only vis = h'.only vis := by
  unfold HP.only
  induction vis with
  | nil => rfl
  | cons x vis ih =>
    rw [List.filterMap_cons, List.filterMap_cons, e x (by simp), ih fun g hg => e g (by simp [hg])]
/-- a call that hands nothing over -/
theorem dstep_call {G : Prg} {f : Nat} {args : List PV} {R1 : TL} {vis : List Nat} {qs : List PV} {r : PV} {H1 : HP} (hg : pguard ops σ o = some true) (hc : pcallee σ o.op = some (f, args)) (hp : PC G.P f qs [] r H1)
    (hR1 : R1.okB = true) (hsmall : R1.all (fun x => Nat.blt x.2 PIN) = true) (hF : R1.all (fun x => F.any fun y => Nat.beq y x.2) = true) (hvis : inL vis rd = true) (hq : PV.viewRL [] (σ.h.only vis) DEEP args = qs) (hind : vis = [] ∨ (r.ind = true ∧ ∀ g o, H1.get g = some o → o.ind)) :
    DStep G.P ops o rd F σ ⟨[], H1.ren R1, r.ren R1⟩ := fun T τ l => by
  obtain ⟨h1, h2⟩ := local_pev l
  refine .inr ⟨by rw [local_guard l]; exact hg, fun E S0 N a w c hi hcl hd next Q hn => ?_⟩
  have hc' : pcallee τ o.op = some (f, args) := by rw [pcallee_congr h1]; exact hc
  have ho : τ.h.only vis = σ.h.only vis := only_ag fun g hg => (l.heap g (l.apart g (inL_spec hvis g hg))).symm
  have hFt : ∀ t g, R1.out t = some g → g ∈ F := fun t g h => by
    have := List.all_eq_true.1 hF _ (inn_mem ((TL.out_inn hR1).1 h))
    exact any_beq.1 this
  refine callE_ok (K := fun σ' => Alike σ' (τ.act o.dst ⟨[], H1.ren R1, r.ren R1⟩)) hc' (R := []) (R1 := R1) (vis := vis) (qs := qs) (H0 := []) (r := r) (H1 := H1) ⟨hp, rfl, hR1, (fun t g h => by cases h), (fun t g h => .inr ⟨rfl, ?_⟩), (List.all_eq_true.2 fun _ _ => rfl), (by rw [ho]; exact hq), rfl, hind, ?_⟩ hi hd next Q fun σ' a' w' c' hk hi' => hn _ _ _ (hi'.alike hk)
  · have := List.all_eq_true.1 hsmall _ (inn_mem ((TL.out_inn hR1).1 h))
    simpa using this
  · have gk : ∀ k, gone R1 [] k = true → k.tag ∈ F := fun k hk => by
      simp only [gone, Bool.and_eq_true] at hk
      obtain ⟨t, ht⟩ := Option.isSome_iff_exists.1 hk.1
      exact hFt t _ ((TL.out_inn hR1).2 ht)
    have e := clean_kill (p := gone R1 []) gk hcl
    have sl : ∀ k, (after R1 [] τ H1).get k = τ.get k := fun k => e.1 k
    have hp' : ∀ g, (after R1 [] τ H1).hget g = if g ∈ (H1.ren R1).map (·.1) then (H1.ren R1).get g else τ.hget g := by
      intro g
      have : (after R1 [] τ H1).hget g = HP.get (H1.ren R1 ++ ((τ.kill (gone R1 [])).h.del R1)) g := rfl
      rw [this, append_hget, del_get]
      have e2 : (τ.kill (gone R1 [])).h.get g = τ.hget g := e.2 g
      by_cases hm : g ∈ (H1.ren R1).map (·.1)
      · obtain ⟨o', ho'⟩ := get_some hm
        rw [if_pos hm, ho']
      · rw [if_neg hm, get_none hm, e2]
        simp only
        split
        · rename_i hs
          obtain ⟨t, ht⟩ := Option.isSome_iff_exists.1 hs
          have hgF := hFt t _ ((TL.out_inn hR1).2 ht)
          cases hq' : τ.hget g with
          | none => rfl
          | some o' => exact absurd hgF (hcl.2 g o' hq').1
        · rfl
    show Alike (setO (after R1 [] τ H1) o.dst (r.ren R1)) _
    refine ⟨fun k => ?_, fun g => ?_⟩
    · rw [act_get]
      cases o.dst with
      | none => exact sl k
      | some d => simp only [setO, get_set, Option.some.injEq]; split; rfl; exact sl k
    · rw [act_hget]
      have : (setO (after R1 [] τ H1) o.dst (r.ren R1)).hget g = (after R1 [] τ H1).hget g := by cases o.dst <;> rfl
      rw [this, hp' g]
      have e3 : g ∈ (⟨[], H1.ren R1, r.ren R1⟩ : Deed).touch ↔ g ∈ (H1.ren R1).map (·.1) := by simp [Deed.touch]
      by_cases hm : g ∈ (H1.ren R1).map (·.1)
      · rw [if_pos hm, if_pos (e3.2 hm)]
      · rw [if_neg hm, if_neg (fun q => hm (e3.1 q))]
end

/-! ### rules -/
section
variable {G : Prg} {ops : Array Oper} {D : DD} {m k : Nat} {σ : St} {K : St → Prop}
/-- what the k-th operation reads avoids what may be touched beside it -/
def avB (ops : Array Oper) (k : Nat) (L : List Nat) (σ : St) : Bool := match L with
  | [] => true
  | L => match opAt ops k with
    | some o => (odeep ops o).all fun t => Avoid L (σ.get t)
    | none => true
theorem avB_spec {o : Oper} {L : List Nat} (ho : opAt ops k = some o) (h : avB ops k L σ = true) : (odeep ops o).all (fun t => Avoid L (σ.get t)) = true := by
  unfold avB at h
  split at h
  · exact List.all_eq_true.2 fun _ _ => rfl
  · rw [ho] at h; exact h
theorem stepAt_cases {r : Res} (h : stepAt G ops k σ = some r) : ∃ o, opAt ops k = some o ∧ ((pguard ops σ o = some true ∧ pcallee σ o.op = none ∧ peop G.P G.eqn σ (o.dst.getD 0) o.type o.op = some r) ∨ (pguard ops σ o = some false ∧ r = .val (.lit undef))) := by
  unfold stepAt at h
  cases ho : opAt ops k with
  | none => rw [ho] at h; cases h
  | some o =>
    rw [ho] at h
    simp only at h
    refine ⟨o, rfl, ?_⟩
    cases hg : pguard ops σ o with
    | none => rw [hg] at h; cases h
    | some b =>
      rw [hg] at h
      cases b with
      | true =>
        simp only at h
        split at h
        · rename_i hc; exact .inl ⟨rfl, hc, h⟩
        · cases h
      | false => simp only [Option.some.injEq] at h; exact .inr ⟨rfl, h.symm⟩
theorem dstAt_eq {o : Oper} (ho : opAt ops k = some o) : dstAt ops k = o.dst := by unfold dstAt; rw [ho]; rfl
theorem evd_val {v : PV} (hm : Nat.ble m k = false) (h : stepAt G ops k σ = some (.val v)) (hav : avB ops k (D.av k) σ = true) (hfv : Avoid (D.fv k) v = true) (next : EVD G ops D m (k + 1) (setO σ (dstAt ops k) v) K) : EVD G ops D m k σ K := by
  obtain ⟨o, ho, hh⟩ := stepAt_cases h
  rw [dstAt_eq ho] at next
  have hs : DStep G.P ops o (D.rd k) (D.F k) σ ⟨[], [], v⟩ := by
    rcases hh with ⟨h1, h2, h3⟩ | ⟨h1, h2⟩
    · exact dstep_of h1 h2 h3 fun τ _ => alike_val τ o.dst v
    · have : v = .lit undef := congrArg Res.v h2
      subst this
      exact dstep_off h1
  refine evd_one hm ho ⟨[], [], v⟩ hs (avB_spec ho hav) rfl (by simp [hfv]) ?_
  have e : σ.act o.dst ⟨[], [], v⟩ = setO σ o.dst v := by
    have : ∀ h : HP, h.delL [] = h := by
      intro h
      induction h with
      | nil => rfl
      | cons x h ih => obtain ⟨g, o⟩ := x; simp [HP.delL, ih]
    simp only [St.act, this, List.nil_append]
  rw [e]; exact next
theorem evd_new {g : Nat} {ob : HO} {v : PV} (hm : Nat.ble m k = false) (h : stepAt G ops k σ = some (.new g ob v)) (hF : inL [g] (D.F k) = true) (hT : inL [g] (D.T k) = true) (hav : avB ops k (D.av k) σ = true) (hfv : (Avoid (D.fv k) v && !((D.fv k).any fun y => Nat.beq y g) && ob.avoid (D.fv k)) = true)
    (next : EVD G ops D m (k + 1) (setO ⟨σ.s, (g, ob) :: σ.h⟩ (dstAt ops k) v) K) : EVD G ops D m k σ K := by
  obtain ⟨o, ho, hh⟩ := stepAt_cases h
  rw [dstAt_eq ho] at next
  simp only [Bool.and_eq_true] at hfv
  rcases hh with ⟨h1, h2, h3⟩ | ⟨_, h2⟩
  · have hs : DStep G.P ops o (D.rd k) (D.F k) σ ⟨[], [(g, ob)], v⟩ := dstep_of h1 h2 h3 fun τ hcl => alike_new (d := 0) (inL_spec hF g (by simp)) hcl o.dst ob v
    refine evd_one hm ho ⟨[], [(g, ob)], v⟩ hs (avB_spec ho hav) hT (by simp only [List.all_cons, List.all_nil, Bool.and_true, Bool.and_eq_true]; exact ⟨hfv.1.1, hfv.1.2, hfv.2⟩) ?_
    have e : σ.act o.dst ⟨[], [(g, ob)], v⟩ = setO ⟨σ.s, (g, ob) :: σ.h⟩ o.dst v := by
      have : ∀ h : HP, h.delL [] = h := by
        intro h
        induction h with
        | nil => rfl
        | cons x h ih => obtain ⟨g, o⟩ := x; simp [HP.delL, ih]
      simp only [St.act, this, List.singleton_append]
    rw [e]; exact next
  · have := congrArg (fun r => r.sets.length) h2
    simp [Res.new, Res.val] at this
theorem evd_set {g : Nat} {ob : HO} {v : PV} (hm : Nat.ble m k = false) (h : stepAt G ops k σ = some ⟨[], [(g, ob)], v⟩) (hT : inL [g] (D.T k) = true) (hav : avB ops k (D.av k) σ = true) (hfv : (Avoid (D.fv k) v && !((D.fv k).any fun y => Nat.beq y g) && ob.avoid (D.fv k)) = true)
    (next : EVD G ops D m (k + 1) (setO ⟨σ.s, (g, ob) :: σ.h⟩ (dstAt ops k) v) K) : EVD G ops D m k σ K := by
  obtain ⟨o, ho, hh⟩ := stepAt_cases h
  rw [dstAt_eq ho] at next
  simp only [Bool.and_eq_true] at hfv
  rcases hh with ⟨h1, h2, h3⟩ | ⟨_, h2⟩
  · have hs : DStep G.P ops o (D.rd k) (D.F k) σ ⟨[], [(g, ob)], v⟩ := dstep_of h1 h2 h3 fun τ _ => alike_set o.dst g ob v
    refine evd_one hm ho ⟨[], [(g, ob)], v⟩ hs (avB_spec ho hav) hT (by simp only [List.all_cons, List.all_nil, Bool.and_true, Bool.and_eq_true]; exact ⟨hfv.1.1, hfv.1.2, hfv.2⟩) ?_
    have e : σ.act o.dst ⟨[], [(g, ob)], v⟩ = setO ⟨σ.s, (g, ob) :: σ.h⟩ o.dst v := by
      have : ∀ h : HP, h.delL [] = h := by
        intro h
        induction h with
        | nil => rfl
        | cons x h ih => obtain ⟨g, o⟩ := x; simp [HP.delL, ih]
      simp only [St.act, this, List.singleton_append]
    rw [e]; exact next
  · have := congrArg (fun r => r.sets.length) h2
    simp [Res.val] at this
/-- several values one after another -/
def stepD (G : Prg) (ops : Array Oper) (D : DD) (m k : Nat) (σ : St) : Option PV := if Nat.ble m k = true then none else match stepAt G ops k σ with
  | some ⟨[], [], v⟩ => if avB ops k (D.av k) σ = true ∧ Avoid (D.fv k) v = true then some v else none
  | _ => none
def runDK (G : Prg) (ops : Array Oper) (D : DD) (m : Nat) : Nat → Nat → St → Option St
  | _, 0, σ => some σ
  | k, n + 1, σ => match stepD G ops D m k σ with
    | some v => runDK G ops D m (k + 1) n (setO σ (dstAt ops k) v)
    | none => none
def runDD (G : Prg) (ops : Array Oper) (D : DD) (m k n : Nat) (σ : St) : St := (runDK G ops D m k n σ).getD ⟨[], []⟩
theorem evd_run (n : Nat) (h : (runDK G ops D m k n σ).isSome = true) (next : EVD G ops D m (k + n) (runDD G ops D m k n σ) K) : EVD G ops D m k σ K := by
  induction n generalizing k σ with
  | zero => exact next
  | succ n ih =>
    simp only [runDK] at h
    simp only [runDD, runDK] at next
    cases hs : stepD G ops D m k σ with
    | none => rw [hs] at h; cases h
    | some v =>
      rw [hs] at h next
      unfold stepD at hs
      split at hs
      · cases hs
      rename_i hm
      split at hs
      · rename_i v' hst
        split at hs
        case isFalse => cases hs
        rename_i hh
        injection hs with hs
        subst hs
        refine evd_val (by cases hq : Nat.ble m k with | false => rfl | true => exact absurd hq hm) hst hh.1 hh.2 (ih h ?_)
        rw [show k + 1 + n = k + (n + 1) from by omega]
        exact next
      · cases hs
theorem evd_call {o : Oper} (hm : Nat.ble m k = false) (ho : opAt ops k = some o) (hg : pguard ops σ o = some true) {f : Nat} {args : List PV} {R1 : TL} {vis : List Nat} {qs : List PV} {r : PV} {H1 : HP} (hc : pcallee σ o.op = some (f, args)) (hp : PC G.P f qs [] r H1)
    (hR1 : R1.okB = true) (hsmall : R1.all (fun x => Nat.blt x.2 PIN) = true) (hF : R1.all (fun x => (D.F k).any fun y => Nat.beq y x.2) = true) (hvis : inL vis (D.rd k) = true) (hq : PV.viewRL [] (σ.h.only vis) DEEP args = qs) (hind : vis = [] ∨ (r.ind = true ∧ ∀ g o, H1.get g = some o → o.ind))
    (hav : avB ops k (D.av k) σ = true) (hT : inL ((H1.ren R1).map (·.1)) (D.T k) = true) (hfv : (Avoid (D.fv k) (r.ren R1) && (H1.ren R1).all fun x => !((D.fv k).any fun y => Nat.beq y x.1) && x.2.avoid (D.fv k)) = true)
    (next : EVD G ops D m (k + 1) (setO ⟨σ.s, H1.ren R1 ++ σ.h⟩ (dstAt ops k) (r.ren R1)) K) : EVD G ops D m k σ K := by
  rw [dstAt_eq ho] at next
  refine evd_one hm ho ⟨[], H1.ren R1, r.ren R1⟩ (dstep_call hg hc hp hR1 hsmall hF hvis hq hind) (avB_spec ho hav) (by simpa [Deed.touch] using hT) hfv ?_
  have e : σ.act o.dst ⟨[], H1.ren R1, r.ren R1⟩ = setO ⟨σ.s, H1.ren R1 ++ σ.h⟩ o.dst (r.ren R1) := by
    have : ∀ h : HP, h.delL [] = h := by
      intro h
      induction h with
      | nil => rfl
      | cons x h ih => obtain ⟨g, o⟩ := x; simp [HP.delL, ih]
    simp only [St.act, this]
  rw [e]; exact next
end
end Go.VI
