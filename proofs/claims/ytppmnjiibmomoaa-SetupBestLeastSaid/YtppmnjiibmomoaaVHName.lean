/- Appends and cuts of an own row, the row then bearing another name: for regions that draw their order. -/
import Derived.Test.YtppmnjiibmomoaaVHCopy
set_option linter.unusedVariables false
set_option linter.unusedSimpArgs false
set_option linter.unusedSectionVars false
namespace Go.VI
open Go.RowKit

section
variable {P : Program} {E : Ent} {S0 : Nat → Prop} {N : Nat} {σ : St} {a : Act} {w : World} {c : Ctx}
/-- An operation that turns the row g alone: what it yields, and what is said of the world behind it. -/
def DoesI (P : Program) (E : Ent) (o : Oper) (a : Act) (w : World) (c : Ctx) (g e : Nat) (ob : HO) : Prop :=
  ∃ (v : Value) (w' : World) (c' : Ctx), (execOp a.eval o).run P w = .ok (.value v) w' ∧ E.Fr w' ∧ c'.Ok E.M w' ∧ Same c.S w w' ∧ (∀ b, c'.S b ↔ c.S b) ∧ (∀ k, k.tag ≠ g → Agree c c' k) ∧
    (∀ k, c.D k → k.tag ≠ g → w'.heap[c.τ k]? = w.heap[c.τ k]? ∧ c'.D k) ∧ HRep P w' c' g ob ∧ RV P w' c' (.row (.top g) e) v
theorem append_do {o : Oper} {t e g : Nat} {s x : Operand} {es es2 : List (List PV)} (ho : o.op = .call { callee := .builtin .append, args := #[s, x], argTypes := #[t, t] }) (ht : tElem P t = some e) (hrow : tRow P e = true) (hs : pev σ s = .row (.top g) e) (hgR : σ.hget g = some (.row e [] es)) (hpin : g < PIN)
    (hel : (pev σ x).elems σ.h = some es2) (hflat : (pev σ x).flat σ.h = true) (hk2 : ∀ l ∈ es2, l.length = tSize P e) (hlim : es.length + es2.length ≤ LIM) (h : Inv P E S0 N σ a w c) : DoesI P E o a w c g e (.row e [] (es ++ es2)) := by
  have rs := h.ev s
  have rx := h.ev x
  rw [hs] at rs
  obtain ⟨i, z, hi, hz, hsz, hby, hzs, hsize⟩ := tRow_some hrow
  have hu := tElem_some ht
  have hexec : ∀ v' w', (Builtin.append_ #[t, t] o.type #[a.eval s, a.eval x]).run P w = .ok v' w' → (execOp a.eval o).run P w = .ok (.value v') w' := by
    intro v' w' hrun
    unfold execOp
    simp only [ho, resolve, invoke, builtin, Sem.run_bind, Sem.run_pure, Result.andThen_ok, List.map_toArray, List.map_cons, List.map_nil, hrun]
  have hVs : a.eval s = c.hd (.top g) := by
    generalize a.eval s = X at rs
    cases rs with
    | free _ _ hf => cases hf
    | row => rfl
  rw [hVs] at hexec
  obtain ⟨A, cc, news, hX, hnl, hA, hcell, h1, hrf⟩ := elems_rep h.objs rx hel hflat hk2 (by omega)
  rw [hX] at hexec
  have hA' : es2.length ≠ 0 → ∃ ad, A = some ad := fun hne => hA (by rintro rfl; simp at hne)
  obtain ⟨xs, rr⟩ := h.objs g _ hgR
  have hRF : ∀ i j pv, getE es i j = some pv → RF w c.S pv (xs.getD (i * tSize P e + j) undef) := fun i j pv hg => rr.rep i j pv hg
  obtain ⟨v', w', hrun, hown', hgrow, hblk⟩ := run_append_any (P := P) 0 t o.type e i z (tSize P e) hu hi hz hsize hby hzs rr.pos (c.hd (.top g)) es.length xs rr.own A es2.length cc news hnl hA' hcell h1 hlim (Nat.zero_le _)
  have hVb : ∀ b, (c.hd (.top g)).ownBlock = some b → E.M b ∧ ¬ c.S b ∧ ∀ k', k'.tag ≠ g → c.D k' → c.τ k' ≠ b := fun b hb' => by
    obtain ⟨q1, q2⟩ := rr.blk b hb'
    have := h.ok.hD _ q1
    rw [q2] at this
    exact ⟨this.1, this.2.2, fun k' hne hg' e => hne (by rw [h.ok.inj _ _ hg' q1 (by rw [e, q2])]; rfl)⟩
  have hsame : ∀ b, b < w.heap.size → (c.hd (.top g)).ownBlock ≠ some b → w'.heap[b]? = w.heap[b]? := fun b hb' hne => hgrow.block b hb' (Ne.symm hne)
  have hS : Same c.S w w' := fun b hS => hsame b (h.ok.hS b hS) fun e => (hVb b e).2.1 hS
  have below : E.Fr w' := ⟨hgrow.os.trans h.below.os, hgrow.tape.trans h.below.tape, hgrow.output.trans h.below.output, Nat.le_trans h.below.size hgrow.size, fun k hk' hm => (hsame k (Nat.lt_of_lt_of_le hk' h.below.size) fun e => hm (hVb k e).1).trans (h.below.block k hk' hm)⟩
  -- the block of the new row
  let b := (v'.ownBlock).getD 0
  let c' := c.lay g b v' e (v'.ownBlock.isSome = true)
  have hbb : v'.ownBlock.isSome = true → E.M b ∧ b < w'.heap.size ∧ ¬ c.S b ∧ ∀ k', k'.tag ≠ g → c.D k' → c.τ k' ≠ b := fun hs => by
    obtain ⟨b', hb'⟩ := Option.isSome_iff_exists.1 hs
    have hbe : b = b' := by simp [b, hb']
    rw [hbe]
    have hlt : b' < w'.heap.size := (hown'.lt b' hb').2
    rcases hblk with hq | hq
    · have := hVb b' (by rw [← hq, hb'])
      exact ⟨this.1, hlt, this.2.1, this.2.2⟩
    · rw [hb'] at hq
      injection hq with hq
      subst hq
      exact ⟨h.below.mine (Nat.le_refl _), hlt, fun hS => by have := h.ok.hS _ hS; omega, fun k' _ hg' e => by have := (h.ok.hD k' hg').2.1; omega⟩
  have hok : c'.Ok E.M w' := lay_ok h.ok hgrow.size (fun q => ⟨(hbb q).1, (hbb q).2.1, (hbb q).2.2.1⟩) fun q => (hbb q).2.2.2
  have hrep : HRep P w' c' g (.row e [] (es ++ es2)) := by
    refine ⟨xs ++ news, lay_top.2.2.1, rr.pos, fun l hl => (List.mem_append.1 hl).elim (rr.len l) (hk2 l), by rw [lay_top.2.1, List.length_append]; exact hown', fun b' hb' => ?_, fun i j pv hg => ?_, fun i j pv hg => ?_⟩
    · rw [lay_top.2.1] at hb'
      exact ⟨lay_top.2.2.2.2 (by rw [hb']; rfl), by rw [lay_top.1]; simp [b, hb']⟩
    · rcases append_get rr.len hk2 rr.own.1 (news := news) hg with ⟨q1, q2⟩ | ⟨i', _, q1, q2⟩
      · rw [q2]; exact rr.one i j pv q1
      · rw [q2]
        have hlt := getE_lt hk2 q1
        have := idx_lt hlt.1 hlt.2
        exact h1 _ (by rw [List.getD_eq_getElem?_getD, List.getElem?_eq_getElem (by omega)]; exact List.getElem_mem _)
    · show RF w' c.S pv _
      rcases append_get rr.len hk2 rr.own.1 (news := news) hg with ⟨q1, q2⟩ | ⟨i', _, q1, q2⟩
      · rw [q2]; exact (hRF i j pv q1).same hS fun _ h => h
      · rw [q2]; exact (hrf i' j pv q1).same hS fun _ h => h
  have hrv : RV P w' c' (.row (.top g) e) v' := by
    obtain ⟨xs', r'⟩ := hrep
    have := RV.row (P := P) (w := w') (c := c') (.top g) e r'.ty r'.hd_one
    rwa [show c'.hd (.top g) = v' from lay_top.2.1] at this
  exact ⟨v', w', c', hexec _ _ hrun, below, hok, hS, fun _ => Iff.rfl, fun k hk => lay_agree hk, fun k hD hx => ⟨hsame _ (h.ok.hD k hD).2.1 fun e => (hVb _ e).2.2 k hx hD rfl, (lay_D hx).2 hD⟩, hrep, hrv⟩
theorem cut_do {o : Oper} {t e g n : Nat} {x y : Operand} {J : List (Nat × Nat)} {es : List (List PV)} (ho : o.op = .slice t x none (some y) none) (ht : tElem P t = some e) (hinfo : (P.info? e).isSome = true) (hg : g < PIN)
    (hx : pev σ x = .row (.top g) e) (hy : pidx (pev σ y) = some n) (hr : σ.hget g = some (.row e J es)) (hn : n ≤ es.length) (h : Inv P E S0 N σ a w c) (hd : ∀ k, o.dst = some k → k < N) :
    DoesI P E o a w c g e (.row e J (es.take n)) := by
  have rx := h.ev x
  rw [hx] at rx
  obtain ⟨k, ey⟩ := int_of_pidx (h.ev y) hy
  have hX : a.eval x = c.hd (.top g) := by
    generalize a.eval x = X at rx
    cases rx with
    | free _ _ hf => cases hf
    | row => rfl
  obtain ⟨xs, r⟩ := h.objs g _ hr
  have hu := tElem_some ht
  have hlen : (es.take n).length = n := by simp; omega
  -- the run
  have run : ∀ (A : Option Addr) (m cc : Nat), n ≤ m → m ≤ cc → (Instr.sliceAt t (.slice A m cc) none (some (.int k n)) none).run P w = .ok (.slice (if cc = 0 then A else A.map (·.add (0 * tSize P e))) (n - 0) (cc - 0)) w := by
    intro A m cc h2 h3
    have bnd : (Instr.sliceBounds true m cc none (some (.int k n)) none).run P w = .ok (0, n, cc) w := by
      have := run_sliceBound (P := P) (w := w) k (n : Int) cc .sliceAcap (by omega) (by omega)
      simp [Instr.sliceBounds, this]
    simp only [Instr.sliceAt, Instr.slice, Sem.run_bind, run_underlying hu, Result.andThen_ok, bnd, run_sizeOf (Option.isSome_iff_exists.1 hinfo), Sem.run_pure]
  have hexec : ∀ v, (Instr.sliceAt t (a.eval x) none (some (.int k n)) none).run P w = .ok v w → (execOp a.eval o).run P w = .ok (.value v) w := by
    intro v hrun
    unfold execOp
    simp only [ho, Sem.run_bind, Sem.run_pure, Option.map_none, Option.map_some, ey, hrun, Result.andThen_ok]
  have fin : ∀ v', (execOp a.eval o).run P w = .ok (.value v') w → w.ownsRow 0 e (tSize P e) v' n (xs.take (n * tSize P e)) → (∀ b, v'.ownBlock = some b → c.D (.top g) ∧ c.τ (.top g) = b) →
      DoesI P E o a w c g e (.row e J (es.take n)) := by
    intro v' hrun hown hblk
    let c' : Ctx := ⟨c.S, c.τ, fun k => if k = .top g then v' else c.hd k, c.ty, c.D⟩
    have hhd : c'.hd (.top g) = v' := by simp [c']
    have hag : ∀ k, k ≠ .top g → Agree c c' k := fun k hk => ⟨rfl, by simp [c', hk], rfl⟩
    have hxs : ∀ i j pv, getE (es.take n) i j = some pv → (xs.take (n * tSize P e)).getD (i * tSize P e + j) undef = xs.getD (i * tSize P e + j) undef := by
      intro i j pv hg
      obtain ⟨q1, q2⟩ := take_getE hg
      rw [take_getD _ _ _ (idx_lt q1 (getE_lt r.len q2).2)]
    have hrep : HRep P w c' g (.row e J (es.take n)) := by
      refine ⟨xs.take (n * tSize P e), r.ty, r.pos, fun l hl => r.len l (List.mem_of_mem_take hl), by rw [hhd, hlen]; exact hown, fun b hb => by rw [hhd] at hb; exact hblk b hb, fun i j pv hg => by rw [hxs i j pv hg]; exact r.one i j pv (take_getE hg).2, fun i j pv hgE => ?_⟩
      rw [hxs i j pv hgE]
      have hc := r.rep i j pv (take_getE hgE).2
      unfold CellRep at hc ⊢
      split at hc
      · exact hc
      · obtain ⟨h1, es', xs', h2, r'⟩ := hc
        exact ⟨h1.trans (hag (.sub g i j) (by simp)).2.1.symm, es', xs', h2, RowRep.retag (c := c) (c' := c') rfl (hag (.sub g i j) (by simp)).2.1 rfl (fun h => h) (fun _ _ _ _ _ q => q) r'⟩
    have hrv : RV P w c' (.row (.top g) e) v' := by
      obtain ⟨xs', r'⟩ := hrep
      have := RV.row (P := P) (w := w) (c := c') (.top g) e r'.ty r'.hd_one
      rwa [hhd] at this
    exact ⟨v', w, c', hrun, h.below, ⟨h.ok.hS, h.ok.hD, h.ok.inj⟩, fun _ _ => rfl, fun _ => Iff.rfl, fun k hk => hag k (by rintro rfl; exact hk rfl), fun k hD _ => ⟨rfl, hD⟩, hrep, hrv⟩
  rcases r.own.2 with ⟨h0, hz⟩ | ⟨g2, cap, cur, h0, hb2, hg2, hnc, hcm, hcs, htake⟩
  · have hn0 : n = 0 := by omega
    subst hn0
    have hrun := hexec _ (by rw [hX, h0]; exact run none 0 0 (Nat.le_refl _) (Nat.le_refl _))
    simp only [if_true, Nat.sub_self] at hrun
    exact fin _ hrun (by simpa using World.ownsRow_nil w 0 e (tSize P e)) fun b hb => by simp [Value.ownBlock] at hb
  · have hrun := hexec _ (by rw [hX, h0]; exact run (some ⟨g2, 0, none⟩) es.length cap hn hnc)
    have hadd : (if cap = 0 then (some ⟨g2, 0, none⟩ : Option Addr) else (some ⟨g2, 0, none⟩ : Option Addr).map (·.add (0 * tSize P e))) = some ⟨g2, 0, none⟩ := by
      split <;> simp [add_lit]
    rw [hadd] at hrun
    simp only [Nat.sub_zero] at hrun
    refine fin _ hrun ⟨?_, .inr ⟨g2, cap, cur, rfl, hb2, hg2, by omega, hcm, hcs, ?_⟩⟩ fun b hb => r.blk b (by rw [h0]; exact hb)
    · rw [List.length_take, r.own.1]
      have := Nat.mul_le_mul_right (tSize P e) hn
      omega
    · rw [← htake, List.take_take]
      have := Nat.mul_le_mul_right (tSize P e) hn
      congr 1
      omega

/-! ### another name -/
/-- The row's name is d from here on. -/
theorem renamed {o : Oper} {g d e : Nat} {ob : HO} (hgd : d ≠ g) (hdp : d < PIN) (hgp : g < PIN) (h : Inv P E S0 N σ a w c) (hcl : Clean [d] σ) (hd : ∀ k, o.dst = some k → k < N) {eR : Nat} {J : List (Nat × Nat)} {es : List (List PV)} (hob : ob = .row eR J es) (hdo : DoesI P E o a w c g e ob)
    (next : Act → World → Prop) (Q : Exit → Act → World → Prop) (hn : ∀ a' w' c', Inv P E S0 N (σ.act o.dst ⟨[g], [(d, ob)], .row (.top d) e⟩) a' w' c' → next a' w') : o.wp P a w next Q := by
  obtain ⟨v, w', c1, hrun, below, hok, hS, hSS, hag, hkeep, hrep, hrv⟩ := hdo
  let c2 : Ctx := ⟨c1.S, fun k => if k.tag = d then c1.τ (k.retag g) else if k.tag = g then c.τ k else c1.τ k, fun k => if k.tag = d then c1.hd (k.retag g) else if k.tag = g then c.hd k else c1.hd k,
    fun k => if k.tag = d then c1.ty (k.retag g) else if k.tag = g then c.ty k else c1.ty k, fun k => if k.tag = d then c1.D (k.retag g) else if k.tag = g then False else c1.D k⟩
  have atd : ∀ k : Key, k.tag = d → c2.τ k = c1.τ (k.retag g) ∧ c2.hd k = c1.hd (k.retag g) ∧ c2.ty k = c1.ty (k.retag g) ∧ (c2.D k ↔ c1.D (k.retag g)) := fun k hk => by simp [c2, hk]
  have off : ∀ k : Key, k.tag ≠ d → Agree c c2 k := fun k hk => by
    by_cases hg : k.tag = g
    · simp [Agree, c2, hg, Ne.symm hgd]
    · obtain ⟨q1, q2, q3⟩ := hag k hg
      simp [Agree, c2, hk, hg, q1, q2, q3]
  have Dof : ∀ k : Key, k.tag ≠ d → (c2.D k ↔ k.tag ≠ g ∧ c1.D k) := fun k hk => by
    by_cases hg : k.tag = g
    · simp [c2, hg, Ne.symm hgd]
    · simp [c2, hk, hg]
  have phi : ∀ k, c2.D k → ∃ k0, c1.D k0 ∧ c2.τ k = c1.τ k0 ∧ ((k.tag = d ∧ k0 = k.retag g) ∨ (k.tag ≠ d ∧ k.tag ≠ g ∧ k0 = k)) := fun k hk => by
    by_cases hkd : k.tag = d
    · obtain ⟨q1, _, _, q4⟩ := atd k hkd
      exact ⟨_, q4.1 hk, q1, .inl ⟨hkd, rfl⟩⟩
    · obtain ⟨q1, q2⟩ := (Dof k hkd).1 hk
      exact ⟨k, q2, by simp [c2, hkd, q1], .inr ⟨hkd, q1, rfl⟩⟩
  have ok2 : c2.Ok E.M w' := by
    refine ⟨hok.hS, fun k hk => ?_, fun k k' hk hk' he => ?_⟩
    · obtain ⟨k0, q1, q2, _⟩ := phi k hk
      rw [q2]; exact hok.hD k0 q1
    · obtain ⟨k0, q1, q2, q3⟩ := phi k hk
      obtain ⟨k1, p1, p2, p3⟩ := phi k' hk'
      rw [q2, p2] at he
      have e0 := hok.inj _ _ q1 p1 he
      rcases q3 with ⟨a1, rfl⟩ | ⟨a1, a2, rfl⟩ <;> rcases p3 with ⟨b1, rfl⟩ | ⟨b1, b2, rfl⟩
      · exact retag_inj e0 (by rw [a1, b1])
      · exact absurd (by rw [← e0, retag_tag]) b2
      · exact absurd (by rw [e0, retag_tag]) a2
      · exact e0
  have hS2 : ∀ b, c.S b → c2.S b := fun b hb => (hSS b).2 hb
  have av : ∀ pv : PV, Avoid [d] pv = true → pv.has (ofTag d) = false := fun pv hpv => by simpa [Avoid] using hpv
  have rv2 : RV P w' c2 (.row (.top d) e) v := by
    generalize hX : PV.row (.top g) e = X at hrv
    cases hrv with
    | free _ _ hf => subst hX; cases hf
    | row k e' he h1 =>
      injection hX with q1 q2
      subst q1 q2
      obtain ⟨q1, q2, q3, _⟩ := atd (.top d) rfl
      have := RV.row (P := P) (w := w') (c := c2) (.top d) e (q3.trans he) (by rw [q2]; exact h1)
      rwa [q2] at this
    | _ => cases hX
  have hrepd : HRep P w' c2 d ob := by
    subst hob
    obtain ⟨xs, r⟩ := hrep
    obtain ⟨q1, q2, q3, q4⟩ := atd (.top d) rfl
    refine ⟨xs, r.retag (k' := .top d) q1 q2 q3 q4.2 fun i j pv v hgE hc => ?_⟩
    unfold CellRep at hc ⊢
    split at hc
    · exact hc
    · obtain ⟨h1, es', xs', rfl, r'⟩ := hc
      obtain ⟨p1, p2, p3, p4⟩ := atd (.sub d i j) rfl
      exact ⟨h1.trans p2.symm, es', xs', rfl, r'.retag (k' := .sub d i j) p1 p2 p3 p4.2 fun _ _ _ _ _ q => q⟩
  have hinv : Inv P E S0 N ⟨σ.s, [(d, ob)] ++ σ.h.delL [g]⟩ a w' c2 := by
    refine ⟨below, ok2, fun b hb => hS2 b (h.sub b hb), fun b hb => h.sup b ((hSS b).1 hb), fun i => ?_, fun g' o' hg' => ?_, fun k hk => ?_, h.small, h.size, h.defers⟩
    · exact (h.slots i).keep (p := ofTag d) hS hS2 (fun k hk => off k (ofTag_ff.1 hk)) (av _ (hcl.1 i))
    · have e1 : (⟨σ.s, [(d, ob)] ++ σ.h.delL [g]⟩ : St).hget g' = HP.get ([(d, ob)] ++ σ.h.delL [g]) g' := rfl
      rw [e1, append_hget, delL_get] at hg'
      by_cases hd' : g' = d
      · subst hd'
        simp only [HP.get, Nat.beq_refl, if_true, Option.some.injEq] at hg'
        subst hg'; exact hrepd
      · simp only [HP.get, beq_ff hd', Bool.false_eq_true, if_false, List.mem_singleton] at hg'
        split at hg'
        · cases hg'
        rename_i hne
        have r := h.objs g' o' hg'
        have hk : ∀ k : Key, k.tag = g' → ofTag d k = false := fun k hk => ofTag_ff.2 (by rw [hk]; exact hd')
        have hD : ∀ k : Key, k.tag = g' → c.D k → w'.heap[c.τ k]? = w.heap[c.τ k]? ∧ c2.D k := fun k hk hDk => by
          obtain ⟨q1, q2⟩ := hkeep k hDk (by rw [hk]; exact hne)
          exact ⟨q1, (Dof k (by rw [hk]; exact hd')).2 ⟨by rw [hk]; exact hne, q2⟩⟩
        have := r.keepKill (c' := c2) (p := ofTag d) hS hS2 (fun k hk => off k (ofTag_ff.1 hk)) hk hD
        have e2 : o'.kill (ofTag d) = o' := by
          have := (hcl.2 g' o' hg').2
          cases o' with
          | box cs =>
            simp only [HO.kill]
            congr 1
            have : ∀ l : List PV, l.all (Avoid [d]) = true → PV.killL (ofTag d) l = l := by
              intro l
              induction l with
              | nil => intro _; rfl
              | cons x l ih => intro hl; simp only [List.all_cons, Bool.and_eq_true] at hl; simp only [PV.killL, kill_free _ x (av x hl.1), ih hl.2]
            exact this cs (by assumption)
          | _ => rfl
        rwa [e2] at this
    · obtain ⟨q1, q2, q3⟩ := h.pin k hk
      obtain ⟨p1, p2, p3⟩ := off (.top k) (show k ≠ d by omega)
      exact ⟨p1.trans q1, p2.trans q2, p3.trans q3⟩
  unfold Oper.wp
  rw [hrun, Oper.upon_value]
  exact hn _ _ c2 (hinv.put o.dst hd rv2)
end
section
variable {G : Prg} {ops : Array Oper} {k : Nat} {σ : St} {K : St → Prop}
/-- append, where the order is drawn: the row's name is then g2 -/
theorem evd_app {α : Type} {c : α → List PV} {D : DD} {m : Nat} {l l2 l' : List α} {x : PV} {g g2 e sz d : Nat} (hm : Nat.ble m k = false) (h : appAt G ops k σ = some (.row (.top g) e, x, e, sz, d)) (ha : σ.h.get g = some (.row e [] (l.map c))) (hx : x.elems σ.h = some (l2.map c)) (hf : x.flat σ.h = true) (hs : ∀ y, (c y).length = sz)
    (hl : app l l2 = some l') (hg : (Nat.blt g PIN && Nat.blt g2 PIN && !Nat.beq g2 g) = true) (hF : inL [g2] (D.F k) = true) (hT : inL [g, g2] (D.T k) = true) (hav : avB ops k (D.av k) σ = true)
    (hfv : (Avoid (D.fv k) (.row (.top g2) e) && !((D.fv k).any fun y => Nat.beq y g2) && (HO.row e [] (l'.map c)).avoid (D.fv k)) = true)
    (next : EVD G ops D m (k + 1) (setO ⟨σ.s, (g2, .row e [] (l'.map c)) :: σ.h.delL [g]⟩ (dstAt ops k) (.row (.top g2) e)) K) : EVD G ops D m k σ K := by
  obtain ⟨h1, rfl⟩ := appS hl
  simp only [Bool.and_eq_true, Bool.not_eq_true'] at hg
  obtain ⟨⟨hgp, hg2p⟩, hne⟩ := hg
  have hne' : g2 ≠ g := fun q => by rw [q, Nat.beq_refl] at hne; cases hne
  unfold appAt at h
  split at h
  case h_2 => cases h
  rename_i o ho
  split at h
  case h_2 => cases h
  rename_i cl hop
  split at h
  case h_2 => cases h
  rename_i hcal
  split at h
  case h_2 => cases h
  rename_i a' x' t t' hargs hty
  split at h
  case isFalse => cases h
  rename_i ht
  split at h
  case h_2 => cases h
  rename_i e' he
  split at h
  case isFalse => cases h
  rename_i hrow
  simp only [Option.some.injEq, Prod.mk.injEq] at h
  obtain ⟨hpa, rfl, rfl, rfl, rfl⟩ := h
  subst ht
  obtain ⟨q1, q2⟩ := onAt_spec ho
  have hop' : o.op = .call { callee := .builtin .append, args := #[a', x'], argTypes := #[t, t] } := by
    rw [hop]
    obtain ⟨callee, args, argTypes⟩ := cl
    simp only at hcal hargs hty
    subst hcal
    rw [show args = #[a', x'] from Array.toList_inj.1 hargs, show argTypes = #[t, t] from Array.toList_inj.1 hty]
  rw [dstAt_eq q1] at next
  have hds : DStep G.P ops o (D.rd k) (D.F k) σ ⟨[g], [(g2, .row e' [] ((l ++ l2).map c))], .row (.top g2) e'⟩ := fun T τ lc => by
    obtain ⟨h1', h2'⟩ := local_pev lc
    have h2' := h2' (by first | rw [hop']; rfl | rw [hop]; rfl)
    have ma : (a' : Operand) ∈ o.op.operands.toList := by rw [hop']; simp [Op.operands, Call.operands]
    have mx : (x' : Operand) ∈ o.op.operands.toList := by rw [hop']; simp [Op.operands, Call.operands]
    have hgT : g ∉ T := fun hm => by
      have := List.all_eq_true.1 (h2' _ ma) g hm
      rw [hpa] at this
      simp [PV.has, ofTag, Key.tag] at this
    have hgτ : τ.hget g = some (.row e' [] (l.map c)) := (lc.heap g hgT).symm.trans ha
    refine .inr ⟨by rw [local_guard lc]; exact q2, fun E S0 N a w cx hi hcl hdd next Q hn => ?_⟩
    have hcl2 : Clean [g2] τ := by
      have hgF := inL_spec hF g2 (by simp)
      have sub : ∀ v : PV, Avoid (D.F k) v = true → Avoid [g2] v = true := fun v hv => by
        have := List.all_eq_true.1 hv g2 hgF
        simp [Avoid] at this ⊢
        exact this
      refine ⟨fun i => sub _ (hcl.1 i), fun g' o' hg' => ?_⟩
      obtain ⟨p1, p2⟩ := hcl.2 g' o' hg'
      refine ⟨fun hm => p1 (by simp at hm; subst hm; exact hgF), ?_⟩
      cases o' with
      | box cs =>
        simp only [HO.avoid] at p2 ⊢
        exact List.all_eq_true.2 fun v hv => sub v (List.all_eq_true.1 p2 v hv)
      | _ => rfl
    have hdo := append_do (E := E) (S0 := S0) (N := N) (a := a) (w := w) (c := cx) hop' he hrow (by rw [h1' _ ma]; exact hpa) hgτ (by simpa using hgp) (by rw [h1' _ mx, ← elems_ag lc.heap (h2' _ mx)]; exact hx) (by rw [h1' _ mx, ← flat_ag lc.heap (h2' _ mx)]; exact hf) (fun r hr => by
      obtain ⟨y, _, rfl⟩ := List.mem_map.1 hr
      exact hs y) (by simpa using h1) hi
    rw [← List.map_append] at hdo
    exact renamed hne' (by simpa using hg2p) (by simpa using hgp) hi hcl2 hdd rfl hdo next Q hn
  simp only [Bool.and_eq_true] at hfv
  refine evd_one hm q1 ⟨[g], [(g2, _)], _⟩ hds (avB_spec q1 hav) hT (by simp only [List.all_cons, List.all_nil, Bool.and_true, Bool.and_eq_true]; exact ⟨hfv.1.1, hfv.1.2, hfv.2⟩) ?_
  exact next
/-- cutting, where the order is drawn -/
theorem evd_cut {α : Type} {c : α → List PV} {D : DD} {m : Nat} {l l' : List α} {e g g2 : Nat} {J : List (Nat × Nat)} {k2 : IntKind} {hi : Int} (hm : Nat.ble m k = false) (h : cutAt G ops k σ = some (.row (.top g) e, e, .lit (.int k2 hi))) (hgr : σ.h.get g = some (.row e J (l.map c))) (hl : slc l 0 hi = some l')
    (hg : (Nat.blt g PIN && Nat.blt g2 PIN && !Nat.beq g2 g) = true) (hF : inL [g2] (D.F k) = true) (hT : inL [g, g2] (D.T k) = true) (hav : avB ops k (D.av k) σ = true)
    (hfv : (Avoid (D.fv k) (.row (.top g2) e) && !((D.fv k).any fun y => Nat.beq y g2) && (HO.row e J (l'.map c)).avoid (D.fv k)) = true)
    (next : EVD G ops D m (k + 1) (setO ⟨σ.s, (g2, .row e J (l'.map c)) :: σ.h.delL [g]⟩ (dstAt ops k) (.row (.top g2) e)) K) : EVD G ops D m k σ K := by
  obtain ⟨⟨h1, h2, h3⟩, rfl⟩ := slcS hl
  simp only [Bool.and_eq_true, Bool.not_eq_true'] at hg
  obtain ⟨⟨hgp, hg2p⟩, hne⟩ := hg
  have hne' : g2 ≠ g := fun q => by rw [q, Nat.beq_refl] at hne; cases hne
  unfold cutAt at h
  split at h
  case h_2 => cases h
  rename_i o ho
  split at h
  case h_2 => cases h
  rename_i t x y hop
  split at h
  case h_2 => cases h
  rename_i e' he
  split at h
  case isFalse => cases h
  rename_i hinf
  simp only [Option.some.injEq, Prod.mk.injEq] at h
  obtain ⟨hx, rfl, hy⟩ := h
  obtain ⟨q1, q2⟩ := onAt_spec ho
  rw [dstAt_eq q1] at next
  have hds : DStep G.P ops o (D.rd k) (D.F k) σ ⟨[g], [(g2, .row e' J (((l.take hi.toNat).drop (0 : Int).toNat).map c))], .row (.top g2) e'⟩ := fun T τ lc => by
    obtain ⟨h1', h2'⟩ := local_pev lc
    have h2' := h2' (by first | rw [hop']; rfl | rw [hop]; rfl)
    have ma : (x : Operand) ∈ o.op.operands.toList := by rw [hop]; simp [Op.operands]
    have my : (y : Operand) ∈ o.op.operands.toList := by rw [hop]; simp [Op.operands]
    have hgT : g ∉ T := fun hm => by
      have := List.all_eq_true.1 (h2' _ ma) g hm
      rw [hx] at this
      simp [PV.has, ofTag, Key.tag] at this
    have hgτ : τ.hget g = some (.row e' J (l.map c)) := (lc.heap g hgT).symm.trans hgr
    refine .inr ⟨by rw [local_guard lc]; exact q2, fun E S0 N a w cx hi' hcl hdd next Q hn => ?_⟩
    have hcl2 : Clean [g2] τ := by
      have hgF := inL_spec hF g2 (by simp)
      have sub : ∀ v : PV, Avoid (D.F k) v = true → Avoid [g2] v = true := fun v hv => by
        have := List.all_eq_true.1 hv g2 hgF
        simp [Avoid] at this ⊢
        exact this
      refine ⟨fun i => sub _ (hcl.1 i), fun g' o' hg' => ?_⟩
      obtain ⟨p1, p2⟩ := hcl.2 g' o' hg'
      refine ⟨fun hm => p1 (by simp at hm; subst hm; exact hgF), ?_⟩
      cases o' with
      | box cs =>
        simp only [HO.avoid] at p2 ⊢
        exact List.all_eq_true.2 fun v hv => sub v (List.all_eq_true.1 p2 v hv)
      | _ => rfl
    have hdo := cut_do (E := E) (S0 := S0) (N := N) (a := a) (w := w) (c := cx) (n := hi.toNat) hop he hinf (by simpa using hgp) (by rw [h1' _ ma]; exact hx) (by rw [h1' _ my, hy]; exact pidx_of h2) hgτ (by simp; omega) hi' hdd
    rw [← List.map_take] at hdo
    have e0 : (l.take hi.toNat).drop (0 : Int).toNat = l.take hi.toNat := by simp
    rw [e0] at hn
    exact renamed hne' (by simpa using hg2p) (by simpa using hgp) hi' hcl2 hdd rfl hdo next Q hn
  simp only [Bool.and_eq_true] at hfv
  refine evd_one hm q1 ⟨[g], [(g2, _)], _⟩ hds (avB_spec q1 hav) hT (by simp only [List.all_cons, List.all_nil, Bool.and_true, Bool.and_eq_true]; exact ⟨hfv.1.1, hfv.1.2, hfv.2⟩) ?_
  exact next
/-- a slice written out to be one's own, where the order is drawn -/
theorem evd_build {D : DD} {m e d : Nat} {es : List (List PV)} (hm : Nat.ble m k = false) (h : bldAt G ops k σ = some (e, es, d)) (hF : inL [d] (D.F k) = true) (hT : inL [d] (D.T k) = true) (hav : avB ops k (D.av k) σ = true)
    (hfv : (Avoid (D.fv k) (.row (.top d) e) && !((D.fv k).any fun y => Nat.beq y d) && (HO.row e [] es).avoid (D.fv k)) = true)
    (next : EVD G ops D m (k + 1) (setO ⟨σ.s, (d, .row e [] es) :: σ.h⟩ (dstAt ops k) (.row (.top d) e)) K) : EVD G ops D m k σ K := by
  unfold bldAt at h
  split at h
  case h_2 => cases h
  rename_i o ho
  split at h
  case h_2 => cases h
  rename_i t len parts hop
  split at h
  case h_2 => cases h
  rename_i e' he
  split at h
  case isFalse => cases h
  rename_i hc
  simp only [Bool.and_eq_true, decide_eq_true_eq] at hc
  obtain ⟨⟨⟨⟨c1, c2⟩, c3⟩, c4⟩, c5⟩ := hc
  simp only [Option.some.injEq, Prod.mk.injEq] at h
  obtain ⟨rfl, rfl, rfl⟩ := h
  obtain ⟨q1, q2⟩ := onAt_spec ho
  rw [dstAt_eq q1] at next
  have hds : DStep G.P ops o (D.rd k) (D.F k) σ ⟨[], [(o.dst.getD 0, .row e' [] (parts.toList.map fun p => (pev σ p.2).cells))], .row (.top (o.dst.getD 0)) e'⟩ := fun T τ lc => by
    obtain ⟨h1', _⟩ := local_pev lc
    have mp : ∀ p ∈ parts.toList, pev τ p.2 = pev σ p.2 := fun p hp => h1' _ (by
      rw [hop]
      simp only [Op.operands]
      exact List.mem_map.2 ⟨p, hp, rfl⟩)
    refine .inr ⟨by rw [local_guard lc]; exact q2, fun E S0 N a w cx hi hcl hdd next Q hn => ?_⟩
    have hall : (parts.toList.all fun p => (pev τ p.2).cells.length == tSize G.P e' && (pev τ p.2).cells.all PV.still) = true := by
      rw [List.all_eq_true] at c5 ⊢
      intro p hp
      rw [mp p hp]; exact c5 p hp
    have := buildO_ok hop he c1 (by simpa using c2) (Nat.le_of_ble_eq_true c3) c4 hall hi hdd
    have e1 : (parts.toList.map fun p => (pev τ p.2).cells) = parts.toList.map fun p => (pev σ p.2).cells := List.map_congr_left fun p hp => by rw [mp p hp]
    rw [e1] at this
    exact this next Q fun a' w' c' hi' => hn a' w' c' (hi'.alike (alike_new (d := 0) (inL_spec hF _ (by simp)) hcl o.dst _ _))
  simp only [Bool.and_eq_true] at hfv
  refine evd_one hm q1 ⟨[], [(o.dst.getD 0, _)], _⟩ hds (avB_spec q1 hav) hT (by simp only [List.all_cons, List.all_nil, Bool.and_true, Bool.and_eq_true]; exact ⟨hfv.1.1, hfv.1.2, hfv.2⟩) ?_
  have ee : σ.act o.dst ⟨[], [(o.dst.getD 0, .row e' [] (parts.toList.map fun p => (pev σ p.2).cells))], .row (.top (o.dst.getD 0)) e'⟩ = setO ⟨σ.s, (o.dst.getD 0, .row e' [] (parts.toList.map fun p => (pev σ p.2).cells)) :: σ.h⟩ o.dst (.row (.top (o.dst.getD 0)) e') := by
    have : ∀ h : HP, h.delL [] = h := by
      intro h
      induction h with
      | nil => rfl
      | cons x h ih => obtain ⟨g, o⟩ := x; simp [HP.delL, ih]
    simp only [St.act, this, List.singleton_append]
  rw [ee]; exact next
end
end Go.VI
