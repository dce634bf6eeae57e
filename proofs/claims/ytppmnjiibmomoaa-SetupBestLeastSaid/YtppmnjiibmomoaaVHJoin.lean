/- Rows of rows of one's own: append. -/
import Derived.Test.YtppmnjiibmomoaaVHName
import Derived.Test.YtppmnjiibmomoaaVHBuild
set_option linter.unusedVariables false
set_option linter.unusedSimpArgs false
set_option linter.unusedSectionVars false
namespace Go.VI
open Go.RowKit

/-- g takes the rows of T behind its first n -/
def joinS (g T n : Nat) : Key → Key
  | .top q => .top q
  | .sub q i j => if q = g ∧ n ≤ i then .sub T (i - n) j else .sub q i j
def joinK (g T : Nat) (k : Key) : Bool := ofTag g k || ofTag T k
def Ctx.join (c : Ctx) (g T n b : Nat) (v : Value) (e : Nat) : Ctx :=
  ⟨c.S, fun k => if k = .top g then b else c.τ (joinS g T n k), fun k => if k = .top g then v else c.hd (joinS g T n k), fun k => if k = .top g then e else c.ty (joinS g T n k),
    fun k => if k = .top g then v.ownBlock.isSome = true else k.tag ≠ T ∧ c.D (joinS g T n k)⟩
theorem joinS_inj {g T n : Nat} {k k' : Key} (h1 : k.tag ≠ T) (h2 : k'.tag ≠ T) (h : joinS g T n k = joinS g T n k') : k = k' := by
  cases k with
  | top q => cases k' with
    | top q' => exact h
    | sub q' i' j' => simp only [joinS] at h; split at h <;> cases h
  | sub q i j => cases k' with
    | top q' => simp only [joinS] at h; split at h <;> cases h
    | sub q' i' j' =>
      simp only [joinS] at h
      simp only [Key.tag] at h1 h2
      split at h <;> split at h
      · rename_i a b; injection h with _ e1 e2; rw [a.1, b.1, e2, show i = i' from by omega]
      · injection h with e1; exact absurd e1.symm h2
      · injection h with e1; exact absurd e1 h1
      · exact h
theorem joinS_top {g T n : Nat} {k : Key} (h : joinS g T n k = .top g) : k = .top g := by
  cases k with
  | top q => exact h
  | sub q i j => simp only [joinS] at h; split at h <;> cases h
theorem joinS_other {g T n : Nat} {k : Key} (h : k.tag ≠ g) : joinS g T n k = k := by
  cases k with
  | top q => rfl
  | sub q i j => simp only [joinS]; rw [if_neg]; exact fun q => h q.1

section
variable {P : Program} {E : Ent} {S0 : Nat → Prop} {N : Nat} {σ : St} {a : Act} {w : World} {c : Ctx}
theorem appendJ_ok {o : Oper} {t e g T : Nat} {s x : Operand} {J : List (Nat × Nat)} {es es2 : List (List PV)} (ho : o.op = .call { callee := .builtin .append, args := #[s, x], argTypes := #[t, t] }) (ht : tElem P t = some e) (hrow : tRow P e = true)
    (hs : pev σ s = .row (.top g) e) (hx : pev σ x = .row (.top T) e) (hgR : σ.hget g = some (.row e J es)) (hgT : σ.hget T = some (.row e J es2)) (hne : T ≠ g) (hg : g < PIN) (hT : T < PIN) (hlim : es.length + es2.length ≤ LIM)
    (h : Inv P E S0 N σ a w c) (hd : ∀ k, o.dst = some k → k < N) : Does P E S0 N o a w (Res.put σ o.dst ⟨[joinK g T], [(g, .row e J (es ++ es2))], .row (.top g) e⟩) := by
  have rs := h.ev s
  have rx := h.ev x
  rw [hs] at rs
  rw [hx] at rx
  obtain ⟨i, z, hi, hz, hsz, hby, hzs, hsize⟩ := tRow_some hrow
  have hu := tElem_some ht
  have hV : a.eval s = c.hd (.top g) := by
    generalize a.eval s = X at rs
    cases rs with
    | free _ _ hf => cases hf
    | row => rfl
  have hX : a.eval x = c.hd (.top T) := by
    generalize a.eval x = X at rx
    cases rx with
    | free _ _ hf => cases hf
    | row => rfl
  have hexec : ∀ v' w', (Builtin.append_ #[t, t] o.type #[a.eval s, a.eval x]).run P w = .ok v' w' → (execOp a.eval o).run P w = .ok (.value v') w' := by
    intro v' w' hrun
    unfold execOp
    simp only [ho, resolve, invoke, builtin, Sem.run_bind, Sem.run_pure, Result.andThen_ok, List.map_toArray, List.map_cons, List.map_nil, hrun]
  obtain ⟨xs, rr⟩ := h.objs g _ hgR
  obtain ⟨xt, rt⟩ := h.objs T _ hgT
  have h1 : ∀ u ∈ xt, u.oneCell' = true := fun u hu => by
    obtain ⟨m, hm, rfl⟩ := List.getElem_of_mem hu
    have hl := rt.own.1
    have hk0 := rt.pos
    have q1 : m / tSize P e < es2.length := Nat.div_lt_of_lt_mul (by rw [Nat.mul_comm, ← hl]; exact hm)
    have q2 : m % tSize P e < tSize P e := Nat.mod_lt _ hk0
    have q3 := rt.len _ (List.getElem_mem q1)
    have q4 : getE es2 (m / tSize P e) (m % tSize P e) = some ((es2[m / tSize P e])[m % tSize P e]) := by unfold getE; simp [q1, q3, q2]
    have := rt.one _ _ _ q4
    rwa [Nat.mul_comm, Nat.div_add_mod, List.getD_eq_getElem?_getD, List.getElem?_eq_getElem hm] at this
  obtain ⟨A, cc, hXv, hA, hcell⟩ : ∃ A cc, c.hd (.top T) = .slice A es2.length cc ∧ (es2.length ≠ 0 → ∃ ad, A = some ad) ∧ (∀ ad, A = some ad → ∀ (j : Nat) u, xt[j]? = some u → w.cell? (ad.add j) = some u) := by
    rcases rt.own.2 with ⟨h0, hn⟩ | ⟨g2, cap, cur, h0, hb2, hg2, hnc, rest⟩
    · exact ⟨none, 0, by rw [h0, hn], fun q => absurd hn q, fun ad q => nomatch q⟩
    · have hob : (c.hd (.top T)).ownBlock = some g2 := by rw [h0]; rfl
      refine ⟨_, cap, h0, fun _ => ⟨_, rfl⟩, fun ad had j u hj => ?_⟩
      injection had with had
      subst had
      have := own_cells rt.own hob j (by have := len_of_get hj; rw [rt.own.1] at this; exact this)
      rw [this, List.getD_eq_getElem?_getD, hj]; rfl
  obtain ⟨v', w', hrun, hown', hgrow, hblk⟩ := run_append_any (P := P) 0 t o.type e i z (tSize P e) hu hi hz hsize hby hzs rr.pos (c.hd (.top g)) es.length xs rr.own A es2.length cc xt rt.own.1 hA hcell h1 hlim (Nat.zero_le _)
  rw [← hXv, ← hX, ← hV] at hrun
  have hVb : ∀ b, (c.hd (.top g)).ownBlock = some b → E.M b ∧ ¬ c.S b ∧ ∀ k', k' ≠ .top g → c.D k' → c.τ k' ≠ b := fun b hb' => by
    obtain ⟨q1, q2⟩ := rr.blk b hb'
    have := h.ok.hD _ q1
    rw [q2] at this
    exact ⟨this.1, this.2.2, fun k' hne hg' e => hne (by rw [h.ok.inj _ _ hg' q1 (by rw [e, q2])])⟩
  have hsame : ∀ b, b < w.heap.size → (c.hd (.top g)).ownBlock ≠ some b → w'.heap[b]? = w.heap[b]? := fun b hb' hne => hgrow.block b hb' (Ne.symm hne)
  have hS : Same c.S w w' := fun b hS => hsame b (h.ok.hS b hS) fun e => (hVb b e).2.1 hS
  have hDs : ∀ k, k ≠ .top g → c.D k → w'.heap[c.τ k]? = w.heap[c.τ k]? := fun k hk hD => hsame _ (h.ok.hD k hD).2.1 fun e => (hVb _ e).2.2 k hk hD rfl
  have below : E.Fr w' := ⟨hgrow.os.trans h.below.os, hgrow.tape.trans h.below.tape, hgrow.output.trans h.below.output, Nat.le_trans h.below.size hgrow.size, fun k hk' hm => (hsame k (Nat.lt_of_lt_of_le hk' h.below.size) fun e => hm (hVb k e).1).trans (h.below.block k hk' hm)⟩
  let b := (v'.ownBlock).getD 0
  let c' := c.join g T es.length b v' e
  have ctop : c'.τ (.top g) = b ∧ c'.hd (.top g) = v' ∧ c'.ty (.top g) = e ∧ (c'.D (.top g) ↔ v'.ownBlock.isSome = true) := by simp [c', Ctx.join]
  have coth : ∀ k, k ≠ .top g → c'.τ k = c.τ (joinS g T es.length k) ∧ c'.hd k = c.hd (joinS g T es.length k) ∧ c'.ty k = c.ty (joinS g T es.length k) ∧ (c'.D k ↔ k.tag ≠ T ∧ c.D (joinS g T es.length k)) := fun k hk => by simp [c', Ctx.join, hk]
  have hbb : v'.ownBlock.isSome = true → E.M b ∧ b < w'.heap.size ∧ ¬ c.S b ∧ ∀ k', k' ≠ .top g → c.D k' → c.τ k' ≠ b := fun hs => by
    obtain ⟨b', hb'⟩ := Option.isSome_iff_exists.1 hs
    have hbe : b = b' := by simp [b, hb']
    rw [hbe]
    have hlt : b' < w'.heap.size := (hown'.lt b' hb').2
    rcases hblk with hq | hq
    · have := hVb b' (by rw [← hq, hb'])
      exact ⟨this.1, hlt, this.2.1, this.2.2⟩
    · rw [hb'] at hq
      injection hq with hq
      subst hq
      exact ⟨h.below.mine (Nat.le_refl _), hlt, fun hS => by have := h.ok.hS _ hS; omega, fun k' _ hg' e => by have := (h.ok.hD k' hg').2.1; omega⟩
  have hok : c'.Ok E.M w' := by
    refine ⟨fun b hb => Nat.lt_of_lt_of_le (h.ok.hS b hb) hgrow.size, fun k hk => ?_, fun k k' hk hk' he => ?_⟩
    · by_cases q : k = .top g
      · subst q
        have := hbb (ctop.2.2.2.1 hk)
        rw [ctop.1]; exact ⟨this.1, this.2.1, this.2.2.1⟩
      · have hk0 := ((coth k q).2.2.2.1 hk).2
        rw [(coth k q).1]
        exact ⟨(h.ok.hD _ hk0).1, Nat.lt_of_lt_of_le (h.ok.hD _ hk0).2.1 hgrow.size, (h.ok.hD _ hk0).2.2⟩
    · by_cases q : k = .top g <;> by_cases q' : k' = .top g
      · rw [q, q']
      · subst q
        rw [ctop.1, (coth k' q').1] at he
        have hk0 := ((coth k' q').2.2.2.1 hk').2
        exact absurd he.symm ((hbb (ctop.2.2.2.1 hk)).2.2.2 _ (fun e => q' (joinS_top e)) hk0)
      · subst q'
        rw [ctop.1, (coth k q).1] at he
        have hk0 := ((coth k q).2.2.2.1 hk).2
        exact absurd he ((hbb (ctop.2.2.2.1 hk')).2.2.2 _ (fun e => q (joinS_top e)) hk0)
      · rw [(coth k q).1, (coth k' q').1] at he
        have hk0 := (coth k q).2.2.2.1 hk
        have hk0' := (coth k' q').2.2.2.1 hk'
        exact joinS_inj hk0.1 hk0'.1 (h.ok.inj _ _ hk0.2 hk0'.2 he)
  have hrep : HRep P w' c' g (.row e J (es ++ es2)) := by
    refine ⟨xs ++ xt, ctop.2.2.1, rr.pos, fun l hl => (List.mem_append.1 hl).elim (rr.len l) (rt.len l), by rw [ctop.2.1, List.length_append]; exact hown', fun b' hb' => ?_, fun i j pv hg => ?_, fun i j pv hg => ?_⟩
    · rw [ctop.2.1] at hb'
      exact ⟨ctop.2.2.2.2 (by rw [hb']; rfl), by rw [ctop.1]; simp [b, hb']⟩
    · rcases append_get rr.len rt.len rr.own.1 (news := xt) hg with ⟨q1, q2⟩ | ⟨i', _, q1, q2⟩
      · rw [q2]; exact rr.one i j pv q1
      · rw [q2]; exact rt.one i' j pv q1
    · rcases append_get rr.len rt.len rr.own.1 (news := xt) hg with ⟨q1, q2⟩ | ⟨i', hii, q1, q2⟩
      · rw [q2]
        have hlt := (getE_lt rr.len q1).1
        have := rr.rep i j pv q1
        unfold CellRep at this ⊢
        split at this
        · exact this.same hS fun _ h => h
        · rename_i e' hJ
          obtain ⟨p1, es', xs', p2, p3⟩ := this
          have hsk : joinS g T es.length (.sub g i j) = .sub g i j := by simp only [joinS]; rw [if_neg]; omega
          have hc := coth (.sub g i j) (by simp)
          rw [hsk] at hc
          exact ⟨p1.trans hc.2.1.symm, es', xs', p2, p3.keep ⟨hc.1, hc.2.1, hc.2.2.1⟩ (fun hD => ⟨hDs _ (by simp) hD, hc.2.2.2.2 ⟨fun q => hne q.symm, hD⟩⟩) fun _ _ _ _ r => r.same hS fun _ h => h⟩
      · rw [q2]
        have := rt.rep i' j pv q1
        unfold CellRep at this ⊢
        split at this
        · exact this.same hS fun _ h => h
        · rename_i e' hJ
          obtain ⟨p1, es', xs', p2, p3⟩ := this
          subst hii
          have hsk : joinS g T es.length (.sub g (es.length + i') j) = .sub T i' j := by simp only [joinS]; rw [if_pos ⟨trivial, by omega⟩]; congr 1; omega
          have hc := coth (.sub g (es.length + i') j) (by simp)
          rw [hsk] at hc
          refine ⟨p1.trans hc.2.1.symm, es', xs', p2, ?_⟩
          have k1 : RowRep P w' c (.sub T i' j) e' es' (fun _ _ pv v => RF w' c.S pv v) xs' := RowRep.keep (c := c) (c' := c) (Agree.refl c _) (fun q => ⟨hDs _ (by simp) q, q⟩) (fun _ _ _ _ q => RF.same hS (fun _ h => h) q) p3
          exact RowRep.retag (c := c) (c' := c') hc.1 hc.2.1 hc.2.2.1 (fun q => hc.2.2.2.2 ⟨fun q => hne q.symm, q⟩) (fun _ _ _ _ _ q => q) k1
  have hrv : RV P w' c' (.row (.top g) e) v' := by
    obtain ⟨xs', r'⟩ := hrep
    have := RV.row (P := P) (w := w') (c := c') (.top g) e r'.ty r'.hd_one
    rwa [ctop.2.1] at this
  refine does_mut hd (.inl (hexec _ _ hrun)) (c' := c') ?_ hrv
  have notp : ∀ k, joinK g T k = false → k.tag ≠ g ∧ k.tag ≠ T := fun k hk => by
    simp only [joinK, Bool.or_eq_false_iff] at hk
    exact ⟨ofTag_ff.1 hk.1, ofTag_ff.1 hk.2⟩
  have isp : ∀ k, joinK g T k = true → k.tag = g ∨ k.tag = T := fun k hk => by
    simp only [joinK, Bool.or_eq_true] at hk
    exact hk.imp ofTag_iff.1 ofTag_iff.1
  have nt : ∀ k : Key, k.tag ≠ g → k ≠ .top g := fun k hk q => hk (by rw [q]; rfl)
  refine h.step (c' := c') (joinK g T) (fun q => q = g ∨ q = T) below hok hS (fun _ h => h) h.sup (fun k hk hp => ?_) (fun k hk => ?_) (fun k hD hx => ?_) (fun k hk => isp k hk) rfl (fun g' o hx hg' => ?_) (fun g' o hx hg' => ?_)
  · rcases isp k hp with q | q <;> omega
  · have hc := coth k (nt k (notp k hk).1)
    rw [joinS_other (notp k hk).1] at hc
    exact ⟨hc.1, hc.2.1, hc.2.2.1⟩
  · have hkg : k.tag ≠ g := fun q => hx (.inl q)
    have hc := coth k (nt k hkg)
    rw [joinS_other hkg] at hc
    exact ⟨hDs k (nt k hkg) hD, hc.2.2.2.2 ⟨fun q => hx (.inr q), hD⟩⟩
  · simp only [Res.base, List.foldl_cons, List.foldl_nil, hget_put] at hg'
    rwa [if_neg (fun q => hx (.inl q))] at hg'
  · simp only [Res.base, List.foldl_cons, List.foldl_nil, hget_put] at hg'
    split at hg'
    · rename_i q
      injection hg' with hg'
      subst hg' q
      exact hrep
    · rename_i q
      rcases hx with hx | hx
      · exact absurd hx q
      · subst hx
        rw [hget_kill] at hg'
        have : joinK g g' (.top g') = true := by simp [joinK, ofTag, Key.tag]
        rw [if_pos this] at hg'
        cases hg'
end

/-! ### rules -/
section
variable {G : Prg} {ops : Array Oper} {k : Nat} {σ : St} {α β : Type} {c : α → List PV} {c2 : β → List PV}
theorem rowAt_sub {h : HP} {g i j e : Nat} {J : List (Nat × Nat)} {l : List α} {x : α} {l2 : List β} (hg : h.get g = some (.row e J (l.map c))) (hJ : (Jat J j).isSome = true) (hx : l[i]? = some x) (hc : (c x)[j]? = some (.sl (l2.map c2))) : h.rowAt (.sub g i j) = some (l2.map c2) := by
  simp only [HP.rowAt, hg, hJ, if_true, List.getElem?_map, hx, Option.map_some, hc]
theorem elems_sub {h : HP} {g i j e e0 : Nat} {J : List (Nat × Nat)} {l : List α} {x : α} {l2 : List β} (hg : h.get g = some (.row e J (l.map c))) (hJ : (Jat J j).isSome = true) (hx : l[i]? = some x) (hc : (c x)[j]? = some (.sl (l2.map c2))) : (PV.row (.sub g i j) e0).elems h = some (l2.map c2) := rowAt_sub hg hJ hx hc
theorem rowSet_sub {h : HP} {g i j e : Nat} {J : List (Nat × Nat)} {l : List α} {x x' : α} {es' : List (List PV)} (hg : h.get g = some (.row e J (l.map c))) (hx : l[i]? = some x) (hs : setAt (c x) j [.sl es'] = c x') : h.rowSet es' (.sub g i j) = some (.row e J ((l.set i x').map c)) := by
  simp only [HP.rowSet, hg, modify_map hx hs]
def bldJAt (G : Prg) (ops : Array Oper) (k : Nat) (σ : St) : Option (Nat × PV × Nat) := match onAt ops k σ with
  | some o => (match o.op with
    | .buildSlice t n parts => (match n, parts.toList with
      | 1, [(0, x)] => (match tElem G.P t with
        | some e => if tRow G.P e && Nat.beq (tSize G.P e) 1 then some (e, pev σ x, o.dst.getD 0) else none
        | none => none)
      | _, _ => none)
    | _ => none)
  | none => none
theorem at_buildJ {e e' d T : Nat} {l : List β} {x : α} (h : bldJAt G ops k σ = some (e, .row (.top d) e', T)) (hg : σ.h.get d = some (.row e' [] (l.map c2))) (hd : (Nat.blt d PIN && !Nat.beq d T) = true) (hx : c x = [.sl (l.map c2)]) :
    DoesAt G ops k σ ⟨[takeK d T], [(T, .row e [(0, e')] ([x].map c))], .row (.top T) e⟩ := by
  simp only [Bool.and_eq_true, Bool.not_eq_true'] at hd
  unfold bldJAt at h
  split at h
  case h_2 => cases h
  rename_i o ho
  split at h
  case h_2 => cases h
  rename_i t n parts hop
  split at h
  case h_2 => cases h
  rename_i x' hparts
  split at h
  case h_2 => cases h
  rename_i e0 he
  split at h
  case isFalse => cases h
  rename_i hc
  simp only [Bool.and_eq_true] at hc
  simp only [Option.some.injEq, Prod.mk.injEq] at h
  obtain ⟨rfl, hx', rfl⟩ := h
  obtain ⟨q1, q2⟩ := onAt_spec ho
  obtain rfl : parts = #[(0, x')] := Array.toList_inj.1 hparts
  refine ⟨o, q1, q2, fun hi hdd => ?_⟩
  have := buildJ_ok hop he hc.1 (Nat.eq_of_beq_eq_true hc.2) rfl (by simpa using hd.1) (fun q => by rw [q, Nat.beq_refl] at hd; cases hd.2) hx' hg hi hdd
  rwa [List.map_cons, List.map_nil, hx]
theorem at_appJ {g T e sz d : Nat} {J : List (Nat × Nat)} {l l2 l' : List α} (h : appAt G ops k σ = some (.row (.top g) e, .row (.top T) e, e, sz, d)) (ha : σ.h.get g = some (.row e J (l.map c))) (hx : σ.h.get T = some (.row e J (l2.map c))) (hc : (Nat.blt g PIN && Nat.blt T PIN && !Nat.beq T g) = true) (hl : app l l2 = some l') :
    DoesAt G ops k σ ⟨[joinK g T], [(g, .row e J (l'.map c))], .row (.top g) e⟩ := by
  obtain ⟨h1, rfl⟩ := appS hl
  simp only [Bool.and_eq_true, Bool.not_eq_true'] at hc
  unfold appAt at h
  split at h
  case h_2 => cases h
  rename_i o ho
  split at h
  case h_2 => cases h
  rename_i cl hop
  split at h
  case h_2 => cases h
  rename_i hcal
  split at h
  case h_2 => cases h
  rename_i a' x' t t' hargs hty
  split at h
  case isFalse => cases h
  rename_i ht
  split at h
  case h_2 => cases h
  rename_i e' he
  split at h
  case isFalse => cases h
  rename_i hrow
  simp only [Option.some.injEq, Prod.mk.injEq] at h
  obtain ⟨ha', hx', rfl, rfl, rfl⟩ := h
  obtain ⟨q1, q2⟩ := onAt_spec ho
  subst ht
  have hop' : o.op = .call { callee := .builtin .append, args := #[a', x'], argTypes := #[t, t] } := by
    rw [hop]
    obtain ⟨callee, args, argTypes⟩ := cl
    simp only at hcal hargs hty
    subst hcal
    rw [show args = #[a', x'] from Array.toList_inj.1 hargs, show argTypes = #[t, t] from Array.toList_inj.1 hty]
  refine ⟨o, q1, q2, fun hi hdd => ?_⟩
  have := appendJ_ok hop' he hrow ha' hx' ha hx (fun q => by rw [q, Nat.beq_refl] at hc; cases hc.2) (by simpa using hc.1.1) (by simpa using hc.1.2) (by simpa using h1) hi hdd
  rwa [← List.map_append] at this
def mvAt (G : Prg) (ops : Array Oper) (k : Nat) (σ : St) : Option (PV × PV) := match onAt ops k σ with
  | some o => (match o.op with
    | .store t a x => (match tAgg G.P t with
      | some false => if Nat.beq (tSize G.P t) 1 = true then some (pev σ a, pev σ x) else none
      | _ => none)
    | _ => none)
  | none => none
/-- a row of one's own becomes the row of a cell -/
theorem at_moveJ {g d e e' i off : Nat} {J : List (Nat × Nat)} {l : List α} {x x' : α} {l2 : List β} (h : mvAt G ops k σ = some (.rptr (.top g) e i off, .row (.top d) e')) (hg : σ.h.get g = some (.row e J (l.map c))) (hgd : σ.h.get d = some (.row e' [] (l2.map c2)))
    (hc : (Nat.blt d PIN && !Nat.beq d g && Nat.blt off (tSize G.P e)) = true) (hJ : Jat J off = some e') (hx : l[i]? = some x) (hs : setAt (c x) off [.sl (l2.map c2)] = c x') :
    DoesAt G ops k σ ⟨[moveK d g], [(g, .row e J ((l.set i x').map c))], .lit undef⟩ := by
  simp only [Bool.and_eq_true, Bool.not_eq_true'] at hc
  unfold mvAt at h
  split at h
  case h_2 => cases h
  rename_i o ho
  split at h
  case h_2 => cases h
  rename_i t a' y hop
  split at h
  case h_2 => cases h
  rename_i he
  split at h
  case isFalse => cases h
  rename_i h1
  simp only [Option.some.injEq, Prod.mk.injEq] at h
  obtain ⟨ha', hy⟩ := h
  obtain ⟨q1, q2⟩ := onAt_spec ho
  refine ⟨o, q1, q2, fun hi hdd => ?_⟩
  have := move_ok hop he (Nat.eq_of_beq_eq_true h1) (.inr trivial) (by simpa using hc.1.1) (fun q => by rw [q, Nat.beq_refl] at hc; cases hc.1.2) ha' hy hg hgd (by have := (List.getElem?_eq_some_iff.1 hx).1; simpa using this) (by simpa using hc.2) hJ hi hdd
  rwa [modify_map hx hs] at this
def mkJAt (G : Prg) (ops : Array Oper) (k : Nat) (σ : St) : Option (Nat × PV × PV × Nat) := match onAt ops k σ with
  | some o => (match o.op with
    | .makeSlice t l h => (match tElem G.P t with
      | some e => (match tZero G.P e with
        | some z => (match z.cells.toList with
          | [.slice none 0 0] => if tRow G.P e = true then some (e, pev σ l, pev σ h, o.dst.getD 0) else none
          | _ => none)
        | none => none)
      | none => none)
    | _ => none)
  | none => none
/-- a row of rows that are nil -/
theorem at_mkJ {z : α} {l' : List α} {e e2 d : Nat} {k1 k2 : IntKind} {n : Int} (h : mkJAt G ops k σ = some (e, .lit (.int k1 n), .lit (.int k2 n), d)) (hz : c z = [.sl []]) (h2 : Nat.blt 0 (tSize G.P e2) = true) (hl : mk n z = some l') : DoesAt G ops k σ (.new d (.row e [(0, e2)] (l'.map c)) (.row (.top d) e)) := by
  unfold mk at hl
  split at hl
  case isFalse => cases hl
  rename_i hn
  injection hl with hl
  subst hl
  unfold mkJAt at h
  split at h
  case h_2 => cases h
  rename_i o ho
  split at h
  case h_2 => cases h
  rename_i t x hi' hop
  split at h
  case h_2 => cases h
  rename_i e' he
  split at h
  case h_2 => cases h
  rename_i z' hz'
  split at h
  case h_2 => cases h
  rename_i hzc
  split at h
  case isFalse => cases h
  rename_i hrow
  simp only [Option.some.injEq, Prod.mk.injEq] at h
  obtain ⟨rfl, h3, h4, rfl⟩ := h
  obtain ⟨q1, q2⟩ := onAt_spec ho
  refine ⟨o, q1, q2, fun hi hdd => ?_⟩
  have hL : n.toNat ≤ LIM := by have := hn.2; omega
  have := make_ok (J := [(0, e2)]) hop he (by rw [h3]; exact pidx_of hn.1) (by rw [h4]; exact pidx_of hn.1) hz' hrow (Nat.le_refl _) hL (by rw [hzc]; rfl) (fun j e' hJ => by
    simp only [Jat] at hJ
    split at hJ
    · rename_i hj
      obtain rfl := Nat.eq_of_beq_eq_true hj
      injection hJ with hJ
      subst hJ
      refine ⟨by simpa using h2, fun _ => ?_⟩
      rw [Array.getD_eq_getD_getElem?, ← Array.getElem?_toList, hzc]; rfl
    · cases hJ) hi hdd
  rw [hzc] at this
  rwa [List.map_replicate, hz]
end
end Go.VI
