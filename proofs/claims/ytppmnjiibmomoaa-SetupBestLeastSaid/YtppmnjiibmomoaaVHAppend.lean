/- Appends. -/
import Derived.Test.YtppmnjiibmomoaaVHStore
import Derived.Laws.MakeOwn
set_option linter.unusedVariables false
set_option linter.unusedSimpArgs false
set_option linter.unusedSectionVars false
namespace Go.VI
open Go.RowKit

section
variable {P : Program} {E : Ent} {S0 : Nat → Prop} {N : Nat} {σ : St} {a : Act} {w : World} {c : Ctx}

theorem tElem_some {t e : TypeId} (h : tElem P t = some e) : P.underlying t = some (.slice e) := by
  unfold tElem at h
  split at h
  · rename_i he; injection h with h; subst h; exact he
  · cases h
theorem tRow_some {e : TypeId} (h : tRow P e = true) : ∃ i z, P.info? e = some i ∧ i.zero = some z ∧ 0 < i.size ∧ i.bytes ≤ 65536 ∧ z.cells.size = i.size ∧ i.size = tSize P e := by
  unfold tRow at h
  cases hi : P.info? e with
  | none => simp [hi] at h
  | some i =>
    simp only [hi, Bool.and_eq_true, decide_eq_true_eq] at h
    cases hz : i.zero with
    | none => simp [hz] at h
    | some z =>
      simp only [hz, decide_eq_true_eq] at h
      exact ⟨i, z, rfl, hz, h.1.1, h.1.2, h.2, by simp [tSize, Program.cellsOf, hi]⟩

/-- elements in memory, one cell after another -/
theorem news_lay {S : Nat → Prop} {es : List (List PV)} {k : Nat} (hk : ∀ l ∈ es, l.length = k) (hk0 : 0 < k) (A : Option Addr) (cc : Nat) (vf : Nat → Nat → Value) (hA : es ≠ [] → ∃ ad, A = some ad)
    (hcell : ∀ ad, A = some ad → ∀ i j pv, getE es i j = some pv → w.cell? (ad.add (i * k + j)) = some (vf i j)) (h1 : ∀ i j pv, getE es i j = some pv → (vf i j).oneCell' = true) (hr : ∀ i j pv, getE es i j = some pv → RF w S pv (vf i j)) :
    ∃ news : List Value, news.length = es.length * k ∧ (∀ ad, A = some ad → ∀ (j : Nat) u, news[j]? = some u → w.cell? (ad.add j) = some u) ∧
      (∀ u ∈ news, u.oneCell' = true) ∧ (∀ i j pv, getE es i j = some pv → RF w S pv (news.getD (i * k + j) undef)) := by
  have get : ∀ q, q < es.length * k → ∃ pv, getE es (q / k) (q % k) = some pv ∧ q = q / k * k + q % k := by
    intro q hq
    have h1 : q / k < es.length := Nat.div_lt_of_lt_mul (by rwa [Nat.mul_comm])
    have h2 : q % k < k := Nat.mod_lt _ hk0
    have hl := hk (es[q / k]) (List.getElem_mem h1)
    refine ⟨(es[q / k])[q % k], by unfold getE; simp [h1, hl, h2], ?_⟩
    have := Nat.div_add_mod q k
    rw [Nat.mul_comm]; omega
  have nget : ∀ q, q < es.length * k → ((List.range (es.length * k)).map fun q => vf (q / k) (q % k))[q]? = some (vf (q / k) (q % k)) := by
    intro q hq
    simp [hq]
  refine ⟨(List.range (es.length * k)).map fun q => vf (q / k) (q % k), by simp, fun ad had j u hj => ?_, fun u hu => ?_, fun i j pv hg => ?_⟩
  · have hlt : j < es.length * k := by have := len_of_get hj; simpa using this
    rw [nget j hlt] at hj
    injection hj with hj
    subst hj
    obtain ⟨pv, hg, he⟩ := get j hlt
    have := hcell ad had _ _ pv hg
    rwa [← he] at this
  · rw [List.mem_map] at hu
    obtain ⟨q, hq, rfl⟩ := hu
    obtain ⟨pv, hg, _⟩ := get q (by simpa using hq)
    exact h1 _ _ pv hg
  · have hlt := getE_lt hk hg
    have hq := idx_lt hlt.1 hlt.2
    rw [List.getD_eq_getElem?_getD, nget _ hq]
    have e1 : (i * k + j) / k = i := by rw [Nat.add_comm, Nat.add_mul_div_right _ _ hk0, Nat.div_eq_of_lt hlt.2]; omega
    have e2 : (i * k + j) % k = j := by rw [Nat.add_comm, Nat.add_mul_mod_self_right, Nat.mod_eq_of_lt hlt.2]
    rw [e1, e2]
    exact hr i j pv hg

theorem slice_getE {es : List (List PV)} {lo n i j : Nat} {pv : PV} (hg : getE ((es.drop lo).take n) i j = some pv) : i < n ∧ getE es (lo + i) j = some pv := by
  unfold getE at hg ⊢
  rw [List.getElem?_take] at hg
  split at hg
  · rename_i hi
    rw [List.getElem?_drop] at hg
    exact ⟨hi, hg⟩
  · simp at hg

theorem flat_R {h : HP} {k : Key} (hf : (h.rowJ k).isEmpty = true) {i j : Nat} {pv : PV} {v : Value} (hr : (match k with | .top g => CellRep P w c g (h.rowJ k) | .sub _ _ _ => fun _ _ pv v => RF w c.S pv v) i j pv v) : RF w c.S pv v := by
  cases k with
  | top g =>
    have : h.rowJ (.top g) = [] := by simpa using hf
    simp only [this] at hr
    exact hr
  | sub => exact hr

/-- What a slice's elements are in memory. -/
theorem elems_rep {h : HP} (objs : ∀ g o, h.get g = some o → HRep P w c g o) {x : PV} {X : Value} (r : RV P w c x X) {es : List (List PV)} (he : x.elems h = some es) (hf : x.flat h = true) {k : Nat} (hk : ∀ l ∈ es, l.length = k) (hk0 : 0 < k) :
    ∃ A cc, ∃ news : List Value, X = .slice A es.length cc ∧ news.length = es.length * k ∧ (es ≠ [] → ∃ ad, A = some ad) ∧ (∀ ad, A = some ad → ∀ (j : Nat) u, news[j]? = some u → w.cell? (ad.add j) = some u) ∧
      (∀ u ∈ news, u.oneCell' = true) ∧ (∀ i j pv, getE es i j = some pv → RF w c.S pv (news.getD (i * k + j) undef)) := by
  have hnil : ∀ (A : Option Addr) (cc : Nat), es = [] → ∃ A' cc', ∃ news : List Value, Value.slice A 0 cc = .slice A' es.length cc' ∧ news.length = es.length * k ∧ (es ≠ [] → ∃ ad, A' = some ad) ∧ (∀ ad, A' = some ad → ∀ (j : Nat) u, news[j]? = some u → w.cell? (ad.add j) = some u) ∧
      (∀ u ∈ news, u.oneCell' = true) ∧ (∀ i j pv, getE es i j = some pv → RF w c.S pv (news.getD (i * k + j) undef)) := by
    intro A cc h
    subst h
    exact ⟨A, cc, [], rfl, by simp, by simp, by simp, by simp, by simp [getE]⟩
  have sizeEq : ∀ {es0 : List (List PV)} {k0 : Nat}, (∀ l ∈ es0, l.length = k0) → (∀ l ∈ es, l ∈ es0) → es ≠ [] → k0 = k := fun h1 h2 hne => by
    obtain ⟨l, hl⟩ := List.exists_mem_of_ne_nil es hne
    rw [← h1 l (h2 l hl), hk l hl]
  have fin : ∀ (A : Option Addr) (cc : Nat) (vf : Nat → Nat → Value), (es ≠ [] → ∃ ad, A = some ad) → (∀ ad, A = some ad → ∀ i j pv, getE es i j = some pv → w.cell? (ad.add (i * k + j)) = some (vf i j)) → (∀ i j pv, getE es i j = some pv → (vf i j).oneCell' = true) → (∀ i j pv, getE es i j = some pv → RF w c.S pv (vf i j)) →
      ∃ A' cc', ∃ news : List Value, Value.slice A es.length cc = .slice A' es.length cc' ∧ news.length = es.length * k ∧ (es ≠ [] → ∃ ad, A' = some ad) ∧ (∀ ad, A' = some ad → ∀ (j : Nat) u, news[j]? = some u → w.cell? (ad.add j) = some u) ∧
      (∀ u ∈ news, u.oneCell' = true) ∧ (∀ i j pv, getE es i j = some pv → RF w c.S pv (news.getD (i * k + j) undef)) := fun A cc vf h1 h2 h3 h4 => by
    obtain ⟨news, q1, q2, q3, q4⟩ := news_lay hk hk0 A cc vf h1 h2 h3 h4
    exact ⟨A, cc, news, rfl, q1, h1, q2, q3, q4⟩
  cases r with
  | free pv v h =>
    cases h with
    | nl => simp [PV.elems] at he; exact hnil none 0 he
    | sl es' k' A n cc vf hn hk' hk0' hc ha hcell h1 hr =>
      simp [PV.elems] at he
      subst he
      subst hn
      by_cases hne : es' = []
      · subst hne; exact hnil A cc rfl
      · obtain rfl := sizeEq hk' (fun _ h => h) hne
        exact fin A cc vf (fun h => by obtain ⟨ad, h, _⟩ := ha h; exact ⟨ad, h⟩) hcell h1 hr
    | _ => simp [PV.elems] at he
  | row k' e he' _ =>
    simp only [PV.elems] at he
    obtain ⟨e', xs, r⟩ := rowAt_rep objs he
    rcases r.own.2 with ⟨h0, hn⟩ | ⟨g2, cap, cur, h0, hb2, hg2, hnc, rest⟩
    · rw [h0]; exact hnil none 0 (List.eq_nil_of_length_eq_zero hn)
    · by_cases hne : es = []
      · have vac : ∀ (Q : Prop) (i j : Nat) (pv : PV), getE es i j = some pv → Q := fun Q i j pv hg => by rw [hne] at hg; simp [getE] at hg
        rw [h0]; exact fin _ cap (fun _ _ => undef) (fun h => absurd hne h) (fun _ _ i j pv hg => vac _ i j pv hg) (fun i j pv hg => vac _ i j pv hg) (fun i j pv hg => vac _ i j pv hg)
      · obtain rfl := sizeEq r.len (fun _ h => h) hne
        have hob : (c.hd k').ownBlock = some g2 := by rw [h0]; rfl
        rw [h0]
        refine fin _ cap (fun i j => xs.getD (i * tSize P e' + j) undef) (fun _ => ⟨_, rfl⟩) (fun ad had i j pv hg => ?_) r.one (fun i j pv hg => flat_R hf (r.rep i j pv hg))
        injection had with had
        subst had
        have hlt := getE_lt r.len hg
        exact own_cells r.own hob _ (idx_lt hlt.1 hlt.2)
  | part k' e lo n A cc he' hn hA =>
    simp only [PV.elems] at he
    split at he
    case h_2 => cases he
    rename_i es0 hr
    split at he
    case isFalse => cases he
    rename_i hfit
    injection he with he
    obtain ⟨e', xs, r⟩ := rowAt_rep objs hr
    obtain rfl : e' = e := r.ty.symm.trans he'
    have hlen : es.length = n := by rw [← he, List.length_take, List.length_drop]; omega
    by_cases hne : es = []
    · have : n = 0 := by rw [← hlen, hne]; rfl
      subst this
      exact hnil A cc hne
    · obtain rfl := sizeEq r.len (fun l hl => by rw [← he] at hl; exact List.mem_of_mem_drop (List.mem_of_mem_take hl)) hne
      have hn0 : 0 < n := by rw [← hlen]; exact List.length_pos_iff.2 hne
      rcases r.own.2 with ⟨h0, hn'⟩ | ⟨g2, cap, cur, h0, hb2, hg2, hnc, rest⟩
      · omega
      · have hob : (c.hd k').ownBlock = some g2 := by rw [h0]; rfl
        obtain ⟨_, hτ⟩ := r.blk g2 hob
        rw [← hlen]
        refine fin A cc (fun i j => xs.getD ((lo + i) * tSize P e' + j) undef) (fun _ => ⟨_, hA hn0⟩) (fun ad had i j pv hg => ?_) (fun i j pv hg => by rw [← he] at hg; exact r.one _ _ pv (slice_getE hg).2) (fun i j pv hg => by rw [← he] at hg; exact flat_R hf (r.rep _ _ pv (slice_getE hg).2))
        rw [hA hn0] at had
        injection had with had
        subst had
        rw [← he] at hg
        obtain ⟨_, hg⟩ := slice_getE hg
        have hlt := getE_lt r.len hg
        have := own_cells r.own hob _ (idx_lt hlt.1 hlt.2)
        rw [add_lit] at this ⊢
        rw [hτ, ← this]
        congr 2
        rw [Nat.zero_add, Nat.add_mul]; omega
  | _ => simp [PV.elems] at he

/-- the row behind an append, cell by cell -/
theorem append_get {es es2 : List (List PV)} {k : Nat} (hk : ∀ l ∈ es, l.length = k) (hk2 : ∀ l ∈ es2, l.length = k) {xs news : List Value} (hl : xs.length = es.length * k) {i j : Nat} {pv : PV}
    (h : getE (es ++ es2) i j = some pv) : (getE es i j = some pv ∧ (xs ++ news).getD (i * k + j) undef = xs.getD (i * k + j) undef) ∨
      (∃ i', i = es.length + i' ∧ getE es2 i' j = some pv ∧ (xs ++ news).getD (i * k + j) undef = news.getD (i' * k + j) undef) := by
  have hall : ∀ l ∈ es ++ es2, l.length = k := fun l hl => (List.mem_append.1 hl).elim (hk l) (hk2 l)
  have hlt := getE_lt hall h
  by_cases hi : i < es.length
  · left
    have hg : getE es i j = some pv := by unfold getE at h ⊢; rwa [List.getElem?_append_left hi] at h
    refine ⟨hg, ?_⟩
    have := idx_lt hi hlt.2
    simp only [List.getD_eq_getElem?_getD]
    rw [List.getElem?_append_left (by omega)]
  · right
    refine ⟨i - es.length, by omega, by unfold getE at h ⊢; rwa [List.getElem?_append_right (by omega)] at h, ?_⟩
    simp only [List.getD_eq_getElem?_getD]
    have e : i * k + j = xs.length + ((i - es.length) * k + j) := by
      rw [hl]
      have : es.length * k + (i - es.length) * k = i * k := by rw [← Nat.add_mul]; congr 1; omega
      omega
    rw [e, List.getElem?_append_right (by omega)]
    congr 2
    omega

theorem run_append_any (base : Nat) (t ty e : TypeId) (i : TypeInfo) (z : Value) (size : Nat) (ht : P.underlying t = some (.slice e)) (hi : P.info? e = some i) (hz : i.zero = some z)
    (hsize : i.size = size) (hby : i.bytes ≤ 65536) (hzs : z.cells.size = i.size) (hsz : 0 < size)
    (v : Value) (n : Nat) (xs : List Value) (hown : w.ownsRow base e size v n xs)
    (A : Option Addr) (m cc : Nat) (news : List Value) (hl : news.length = m * size) (hA : m ≠ 0 → ∃ ad, A = some ad) (hnews : ∀ ad, A = some ad → ∀ (j : Nat) u, news[j]? = some u → w.cell? (ad.add j) = some u)
    (h1 : ∀ u ∈ news, u.oneCell' = true) (hlim : n + m ≤ LIM) (hbase : base ≤ w.heap.size) :
    ∃ v' w', (Builtin.append_ #[t, t] ty #[v, .slice A m cc]).run P w = .ok v' w' ∧ w'.ownsRow base e size v' (n + m) (xs ++ news) ∧ w.grownBy w' v.ownBlock ∧
      (v'.ownBlock = v.ownBlock ∨ v'.ownBlock = some w.heap.size) := by
  cases A with
  | some ad =>
    have hb : (n + m) * i.bytes ≤ 140737488355328 := by
      have := Nat.mul_le_mul hlim hby
      unfold LIM at this
      omega
    obtain ⟨v', w', q1, q2, q3, _, q5⟩ := run_append_own_at (P := P) w base t ty e i z size i.bytes ht hi hz hsize rfl (by rw [hzs, hsize]) hsz v n xs hown ad m cc news hl (hnews ad rfl) h1 (by unfold LIM at hlim; unfold maxLen; omega) hb hbase
    exact ⟨v', w', q1, q2, q3, q5⟩
  | none =>
    have hm : m = 0 := by
      rcases Nat.eq_zero_or_pos m with h | h
      · exact h
      · obtain ⟨_, h⟩ := hA (by omega); cases h
    subst hm
    have hn : news = [] := List.eq_nil_of_length_eq_zero (by simpa using hl)
    subst hn
    refine ⟨v, w, ?_, by simpa using hown, ⟨rfl, rfl, rfl, Nat.le_refl _, fun _ _ _ => rfl⟩, .inl rfl⟩
    rcases hown.2 with ⟨rfl, rfl⟩ | ⟨g, cap, cur, rfl, _, _, hnc, _⟩
    · simp [Builtin.append_, run_underlying ht, sizeOf, typeInfo, hi, Builtin.lenOf, Builtin.firstCells]
    · simp [Builtin.append_, run_underlying ht, sizeOf, typeInfo, hi, Builtin.lenOf, Builtin.firstCells, hnc, storeCells]

theorem len_all {xs : List (List PV)} {k : Nat} (h : xs.all (fun c => c.length == k) = true) : ∀ l ∈ xs, l.length = k := by
  intro l hl
  have := List.all_eq_true.1 h l hl
  simpa using this


theorem pappend_ok {o : Oper} {t e : TypeId} {s x : Operand} {r : Res} (ho : o.op = .call { callee := .builtin .append, args := #[s, x], argTypes := #[t, t] }) (ht : tElem P t = some e) (hrow : tRow P e = true)
    (h : Inv P E S0 N σ a w c) (hd : ∀ k, o.dst = some k → k < N) (hr : pappend e (tSize P e) (o.dst.getD 0) σ.h (pev σ s) (pev σ x) = some r) : Does P E S0 N o a w (r.put σ o.dst) := by
  have rs := h.ev s
  have rx := h.ev x
  have hdN : o.dst.getD 0 < PIN := by
    cases hq : o.dst with
    | none => decide
    | some k => exact Nat.lt_of_lt_of_le (hd k hq) h.small
  obtain ⟨i, z, hi, hz, hsz, hby, hzs, hsize⟩ := tRow_some hrow
  have hu := tElem_some ht
  have hexec : ∀ v' w', (Builtin.append_ #[t, t] o.type #[a.eval s, a.eval x]).run P w = .ok v' w' → (execOp a.eval o).run P w = .ok (.value v') w' := by
    intro v' w' hrun
    unfold execOp
    simp only [ho, resolve, invoke, builtin, Sem.run_bind, Sem.run_pure, Result.andThen_ok, List.map_toArray, List.map_cons, List.map_nil, hrun]
  generalize pev σ s = ps at *
  generalize pev σ x = px at *
  generalize a.eval s = V at *
  generalize a.eval x = X at *
  unfold pappend at hr
  cases hel : px.elems σ.h with
  | none => simp [hel] at hr
  | some es2 =>
    simp only [hel] at hr
    split at hr
    case isFalse => cases hr
    rename_i hall
    obtain ⟨hall, hflat⟩ := hall
    have hk2 := len_all hall
    obtain ⟨A, cc, news, rfl, hnl, hA, hcell, h1, hrf⟩ := elems_rep h.objs rx hel hflat hk2 (by omega)
    have hA' : es2.length ≠ 0 → ∃ ad, A = some ad := fun hne => hA (by rintro rfl; simp at hne)
    cases rs with
    | row k e0 he0 _ =>
      cases k with
      | sub => simp at hr
      | top g =>
      simp only at hr
      split at hr
      case h_2 => cases hr
      rename_i eR es hgR
      split at hr
      case isFalse => cases hr
      rename_i hc
      obtain ⟨rfl, hlim, hpin⟩ := hc
      injection hr with hr
      subst hr
      obtain ⟨xs, rr⟩ := h.objs g _ hgR
      obtain rfl : eR = e := rr.ty.symm.trans he0
      have hRF : ∀ i j pv, getE es i j = some pv → RF w c.S pv (xs.getD (i * tSize P eR + j) undef) := fun i j pv hg => rr.rep i j pv hg
      obtain ⟨v', w', hrun, hown', hgrow, hblk⟩ := run_append_any (P := P) 0 t o.type eR i z (tSize P eR) hu hi hz hsize hby hzs rr.pos (c.hd (.top g)) es.length xs rr.own A es2.length cc news hnl hA' hcell h1 hlim (Nat.zero_le _)
      have hVb : ∀ b, (c.hd (.top g)).ownBlock = some b → E.M b ∧ ¬ c.S b ∧ ∀ k', k'.tag ≠ g → c.D k' → c.τ k' ≠ b := fun b hb' => by
        obtain ⟨q1, q2⟩ := rr.blk b hb'
        have := h.ok.hD _ q1
        rw [q2] at this
        exact ⟨this.1, this.2.2, fun k' hne hg' e => hne (by rw [h.ok.inj _ _ hg' q1 (by rw [e, q2])]; rfl)⟩
      have hsame : ∀ b, b < w.heap.size → (c.hd (.top g)).ownBlock ≠ some b → w'.heap[b]? = w.heap[b]? := fun b hb' hne => hgrow.block b hb' (Ne.symm hne)
      have hS : Same c.S w w' := fun b hS => hsame b (h.ok.hS b hS) fun e => (hVb b e).2.1 hS
      have below : E.Fr w' := ⟨hgrow.os.trans h.below.os, hgrow.tape.trans h.below.tape, hgrow.output.trans h.below.output, Nat.le_trans h.below.size hgrow.size, fun k hk' hm => (hsame k (Nat.lt_of_lt_of_le hk' h.below.size) fun e => hm (hVb k e).1).trans (h.below.block k hk' hm)⟩
      -- the block of the new row
      let b := (v'.ownBlock).getD 0
      let c' := c.lay g b v' eR (v'.ownBlock.isSome = true)
      have hbb : v'.ownBlock.isSome = true → E.M b ∧ b < w'.heap.size ∧ ¬ c.S b ∧ ∀ k', k'.tag ≠ g → c.D k' → c.τ k' ≠ b := fun hs => by
        obtain ⟨b', hb'⟩ := Option.isSome_iff_exists.1 hs
        have hbe : b = b' := by simp [b, hb']
        rw [hbe]
        have hlt : b' < w'.heap.size := (hown'.lt b' hb').2
        rcases hblk with hq | hq
        · have := hVb b' (by rw [← hq, hb'])
          exact ⟨this.1, hlt, this.2.1, this.2.2⟩
        · rw [hb'] at hq
          injection hq with hq
          subst hq
          exact ⟨h.below.mine (Nat.le_refl _), hlt, fun hS => by have := h.ok.hS _ hS; omega, fun k' _ hg' e => by have := (h.ok.hD k' hg').2.1; omega⟩
      have hok : c'.Ok E.M w' := lay_ok h.ok hgrow.size (fun q => ⟨(hbb q).1, (hbb q).2.1, (hbb q).2.2.1⟩) fun q => (hbb q).2.2.2
      have hrep : HRep P w' c' g (.row eR [] (es ++ es2)) := by
        refine ⟨xs ++ news, lay_top.2.2.1, rr.pos, fun l hl => (List.mem_append.1 hl).elim (rr.len l) (hk2 l), by rw [lay_top.2.1, List.length_append]; exact hown', fun b' hb' => ?_, fun i j pv hg => ?_, fun i j pv hg => ?_⟩
        · rw [lay_top.2.1] at hb'
          exact ⟨lay_top.2.2.2.2 (by rw [hb']; rfl), by rw [lay_top.1]; simp [b, hb']⟩
        · rcases append_get rr.len hk2 rr.own.1 (news := news) hg with ⟨q1, q2⟩ | ⟨i', _, q1, q2⟩
          · rw [q2]; exact rr.one i j pv q1
          · rw [q2]
            have hlt := getE_lt hk2 q1
            have := idx_lt hlt.1 hlt.2
            exact h1 _ (by rw [List.getD_eq_getElem?_getD, List.getElem?_eq_getElem (by omega)]; exact List.getElem_mem _)
        · show RF w' c.S pv _
          rcases append_get rr.len hk2 rr.own.1 (news := news) hg with ⟨q1, q2⟩ | ⟨i', _, q1, q2⟩
          · rw [q2]; exact (hRF i j pv q1).same hS fun _ h => h
          · rw [q2]; exact (hrf i' j pv q1).same hS fun _ h => h
      have hrv : RV P w' c' (.row (.top g) eR) v' := by
        obtain ⟨xs', r'⟩ := hrep
        have := RV.row (P := P) (w := w') (c := c') (.top g) eR r'.ty r'.hd_one
        rwa [show c'.hd (.top g) = v' from lay_top.2.1] at this
      refine does_mut hd (.inl (hexec _ _ hrun)) (c' := c') ?_ hrv
      refine h.step (ofTag g) (· = g) below hok hS (fun _ h => h) h.sup (fun k hk hp => ?_) (fun k hk => lay_agree (ofTag_ff.1 hk)) (fun k hD hx => ⟨hsame _ (h.ok.hD k hD).2.1 fun e => (hVb _ e).2.2 k hx hD rfl, (lay_D hx).2 hD⟩)
        (fun k hk => ofTag_iff.1 hk) rfl (fun g' o hx hg => ?_) (fun g' o hx hg => ?_)
      · rw [ofTag_iff.1 hp] at hk; omega
      · simp only [Res.base, List.foldl_cons, List.foldl_nil, hget_put] at hg
        rwa [if_neg hx] at hg
      · simp only [Res.base, List.foldl_cons, List.foldl_nil, hget_put] at hg
        rw [if_pos hx] at hg
        injection hg with hg
        subst hg hx
        exact hrep
    | free pv v hf =>
      cases hf with
      | nl =>
      simp only at hr
      split at hr
      case isFalse => cases hr
      rename_i hlim
      injection hr with hr
      subst hr
      obtain ⟨v', w', hrun, hown', hgrow, hblk⟩ := run_append_any (P := P) 0 t o.type e i z (tSize P e) hu hi hz hsize hby hzs (by omega) (.slice none 0 0) 0 [] (World.ownsRow_nil w 0 e _) A es2.length cc news hnl hA' hcell h1 (by omega) (Nat.zero_le _)
      simp only [Nat.zero_add, List.nil_append] at hown'
      have hsame : ∀ b, b < w.heap.size → w'.heap[b]? = w.heap[b]? := fun b hb' => hgrow.block b hb' (by simp [Value.ownBlock])
      have below : Below w.heap.size w w' := ⟨hgrow.os, hgrow.tape, hgrow.output, hgrow.size, hsame⟩
      have hS : Same c.S w w' := fun b hS => hsame b (h.ok.hS b hS)
      let b := (v'.ownBlock).getD 0
      let c' := c.lay (o.dst.getD 0) b v' e (v'.ownBlock.isSome = true)
      have hbb : v'.ownBlock.isSome = true → E.M b ∧ b < w'.heap.size ∧ ¬ c.S b ∧ ∀ k', k'.tag ≠ o.dst.getD 0 → c.D k' → c.τ k' ≠ b := fun hs => by
        obtain ⟨b', hb'⟩ := Option.isSome_iff_exists.1 hs
        have hbe : b = b' := by simp [b, hb']
        rw [hbe]
        have hlt : b' < w'.heap.size := (hown'.lt b' hb').2
        have hb2 : b' = w.heap.size := by
          rcases hblk with hq | hq
          · rw [hb'] at hq; simp [Value.ownBlock] at hq
          · rw [hb'] at hq; injection hq
        subst hb2
        exact ⟨h.below.mine (Nat.le_refl _), hlt, fun hS => by have := h.ok.hS _ hS; omega, fun k' _ hg' e => by have := (h.ok.hD k' hg').2.1; omega⟩
      have hok : c'.Ok E.M w' := lay_ok h.ok hgrow.size (fun q => ⟨(hbb q).1, (hbb q).2.1, (hbb q).2.2.1⟩) fun q => (hbb q).2.2.2
      have hrep : HRep P w' c' (o.dst.getD 0) (.row e [] es2) := by
        refine ⟨news, lay_top.2.2.1, by omega, hk2, by rw [lay_top.2.1]; exact hown', fun b' hb' => ?_, fun i j pv hg => ?_, fun i j pv hg => ?_⟩
        · rw [lay_top.2.1] at hb'
          exact ⟨lay_top.2.2.2.2 (by rw [hb']; rfl), by rw [lay_top.1]; simp [b, hb']⟩
        · have hlt := getE_lt hk2 hg
          have := idx_lt hlt.1 hlt.2
          exact h1 _ (by rw [List.getD_eq_getElem?_getD, List.getElem?_eq_getElem (by omega)]; exact List.getElem_mem _)
        · show RF w' c.S pv _
          exact (hrf i j pv hg).same hS fun _ h => h
      have hrv : RV P w' c' (.row (.top (o.dst.getD 0)) e) v' := by
        obtain ⟨xs', r'⟩ := hrep
        have := RV.row (P := P) (w := w') (c := c') (.top (o.dst.getD 0)) e r'.ty r'.hd_one
        rwa [show c'.hd (.top (o.dst.getD 0)) = v' from lay_top.2.1] at this
      exact does_new hdN h hd (hexec _ _ hrun) below hok (fun _ => Iff.rfl) (fun k hk => ⟨lay_agree hk, (lay_D hk).2⟩) hrep hrv
      | _ => simp at hr
    | _ => simp at hr
end
end Go.VI
