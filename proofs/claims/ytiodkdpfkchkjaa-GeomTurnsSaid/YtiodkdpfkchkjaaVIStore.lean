/- Stores and appends. -/
import Derived.Test.YtiodkdpfkchkjaaVIOps
import Derived.Maps.AppendAt
set_option linter.unusedVariables false
set_option linter.unusedSimpArgs false
set_option linter.unusedSectionVars false
namespace Go.VI
open Go.RowKit

theorem cells_of_one {v : Value} (h : v.oneCell' = true) : v.cells = #[v] := by cases v <;> first | rfl | simp [Value.oneCell'] at h

section
variable {P : Program} {w0 : Ent} {S0 : Nat → Prop} {N : Nat} {σ : St} {a : Act} {w : World} {c : Ctx}

theorem RV.cell_one {pv : PV} {v : Value} (r : RV P w c pv v) (h : pv.cell = true) : v.oneCell' = true := by
  cases r with
  | free pv v hf =>
    cases hf with
    | undef => simp [PV.cell] at h
    | lit => exact h
    | agg => simp [PV.cell] at h
    | tup => simp [PV.cell] at h
    | _ => rfl
  | own g e es v xs hk0 hk ho => rcases ho.2 with ⟨rfl, _⟩ | ⟨g, cap, cur, rfl, _⟩ <;> rfl
  | agg => simp [PV.cell] at h
  | tup => simp [PV.cell] at h
  | _ => rfl

/-- The cells of a value. -/
theorem RV.cells {x : PV} {X : Value} (r : RV P w c x X) (h : x.cells.all PV.cell = true) :
    X.cells.size = x.cells.length ∧ ∀ (i : Nat) pv, x.cells[i]? = some pv → RV P w c pv (X.cells.getD i undef) ∧ (X.cells.getD i undef).oneCell' = true := by
  have all : ∀ (i : Nat) pv, x.cells[i]? = some pv → pv.cell = true := fun i pv hg => List.all_eq_true.1 h pv (List.mem_of_getElem? hg)
  by_cases ha : ∃ cs, x = .agg cs
  · obtain ⟨cs, rfl⟩ := ha
    have main : ∃ vs : Array Value, X = .agg vs ∧ vs.size = cs.length ∧ ∀ (i : Nat) pv, cs[i]? = some pv → RV P w c pv (vs.getD i undef) := by
      cases r with
      | free pv v hf => cases hf with | agg cs vs hn hr => exact ⟨vs, rfl, hn, fun i pv hg => .free _ _ (hr i pv hg)⟩
      | agg cs vs hn hr => exact ⟨vs, rfl, hn, hr⟩
    obtain ⟨vs, rfl, hn, hr⟩ := main
    exact ⟨hn, fun i pv hg => ⟨hr i pv hg, (hr i pv hg).cell_one (all i pv hg)⟩⟩
  · have hc : x.cells = [x] := by cases x <;> first | rfl | exact absurd ⟨_, rfl⟩ ha
    have h1 := r.cell_one (by rw [hc] at h; simpa using h)
    rw [hc, cells_of_one h1]
    refine ⟨rfl, fun i pv hg => ?_⟩
    cases i with
    | zero => simp at hg; subst hg; exact ⟨r, h1⟩
    | succ i => simp at hg

theorem still_cell {pv : PV} (h : pv.still = true) : pv.cell = true := by cases pv <;> first | rfl | (simp [PV.still] at h; done) | exact h
theorem still_free {pv : PV} (h : pv.still = true) : pv.free = true := by cases pv <;> first | rfl | (simp [PV.still] at h; done)
theorem all_still_cell {l : List PV} (h : l.all PV.still = true) : l.all PV.cell = true := by
  rw [List.all_eq_true] at h ⊢
  exact fun x hx => still_cell (h x hx)

/-- an array with a run of cells put in -/
def splice (cur : Array Value) (o : Nat) (news : List Value) : Array Value := (cur.toList.take o ++ news ++ cur.toList.drop (o + news.length)).toArray
theorem splice_size {cur : Array Value} {o : Nat} {news : List Value} (h : o + news.length ≤ cur.size) : (splice cur o news).size = cur.size := by
  simp only [splice, List.size_toArray, List.length_append, List.length_take, List.length_drop, Array.length_toList]
  omega
theorem splice_get {cur : Array Value} {o : Nat} {news : List Value} (h : o + news.length ≤ cur.size) (i : Nat) :
    (splice cur o news).getD i undef = if o ≤ i ∧ i < o + news.length then news.getD (i - o) undef else cur.getD i undef := by
  have ht : (cur.toList.take o).length = o := by simp; omega
  simp only [splice, Array.getD_eq_getD_getElem?, List.getElem?_toArray, List.getD_eq_getElem?_getD]
  by_cases h1 : i < o
  · rw [List.append_assoc, List.getElem?_append_left (by omega), List.getElem?_take, if_pos h1, if_neg (by omega)]
    simp
  · by_cases h2 : i < o + news.length
    · rw [List.append_assoc, List.getElem?_append_right (by omega), ht, List.getElem?_append_left (by omega), if_pos ⟨by omega, h2⟩]
    · rw [List.getElem?_append_right (by simp; omega), List.getElem?_drop, if_neg (by omega)]
      have : (List.take o cur.toList ++ news).length = o + news.length := by simp; omega
      rw [this, show o + news.length + (i - (o + news.length)) = i from by omega]
      simp

theorem below_setRow {w0 : Ent} {w : World} (h : w0.Fr w) {g : Nat} (hg : w0.M g) (cs : Array Value) : w0.Fr (w.setRow g cs) :=
  ⟨h.os, h.tape, h.output, Nat.le_trans h.size (by simp [World.setRow]), fun k hk hm => (setRow_other w g k cs (fun e => hm (e ▸ hg))).trans (h.block k hk hm)⟩
theorem ok_setRow {c : Ctx} {B : Nat → Prop} (ok : c.Ok B w) (g : Nat) (cs : Array Value) : c.Ok B (w.setRow g cs) := by
  have e : (w.setRow g cs).heap.size = w.heap.size := by simp [World.setRow]
  exact ⟨fun b hb => by rw [e]; exact ok.hS b hb, fun g k hg => by rw [e]; exact ok.hD g k hg, ok.inj⟩

theorem run_storeVar {t : TypeId} (hinfo : ∃ i, P.info? t = some i) {g o : Nat} {T : TypeId} {cur : Array Value} {X : Value} (hh : w.heap[g]? = some (.cells cur T (0, 0))) (hsz : X.cells.size = tSize P t)
    (hfit : o + X.cells.size ≤ cur.size) (h1 : ∀ v ∈ X.cells.toList, v.oneCell' = true) :
    (storeVar t ⟨g, o, none⟩ X).run P w = .ok () (w.setRow g (splice cur o X.cells.toList)) := by
  have hst := run_storeCells_at (P := P) g o T X.cells.toList 0 cur w hh (by simpa using hfit) h1
  simp only [Nat.add_zero] at hst
  simp only [storeVar, Sem.run_bind, run_sizeOf hinfo, Result.andThen_ok, hsz, ne_eq, not_true_eq_false, if_false]
  simpa [splice] using hst

theorem one_of {X : Value} {l : List PV} (hn : X.cells.size = l.length) (h : ∀ (i : Nat) pv, l[i]? = some pv → (X.cells.getD i undef).oneCell' = true) : ∀ v ∈ X.cells.toList, v.oneCell' = true := by
  intro v hv
  obtain ⟨i, hi⟩ := List.mem_iff_getElem?.1 hv
  have hlt : i < X.cells.size := by
    rcases Nat.lt_or_ge i X.cells.toList.length with h | h
    · simpa using h
    · rw [List.getElem?_eq_none h] at hi; cases hi
  have := h i (l[i]'(by omega)) (List.getElem?_eq_getElem (by omega))
  rw [Array.getElem?_toList] at hi
  simpa [Array.getD_eq_getD_getElem?, hi] using this

theorem pstore_ok {o : Oper} {t : TypeId} {ad x : Operand} {agg : Bool} {r : Res} (ho : o.op = .store t ad x) (hagg : tAgg P t = some agg) (h : Inv P w0 S0 N σ a w c) (hd : ∀ k, o.dst = some k → k < N)
    (hr : pstore agg (tSize P t) (pev σ ad) (pev σ x) = some r) : Does P w0 S0 N o a w (r.put σ o.dst) := by
  have rp := h.ev ad
  have rx := h.ev x
  have hexec : (execOp a.eval o).run P w = ((Instr.storeAt t (a.eval ad) (a.eval x)).run P w).andThen (fun _ w' => Result.ok Next.skip w') := by
    unfold execOp
    simp only [ho, Sem.run_bind, Sem.run_pure]
  generalize pev σ ad = p at *
  generalize pev σ x = px at *
  generalize a.eval ad = vp at *
  generalize a.eval x = X at *
  unfold pstore at hr
  by_cases hlen0 : px.cells.length = tSize P t ∧ px.isAgg = agg
  case neg => rw [if_neg hlen0] at hr; cases hr
  rw [if_pos hlen0] at hr
  obtain ⟨hlen, _⟩ := hlen0
  cases p with
  | ptr g cs off =>
    simp only at hr
    by_cases hc : off + tSize P t ≤ cs.length ∧ px.cells.all PV.cell = true ∧ PV.hasL g px.cells = false
    case neg => rw [if_neg hc] at hr; cases hr
    rw [if_pos hc] at hr
    obtain ⟨hfit, hcell, hno⟩ := hc
    injection hr with hr
    subst hr
    obtain ⟨hn, hcs⟩ := rx.cells hcell
    cases rp with
    | free _ _ hf => cases hf
    | ptr g cs off vs T hb hh hnv hrv =>
      have hrun := run_storeVar (P := P) (info_of_agg hagg) (o := off) (X := X) hh (by omega) (by omega) (one_of hn fun i pv hg => (hcs i pv hg).2)
      have hl : X.cells.toList.length = px.cells.length := by simpa using hn
      have hDg := h.ok.hD g false hb
      have hoth : ∀ b, b ≠ c.τ g → (w.setRow (c.τ g) (splice vs off X.cells.toList)).heap[b]? = w.heap[b]? := fun b hb' => setRow_other w _ b _ hb'
      refine does_mut (v := undef) (c' := c) h hd (.inr ⟨?_, rfl⟩) (below_setRow h.below hDg.1 (splice vs off X.cells.toList)) (ok_setRow h.ok _ _) (fun _ => Iff.rfl) rfl (fun pv v r => ?_) (.free _ _ (.lit _))
      · rw [hexec]
        simp only [Instr.storeAt, Instr.sureAddr, Sem.run_bind, Sem.run_pure, Result.andThen_ok, hrun]
      · refine r.upd h.ok hb hh (setRow_heap w _ vs _ T (0, 0) hh) (splice_size (by omega)) (fun i hi => ?_) (fun j pv hg => ?_) hoth
        · rw [splice_get (by omega), if_neg (by rw [hl]; exact hi)]
        · have hj : j < px.cells.length := by
            rcases Nat.lt_or_ge j px.cells.length with h | h
            · exact h
            · rw [List.getElem?_eq_none h] at hg; cases hg
          rw [splice_get (by omega), if_pos ⟨by omega, by omega⟩, show off + j - off = j from by omega]
          have e : X.cells.toList.getD j undef = X.cells.getD j undef := by simp [Array.getD_eq_getD_getElem?]
          rw [e]
          refine (hcs j pv hg).1.keep' (T := fun g' => g' ≠ g) (fun b hS => hoth b fun e => hDg.2.2 (e ▸ hS)) (fun _ h => h) (fun g' k hg' hk => ⟨hoth _ fun e => hg' (h.ok.inj _ _ _ _ hk hb e).1, hk, rfl⟩) (fun g' hh' e => ?_)
          subst e
          rw [hasL_of hg hh'] at hno
          cases hno
  | optr g e es i off =>
    simp only at hr
    cases he : es[i]? with
    | none => simp [he] at hr
    | some cs =>
      simp only [he] at hr
      by_cases hc : off + tSize P t ≤ cs.length ∧ px.cells.all PV.still = true
      case neg => rw [if_neg hc] at hr; cases hr
      rw [if_pos hc] at hr
      obtain ⟨hfit, hstill⟩ := hc
      injection hr with hr
      subst hr
      have hcell := all_still_cell hstill
      obtain ⟨hn, hcs⟩ := rx.cells hcell
      cases rp with
      | free _ _ hf => cases hf
      | optr g e es i off xs cap hk0 hk hown hb h1 hrr =>
        rcases hown.2 with ⟨hv, _⟩ | ⟨g2, cap2, cur, hv, hb2, hg2, hnc, hcm, hcs2, htake⟩
        · cases hv
        injection hv with hv1 _ hv3
        injection hv1 with hv1
        injection hv1 with hv1 _ _
        subst hv1
        have hcl : cs.length = tSize P e := hk cs (List.mem_of_getElem? he)
        have hi : i < es.length := by
          rcases Nat.lt_or_ge i es.length with h | h
          · exact h
          · rw [List.getElem?_eq_none h] at he; cases he
        have hfit2 : i * tSize P e + off + X.cells.size ≤ cur.size := by
          have q1 := Nat.mul_le_mul_right (tSize P e) (show i + 1 ≤ cap2 by omega)
          rw [Nat.succ_mul] at q1
          omega
        have hrun := run_storeVar (P := P) (info_of_agg hagg) (o := i * tSize P e + off) (X := X) hg2 (by omega) hfit2 (one_of hn fun i pv hg => (hcs i pv hg).2)
        have hl : X.cells.toList.length = px.cells.length := by simpa using hn
        have hDg := h.ok.hD g true hb
        have hoth : ∀ b, b ≠ c.τ g → (w.setRow (c.τ g) (splice cur (i * tSize P e + off) X.cells.toList)).heap[b]? = w.heap[b]? := fun b hb' => setRow_other w _ b _ hb'
        refine does_mut (v := undef) (c' := c) h hd (.inr ⟨?_, rfl⟩) (below_setRow h.below hDg.1 (splice cur (i * tSize P e + off) X.cells.toList)) (ok_setRow h.ok _ _) (fun _ => Iff.rfl) rfl (fun pv v r => ?_) (.free _ _ (.lit _))
        · rw [hexec]
          simp only [Instr.storeAt, Instr.sureAddr, Sem.run_bind, Sem.run_pure, Result.andThen_ok, hrun]
        · refine r.updR h.ok (e := e) hb (by omega) hg2 (setRow_heap w _ cur _ e (0, 0) hg2) (splice_size (by simpa using hfit2)) (fun m hm => ?_) (fun j pv hg => ?_) hoth
          · rw [splice_get (by simpa using hfit2), if_neg (by rw [hl]; exact hm)]
          · have hj : j < px.cells.length := by
              rcases Nat.lt_or_ge j px.cells.length with h | h
              · exact h
              · rw [List.getElem?_eq_none h] at hg; cases hg
            rw [splice_get (by simpa using hfit2), if_pos ⟨by omega, by omega⟩, show i * tSize P e + off + j - (i * tSize P e + off) = j from by omega]
            have e2 : X.cells.toList.getD j undef = X.cells.getD j undef := by simp [Array.getD_eq_getD_getElem?]
            rw [e2]
            have hs := List.all_eq_true.1 hstill pv (List.mem_of_getElem? hg)
            exact ⟨((hcs j pv hg).1.toRF (still_free hs)).same (fun b hS => hoth b fun e => hDg.2.2 (e ▸ hS)) fun _ h => h, (hcs j pv hg).2⟩
  | _ => simp at hr
end
end Go.VI
