/- Each operation but a call: joined. -/
import Derived.Test.YtppmnjiibmomoaaVHRest
set_option linter.unusedVariables false
set_option linter.unusedSimpArgs false
set_option linter.unusedSectionVars false
namespace Go.VI
open Go.RowKit

section
variable {P : Program} {E : Ent} {S0 : Nat → Prop} {N : Nat} {σ : St} {a : Act} {w : World} {c : Ctx}

theorem setList_get (vs : List Value) : ∀ (cs : Array Value) (off j0 i : Nat), off + j0 + vs.length ≤ cs.size →
    ((vs.zipIdx j0).foldl (fun cs (p : Value × Nat) => cs.setIfInBounds (off + p.2) p.1) cs).size = cs.size ∧
    ((vs.zipIdx j0).foldl (fun cs (p : Value × Nat) => cs.setIfInBounds (off + p.2) p.1) cs).getD i undef = if off + j0 ≤ i ∧ i < off + j0 + vs.length then vs.getD (i - (off + j0)) undef else cs.getD i undef := by
  induction vs with
  | nil => intro cs off j0 i _; simp; intros; omega
  | cons v vs ih =>
    intro cs off j0 i h
    simp only [List.length_cons] at h
    simp only [List.zipIdx_cons, List.foldl_cons]
    obtain ⟨q1, q2⟩ := ih (cs.setIfInBounds (off + j0) v) off (j0 + 1) i (by simp; omega)
    refine ⟨by rw [q1]; simp, ?_⟩
    rw [q2]
    by_cases e : i = off + j0
    · subst e
      rw [if_neg (by omega), if_pos ⟨Nat.le_refl _, by simp⟩]
      simp only [Array.getD_eq_getD_getElem?, Array.getElem?_setIfInBounds]
      simp [show off + j0 < cs.size by omega]
    · by_cases h1 : off + (j0 + 1) ≤ i ∧ i < off + (j0 + 1) + vs.length
      · rw [if_pos h1, if_pos ⟨by omega, by simp; omega⟩]
        rw [show i - (off + j0) = (i - (off + (j0 + 1))) + 1 from by omega]
        simp
      · rw [if_neg h1, if_neg (by simp; omega)]
        simp only [Array.getD_eq_getD_getElem?, Array.getElem?_setIfInBounds]
        rw [if_neg (by omega)]

/-- the parts laid into the zero -/
theorem pfill_ok {place : Nat → Option (Nat × Nat)} : ∀ {parts : List (Nat × Operand)} {cells : List PV} {arr : Array Value} {cs : List PV}, Inv P E S0 N σ a w c → arr.size = cells.length →
    (∀ (i : Nat) pv, cells[i]? = some pv → RV P w c pv (arr.getD i undef)) → pfill place cells (parts.map fun p => (p.1, pev σ p.2)) = some cs →
    ∃ out : Array Value, Instr.fill place arr (parts.map fun p => (p.1, a.eval p.2)) = some out ∧ out.size = cs.length ∧ ∀ (i : Nat) pv, cs[i]? = some pv → RV P w c pv (out.getD i undef)
  | [], cells, arr, cs, _, hn, hr, h => by
    simp [pfill] at h
    subst h
    exact ⟨arr, rfl, hn, hr⟩
  | (i, x) :: parts, cells, arr, cs, inv, hn, hr, h => by
    simp only [List.map_cons, pfill] at h
    cases hp : place i with
    | none => simp [hp] at h
    | some os =>
      obtain ⟨off, size⟩ := os
      simp only [hp] at h
      split at h
      case isFalse => cases h
      rename_i hc
      obtain ⟨h1, h2, h3⟩ := hc
      obtain ⟨q1, q2⟩ := (inv.ev x).cells h3
      have hl : (a.eval x).cells.toList.length = size := by simp; omega
      have st := fun i => setList_get (a.eval x).cells.toList arr off 0 i (by rw [hl]; omega)
      have e : (a.eval x).cells.zipIdx.foldl (fun cs (p : Value × Nat) => cs.setIfInBounds (off + p.2) p.1) arr = ((a.eval x).cells.toList.zipIdx 0).foldl (fun cs (p : Value × Nat) => cs.setIfInBounds (off + p.2) p.1) arr := by
        rw [← Array.foldl_toList, Array.toList_zipIdx]
      simp only [List.map_cons, Instr.fill, hp]
      have hsz : (a.eval x).cells.size = size := by simpa using hl
      rw [if_neg (by simp only [Bool.or_eq_true, decide_eq_true_eq]; omega)]
      refine pfill_ok inv ?_ ?_ h
      · rw [e, (st 0).1, setAt_length, hn]
      · intro j pv hg
        rw [setAt_get] at hg
        rw [e, (st j).2]
        simp only [Nat.add_zero, hl]
        split at hg
        · rename_i hh
          rw [if_pos (by omega)]
          have : (a.eval x).cells.toList.getD (j - off) undef = (a.eval x).cells.getD (j - off) undef := by simp [Array.getD_eq_getD_getElem?]
          rw [this]
          exact (q2 _ pv hg).1
        · rename_i hh
          have hj : j < cells.length := by
            rcases Nat.lt_or_ge j cells.length with hh | hh
            · exact hh
            · rw [List.getElem?_eq_none hh] at hg; cases hg
          rw [if_neg (by omega)]
          exact hr j pv hg

theorem run_mapM {α β : Type} {f : α → Sem β} {g : α → β} : ∀ (l : List α), (∀ x ∈ l, (f x).run P w = .ok (g x) w) → (l.mapM f).run P w = .ok (l.map g) w
  | [], _ => by simp [List.mapM_nil]
  | x :: l, h => by
    simp only [List.mapM_cons, Sem.run_bind, h x (by simp), Result.andThen_ok, run_mapM l (fun y hy => h y (by simp [hy])), Sem.run_pure, List.map_cons]
theorem run_mapMA {α β : Type} {f : α → Sem β} {g : α → β} (l : Array α) (h : ∀ x ∈ l.toList, (f x).run P w = .ok (g x) w) : (l.mapM f).run P w = .ok (l.map g) w := by
  rw [Array.mapM_eq_mapM_toList]
  simp only [Sem.run_bind, map_eq_pure_bind, run_mapM l.toList h, Result.andThen_ok, Sem.run_pure]
  congr 1
  apply Array.ext' 
  simp

theorem build_ok {t : TypeId} {z : Value} (hz : tZero P t = some z) {parts : Array (Nat × Operand)} {cs : List PV} (inv : Inv P E S0 N σ a w c)
    (h : (match P.underlying t with
      | some (.struct fs) => if fs.toList.all (fun f => (P.info? f.type).isSome) then (pfill (fun i => (fs[i]?).map fun f => (f.offset, tSize P f.type)) (ofV z).cells (parts.toList.map fun p => (p.1, pev σ p.2))) else none
      | some (.array _ e) => if (P.info? e).isSome then (pfill (fun i => some (i * tSize P e, tSize P e)) (ofV z).cells (parts.toList.map fun p => (p.1, pev σ p.2))) else none
      | _ => none) = some cs) :
    ∃ v, (Instr.build t (parts.map fun p => (p.1, a.eval p.2))).run P w = .ok v w ∧ RV P w c (.agg cs) v := by
  have hzv : (zeroValue t).run P w = .ok z w := by
    unfold tZero at hz
    cases hi : P.info? t with
    | none => simp [hi] at hz
    | some i => simp [hi] at hz; simp [zeroValue, typeInfo, hi, hz]
  obtain ⟨z1, z2⟩ := zero_cells (w := w) (c := c) (z := z)
  have hzr : ∀ (i : Nat) pv, (ofV z).cells[i]? = some pv → RV P w c pv (z.cells.getD i undef) := fun i pv hg => .free _ _ (z2 i pv hg)
  have hparts : (parts.map fun p => (p.1, a.eval p.2)).toList = parts.toList.map fun p => (p.1, a.eval p.2) := by simp
  split at h
  · rename_i fs hu
    split at h
    case isFalse => cases h
    rename_i hall
    obtain ⟨out, q1, q2, q3⟩ := pfill_ok inv z1.symm hzr h
    refine ⟨.agg out, ?_, .agg cs out q2 q3⟩
    have hm : (fs.mapM fun (f : Field) => do pure (f.offset, ← sizeOf f.type)).run P w = .ok (fs.map fun f => (f.offset, tSize P f.type)) w := by
      refine run_mapMA (g := fun f => (f.offset, tSize P f.type)) fs fun f hf => ?_
      have := List.all_eq_true.1 hall f hf
      simp only [Sem.run_bind, run_sizeOf (Option.isSome_iff_exists.1 this), Result.andThen_ok, Sem.run_pure]
    have hp : (fun (i : Nat) => (fs.map fun (f : Field) => (f.offset, tSize P f.type))[i]?) = fun (i : Nat) => (fs[i]?).map fun (f : Field) => (f.offset, tSize P f.type) := by funext i; simp
    unfold Instr.build
    simp only [Sem.run_bind, hzv, Result.andThen_ok, run_underlying hu, hm, hparts, hp, q1, Sem.run_pure]
  · rename_i n e hu
    split at h
    case isFalse => cases h
    rename_i hall
    obtain ⟨out, q1, q2, q3⟩ := pfill_ok inv z1.symm hzr h
    refine ⟨.agg out, ?_, .agg cs out q2 q3⟩
    unfold Instr.build
    simp only [Sem.run_bind, hzv, Result.andThen_ok, run_underlying hu, run_sizeOf (Option.isSome_iff_exists.1 hall), hparts, q1, Sem.run_pure]
  · cases h

theorem eq_ok {op : BinOp} {t : TypeId} {xs ys : List PV} {b : Bool} {X Y : Value} {x y : Operand} (hE : EqC P t xs.length) (rx : RV P w c (.agg xs) X) (ry : RV P w c (.agg ys) Y) (h : peqL xs ys = some b) (hop : op = .eql ∨ op = .neq) :
    (do eqGuard op t x y X Y; binOp op t X Y : Sem Value).run P w = .ok (.bool (if op = .eql then b else !b)) w := by
  obtain ⟨as, bs, rfl, rfl, rfl⟩ := peqL_ok h
  rw [List.length_map] at hE
  have e1 := agg_ints rx
  have e2 := agg_ints ry
  have hl : bs.length = as.length := by
    have : ∀ (as bs : List Int) b, peqL (as.map fun n => PV.lit (.int .i64 n)) (bs.map fun n => PV.lit (.int .i64 n)) = some b → bs.length = as.length := by
      intro as
      induction as with
      | nil => intro bs b h; cases bs <;> simp [peqL] at h ⊢
      | cons a as ih =>
        intro bs b h
        cases bs with
        | nil => simp [peqL] at h
        | cons b' bs =>
          simp only [List.map_cons, peqL, Option.map_eq_some_iff] at h
          obtain ⟨b1, h1, _⟩ := h
          simp [ih bs b1 h1]
    exact this as bs _ h
  subst e1 e2
  obtain ⟨hg, heq⟩ := hE
  have hq := heq as bs w rfl hl
  rcases hop with rfl | rfl <;> simp [eqGuard, binOp, hg, hq, program, Sem.run]

theorem guard_int {op : BinOp} {t : TypeId} {x y : Operand} {k k' : IntKind} {n m : Int} : (eqGuard op t x y (.int k n) (.int k' m)).run P w = .ok () w := by
  unfold eqGuard
  cases op <;> simp <;> rfl

/-- The new row of make. -/
theorem make_ok {o : Oper} {t e : TypeId} {l m : Operand} {n k : Nat} {z : Value} (ho : o.op = .makeSlice t l m) (ht : tElem P t = some e) (hl : pidx (pev σ l) = some n) (hm : pidx (pev σ m) = some k) (hz : tZero P e = some z)
    (hrow : tRow P e = true) (hnk : n ≤ k) (hk : k ≤ LIM) (hone : z.cells.toList.all Value.oneCell' = true) {J : List (Nat × Nat)} (hJ : ∀ j e', Jat J j = some e' → 0 < tSize P e' ∧ (j < tSize P e → z.cells.getD j undef = .slice none 0 0)) (h : Inv P E S0 N σ a w c) (hd : ∀ k, o.dst = some k → k < N) :
    Does P E S0 N o a w (Res.put σ o.dst (.new (o.dst.getD 0) (.row e J (List.replicate n (z.cells.toList.map ofE))) (.row (.top (o.dst.getD 0)) e))) := by
  obtain ⟨i, z', hi, hz', hsz, hby, hzs, hsize⟩ := tRow_some hrow
  obtain rfl : z' = z := by unfold tZero at hz; simp [hi, hz'] at hz; exact hz
  obtain ⟨k1, e1⟩ := int_of_pidx (h.ev l) hl
  obtain ⟨k2, e2⟩ := int_of_pidx (h.ev m) hm
  have hb : (i.bytes : Int) * (k : Int) ≤ 281474976710656 := by
    have := Nat.mul_le_mul hby hk
    unfold LIM at this
    have h2 : ((i.bytes * k : Nat) : Int) ≤ 281474976710656 := by omega
    rwa [Int.natCast_mul] at h2
  have hr := run_make (P := P) w t e i z' (tElem_some ht) hi hz' k1 k2 n k (by omega) (by omega) hb (by unfold LIM at hk; omega)
  simp only [Int.toNat_natCast] at hr
  have hexec : (execOp a.eval o).run P w = .ok (.value (.slice (some ⟨w.heap.size, 0, none⟩) n k)) (w.alloc (.cells (madeCells z'.cells (k * i.size)) e)) := by
    unfold execOp
    simp only [ho, Sem.run_bind, Sem.run_pure, e1, e2, hr, Result.andThen_ok]
  have hbel : Below w.heap.size w (w.alloc (.cells (madeCells z'.cells (k * i.size)) e)) := (Below.refl _ _).alloc (Nat.le_refl _) _
  have hzl : (z'.cells.toList.map ofE).length = tSize P e := by simp [hzs, hsize]
  have hcell : ∀ q, q < n * tSize P e → ((madeCells z'.cells (k * i.size)).toList.take (n * tSize P e)).getD q undef = z'.cells.getD (q % tSize P e) undef := by
    intro q hq
    have hq2 : q < k * i.size := by
      have := Nat.mul_le_mul_right i.size hnk
      rw [hsize] at this ⊢; omega
    rw [take_getD _ _ _ hq]
    have hmod : q % z'.cells.size < z'.cells.size := Nat.mod_lt _ (by omega)
    simp only [madeCells, Array.toList_map, Array.toList_range, List.getD_eq_getElem?_getD, List.getElem?_map, List.getElem?_range hq2, Option.map_some, Option.getD_some]
    rw [← hsize, ← hzs]
    simp [Array.getD_eq_getD_getElem?, hmod]
  have hz0 : ∀ q, q < tSize P e → z'.cells.getD q undef ∈ z'.cells.toList := by
    intro q hq
    have : q < z'.cells.size := by omega
    simp [Array.getD_eq_getD_getElem?, this]
  have hgE : ∀ i j pv, getE (List.replicate n (z'.cells.toList.map ofE)) i j = some pv → i < n ∧ j < tSize P e ∧ pv = ofE (z'.cells.getD j undef) := by
    intro i j pv hg
    unfold getE at hg
    rw [List.getElem?_replicate] at hg
    split at hg
    · rename_i hi'
      simp only [Option.bind_some, List.getElem?_map] at hg
      cases hc : z'.cells.toList[j]? with
      | none => simp [hc] at hg
      | some u =>
        simp [hc] at hg
        have hj : j < tSize P e := by
          rcases Nat.lt_or_ge j z'.cells.toList.length with hh | hh
          · simp at hh; omega
          · rw [List.getElem?_eq_none hh] at hc; cases hc
        refine ⟨hi', hj, ?_⟩
        rw [← hg]
        congr 1
        rw [Array.getElem?_toList] at hc
        simp [Array.getD_eq_getD_getElem?, hc]
    · cases hg
  have hidx : ∀ i j, j < tSize P e → (i * tSize P e + j) % tSize P e = j := by
    intro i j hj
    rw [Nat.add_comm, Nat.add_mul_mod_self_right, Nat.mod_eq_of_lt hj]
  let c' := c.lay (o.dst.getD 0) w.heap.size (.slice (some ⟨w.heap.size, 0, none⟩) n k) e True J
  have hok : c'.Ok E.M (w.alloc (.cells (madeCells z'.cells (k * i.size)) e)) := lay_ok h.ok hbel.size (fun _ => ⟨h.below.mine (Nat.le_refl _), by simp, fun hS => by have := h.ok.hS _ hS; omega⟩) fun _ k' _ hg' e => by have := (h.ok.hD k' hg').2.1; omega
  have hhd : c'.hd (.top (o.dst.getD 0)) = .slice (some ⟨w.heap.size, 0, none⟩) n k := lay_top.2.1
  have hrep : HRep P (w.alloc (.cells (madeCells z'.cells (k * i.size)) e)) c' (o.dst.getD 0) (.row e J (List.replicate n (z'.cells.toList.map ofE))) := by
    refine ⟨(madeCells z'.cells (k * i.size)).toList.take (n * tSize P e), lay_top.2.2.1, by omega, fun l hl => by rw [List.eq_of_mem_replicate hl]; exact hzl, ?_, fun b hb' => ?_, fun i j pv hg => ?_, fun i j pv hg => ?_⟩
    · rw [hhd]
      refine ⟨?_, .inr ⟨w.heap.size, k, madeCells z'.cells (k * i.size), ?_, Nat.zero_le _, heap_alloc_new w _, ?_, ?_, ?_, ?_⟩⟩
      · rw [List.length_take, Array.length_toList, size_madeCells, List.length_replicate, hsize]
        have := Nat.mul_le_mul_right (tSize P e) hnk
        omega
      · rw [List.length_replicate]
      · rw [List.length_replicate]; exact hnk
      · unfold LIM at hk; unfold maxLen; omega
      · rw [size_madeCells, hsize]
      · rw [List.length_replicate]
    · rw [hhd] at hb'
      simp [Value.ownBlock] at hb'; subst hb'
      exact ⟨lay_top.2.2.2.2 trivial, lay_top.1⟩
    · obtain ⟨q1, q2, q3⟩ := hgE i j pv hg
      rw [hcell _ (idx_lt q1 q2), hidx i j q2]
      exact List.all_eq_true.1 hone _ (hz0 j q2)
    · obtain ⟨q1, q2, rfl⟩ := hgE i j pv hg
      rw [hcell _ (idx_lt q1 q2), hidx i j q2]
      unfold CellRep
      cases hj : Jat J j with
      | none => exact ofE_RF _ _ _
      | some e' =>
        obtain ⟨p1, p2⟩ := hJ j e' hj
        rw [p2 q2]
        have ls : c'.hd (.sub (o.dst.getD 0) i j) = .slice none 0 0 ∧ c'.ty (.sub (o.dst.getD 0) i j) = (Jat J j).getD 0 := lay_sub
        refine ⟨ls.1.symm, [], [], rfl, by rw [ls.2, hj]; rfl, p1, by simp, ?_, fun b hb' => ?_, by simp [getE], by simp [getE]⟩
        · rw [ls.1]; exact World.ownsRow_nil _ 0 e' _
        · rw [ls.1] at hb'; simp [Value.ownBlock] at hb'
  refine does_new (dst_small h hd) h hd hexec hbel hok (fun _ => Iff.rfl) (fun k hk => ⟨lay_agree hk, (lay_D hk).2⟩) hrep ?_
  obtain ⟨xs', r'⟩ := hrep
  have := RV.row (P := P) (w := w.alloc (.cells (madeCells z'.cells (k * i.size)) e)) (c := c') (.top (o.dst.getD 0)) e r'.ty r'.hd_one
  rwa [hhd] at this

theorem getE_slice {es : List (List PV)} {n l i j : Nat} {pv : PV} (hg : getE ((es.take n).drop l) i j = some pv) : getE es (i + l) j = some pv := by
  unfold getE at hg ⊢
  rw [List.getElem?_drop, List.getElem?_take] at hg
  rw [Nat.add_comm i l]
  split at hg
  · exact hg
  · simp at hg
theorem slice_ok {o : Oper} {t e : TypeId} {x : Operand} {lo hi : Option Operand} {l : Nat} {h' : Option Nat} {r : PV} (ho : o.op = .slice t x lo hi none) (ht : tElem P t = some e) (hinfo : ∃ i, P.info? e = some i)
    (hl : poptL σ lo = some l) (hh : poptH σ hi = some h') (h : Inv P E S0 N σ a w c) (hd : ∀ k, o.dst = some k → k < N) (hr : pslice (tSize P) (tSize P e) σ.h (pev σ x) l h' = some r) : Does P E S0 N o a w (Res.put σ o.dst (.val r)) := by
  have rx := h.ev x
  have hu := tElem_some ht
  have hlow : (lo.map a.eval = none ∧ l = 0) ∨ ∃ k, lo.map a.eval = some (.int k l) := by
    unfold poptL at hl
    cases lo with
    | none => simp at hl; exact .inl ⟨rfl, hl.symm⟩
    | some y => obtain ⟨k, e⟩ := int_of_pidx (h.ev y) hl; exact .inr ⟨k, by simp [e]⟩
  have hhi : (hi.map a.eval = none ∧ h' = none) ∨ ∃ k m, hi.map a.eval = some (.int k (m : Nat)) ∧ h' = some m := by
    unfold poptH at hh
    cases hi with
    | none => simp at hh; exact .inl ⟨rfl, hh.symm⟩
    | some y =>
      simp only [Option.map_eq_some_iff] at hh
      obtain ⟨m, hm, rfl⟩ := hh
      obtain ⟨k, e⟩ := int_of_pidx (h.ev y) hm
      exact .inr ⟨k, m, by simp [e], rfl⟩
  have run : ∀ (A : Option Addr) (n cc : Nat), l ≤ h'.getD n → h'.getD n ≤ n → n ≤ cc → (Instr.sliceAt t (.slice A n cc) (lo.map a.eval) (hi.map a.eval) none).run P w = .ok (.slice (if cc = l then A else A.map (·.add (l * tSize P e))) (h'.getD n - l) (cc - l)) w := by
    intro A n cc h1 h2 h3
    have bnd : (Instr.sliceBounds true n cc (lo.map a.eval) (hi.map a.eval) none).run P w = .ok (l, h'.getD n, cc) w := by
      rcases hhi with ⟨e1, rfl⟩ | ⟨k, m, e1, rfl⟩ <;> rcases hlow with ⟨e2, rfl⟩ | ⟨k2, e2⟩ <;> rw [e1, e2] <;> simp only [Option.getD_none, Option.getD_some] at h1 h2
      · simp [Instr.sliceBounds]
      · have := run_sliceBound (P := P) (w := w) k2 (l : Int) n .sliceB (by omega) (by omega)
        simp [Instr.sliceBounds, this]
      · have := run_sliceBound (P := P) (w := w) k (m : Int) cc .sliceAcap (by omega) (by omega)
        simp [Instr.sliceBounds, this]
      · have q1 := run_sliceBound (P := P) (w := w) k (m : Int) cc .sliceAcap (by omega) (by omega)
        have q2 := run_sliceBound (P := P) (w := w) k2 (l : Int) m .sliceB (by omega) (by omega)
        simp [Instr.sliceBounds, q1, q2]
    have e0 : (none : Option Operand).map a.eval = none := rfl
    simp only [Instr.sliceAt, Instr.slice, Sem.run_bind, run_underlying hu, Result.andThen_ok, bnd, run_sizeOf hinfo, Sem.run_pure]
  have hexec : ∀ v w', (Instr.sliceAt t (a.eval x) (lo.map a.eval) (hi.map a.eval) none).run P w = .ok v w' → (execOp a.eval o).run P w = .ok (.value v) w' := by
    intro v w' hrun
    unfold execOp
    simp only [ho, Sem.run_bind, Sem.run_pure, Option.map_none, hrun, Result.andThen_ok]
  generalize pev σ x = px at *
  generalize a.eval x = X at *
  unfold pslice at hr
  cases rx with
  | free pv v hf =>
    cases hf with
    | sl es k A n cc vf hn hk hk0 hcc ha hcell h1 hrr =>
      simp only at hr
      split at hr
      case isFalse => cases hr
      rename_i hc
      obtain ⟨c1, c2, c3⟩ := hc
      injection hr with hr
      subst hr
      subst hn
      have hlt1 : (es.take (h'.getD es.length)).drop l ≠ [] → l < h'.getD es.length := fun hne => by
        rcases Nat.lt_or_ge l (h'.getD es.length) with q | q
        · exact q
        · exact absurd (List.drop_eq_nil_of_le (by rw [List.length_take]; omega)) hne
      have hlt2 : ∀ i j pv, getE ((es.take (h'.getD es.length)).drop l) i j = some pv → l < h'.getD es.length := fun i j pv hg => hlt1 (by intro e; rw [e] at hg; simp [getE] at hg)
      refine does_value h hd (hexec _ _ (run A es.length cc c1 c2 hcc)) (.free _ _ ?_)
      refine .sl _ k _ _ _ (fun i j => vf (i + l) j) (by rw [List.length_drop, List.length_take]; omega) (fun e he => hk e (List.mem_of_mem_take (List.mem_of_mem_drop he))) hk0 (by omega) (fun hne => ?_) (fun ad had i j pv hg => ?_) (fun i j pv hg => ?_) (fun i j pv hg => ?_)
      · have hlt := hlt1 hne
        obtain ⟨ad, e1, e2⟩ := ha (by intro e; subst e; simp only [List.length_nil] at c2 hlt; omega)
        rw [if_neg (by omega), e1]
        exact ⟨_, rfl, by rw [add_block]; exact e2⟩
      · have hlt := hlt2 i j pv hg
        have hg' := getE_slice hg
        rw [if_neg (by omega)] at had
        simp only [Option.map_eq_some_iff] at had
        obtain ⟨ad0, e1, rfl⟩ := had
        have hks : l = 0 ∨ k = tSize P e := by
          simp only [Bool.or_eq_true, beq_iff_eq] at c3
          rcases c3 with q | q
          · exact .inl q
          · right
            have hne : es ≠ [] := by intro e; subst e; simp [getE] at hg'
            obtain ⟨x, hx⟩ := List.exists_mem_of_ne_nil es hne
            rw [← hk x hx, len_all q x hx]
        rw [add_add]
        have : l * tSize P e + (i * k + j) = (i + l) * k + j := by
          rcases hks with q | q
          · subst q; simp
          · rw [← q, Nat.add_mul]; omega
        rw [this]
        exact hcell _ e1 _ _ _ hg'
      · exact h1 _ _ _ (getE_slice hg)
      · exact hrr _ _ _ (getE_slice hg)
    | _ => simp at hr
  | row k e0 he0 _ =>
    simp only at hr
    split at hr
    case h_2 => cases hr
    rename_i es hrow
    split at hr
    case isFalse => cases hr
    rename_i hc
    obtain ⟨c1, c2, hsz⟩ := hc
    injection hr with hr
    subst hr
    obtain ⟨e', xs, rr⟩ := rowAt_rep h.objs hrow
    obtain rfl : e' = e0 := rr.ty.symm.trans he0
    rcases rr.own.2 with ⟨h0, hn⟩ | ⟨g2, cap, cur, h0, hb2, hg2, hnc, hcm, hcs, htake⟩
    · have hz : h'.getD es.length = 0 := by omega
      have hl0 : l = 0 := by omega
      have hrun := hexec _ _ (by rw [h0]; exact run none 0 0 (by omega) (by rw [hn] at c2 hz; omega) (Nat.le_refl _))
      have hz0 : h'.getD 0 = 0 := by rw [hn] at hz; exact hz
      refine does_value h hd hrun ?_
      rw [hz, hz0, hl0]
      exact .part k e' 0 (0 - 0) _ _ he0 (by omega) (fun h => by omega)
    · obtain ⟨_, hτ⟩ := rr.blk g2 (by rw [h0]; rfl)
      have hrun := hexec _ _ (by rw [h0]; exact run (some ⟨g2, 0, none⟩) es.length cap c1 c2 hnc)
      refine does_value h hd hrun (.part k e' l _ _ _ he0 (by omega) fun hpos => ?_)
      rw [if_neg (by omega)]
      have hs : es ≠ [] → tSize P e' = tSize P e := fun hne => by
        obtain ⟨x, hx⟩ := List.exists_mem_of_ne_nil es hne
        rw [← rr.len x hx]
        have := List.all_eq_true.1 hsz x hx
        simpa using this
      rw [hs (fun hne => by subst hne; simp only [List.length_nil] at c2 hpos; omega), hτ]
      simp [add_lit]
  | part k e0 lo n A cc he0 hn hA =>
    simp only at hr
    split at hr
    case isFalse => cases hr
    rename_i hc
    obtain ⟨c1, c2, hsz⟩ := hc
    injection hr with hr
    subst hr
    refine does_value h hd (hexec _ _ (run A n cc c1 c2 hn)) (.part k e0 (lo + l) _ _ _ he0 (by omega) fun hpos => ?_)
    rw [if_neg (by omega), hA (by omega)]
    simp only [Option.map_some, add_lit, Option.some.injEq]
    rw [← hsz, Nat.add_mul]
  | _ => simp at hr
end
end Go.VI
