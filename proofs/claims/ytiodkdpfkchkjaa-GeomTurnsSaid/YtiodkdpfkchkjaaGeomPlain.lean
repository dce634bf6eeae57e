/- The laws of the geometry's first functions, on the models alone. -/
import Derived.Test.YtiodkdpfkchkjaaGeMA
import Derived.Test.YtiodkdpfkchkjaaVIPlain
import Derived.Test.YtiodkdpfkchkjaaR3P
set_option linter.unusedVariables false
set_option linter.unusedSimpArgs false
set_option linter.unusedSectionVars false
namespace Go.SM
open Go Go.VI Go.Geo
theorem sq_le (a M : Int) (h : -M ≤ a ∧ a ≤ M) : 0 ≤ a * a ∧ a * a ≤ M * M := ⟨sq_nn a, by
  have h1 : 0 ≤ (M - a) * (M + a) := Int.mul_nonneg (by omega) (by omega)
  grind⟩
theorem mul_le (a b M : Int) (ha : -M ≤ a ∧ a ≤ M) (hb : -M ≤ b ∧ b ≤ M) : -(M * M) ≤ a * b ∧ a * b ≤ M * M := by
  have h1 : 0 ≤ (M - a) * (M + b) := Int.mul_nonneg (by omega) (by omega)
  have h2 : 0 ≤ (M + a) * (M - b) := Int.mul_nonneg (by omega) (by omega)
  have h3 : 0 ≤ (M - a) * (M - b) := Int.mul_nonneg (by omega) (by omega)
  have h4 : 0 ≤ (M + a) * (M + b) := Int.mul_nonneg (by omega) (by omega)
  constructor <;> grind
/-- lies n within m? -/
def wb (m n : Int) : Bool := decide (-m ≤ n) && decide (n ≤ m)
theorem wb_iff {m n : Int} : wb m n = true ↔ -m ≤ n ∧ n ≤ m := by unfold wb; simp only [Bool.and_eq_true, decide_eq_true_eq]
theorem within_eq (n m : Int) (h : -1000000000 ≤ m ∧ m ≤ 1000000000) : geom_within n m = some (wb m n) := by
  unfold geom_within wb
  rw [ineg_eq (by omega) (by omega)]
  by_cases h1 : -m ≤ n <;> simp [h1]
def sgn (n : Int) : Int := if n < 0 then -1 else if 0 < n then 1 else 0
theorem sign_eq (n : Int) : geom_sign n = some (sgn n) := by
  unfold geom_sign sgn
  by_cases h1 : n < 0
  · simp [h1]
  · by_cases h2 : 0 < n <;> simp [h1, h2]
theorem sgn_cases (n : Int) : (n < 0 ∧ sgn n = -1) ∨ (n = 0 ∧ sgn n = 0) ∨ (0 < n ∧ sgn n = 1) := by
  unfold sgn; split
  · omega
  · split <;> omega
def rt (r : Root) : R3 := ⟨r.A, r.B⟩
/-- within m, both numbers -/
def rIn (m : Int) (r : Root) : Bool := wb m r.A && wb m r.B
theorem rIn_iff {m : Int} {r : Root} : rIn m r = true ↔ (-m ≤ r.A ∧ r.A ≤ m) ∧ (-m ≤ r.B ∧ r.B ≤ m) := by
  unfold rIn; rw [Bool.and_eq_true, wb_iff, wb_iff]
theorem sg_ab (a b : Int) : (R3.sg ⟨a, b⟩ = if 0 ≤ sgn a * sgn b then sgn (sgn a + sgn b) else sgn a * sgn (a * a - 3 * b * b)) ∧
    (R3.sg ⟨a, b⟩ = if sgn a = sgn b ∨ sgn b = 0 then sgn a else if sgn a = 0 then sgn b else if 3 * b * b < a * a then sgn a else sgn b) := by
  have hP := sq_nn a
  have hQ := sq_nn b
  have e : 3 * b * b = 3 * (b * b) := by grind
  have i := @irr a b
  have pa : a ≠ 0 → 0 < a * a := fun h => by
    have : a * a ≠ 0 := fun q => h (by rcases Int.mul_eq_zero.1 q with q | q <;> exact q)
    omega
  have pb : b ≠ 0 → 0 < b * b := fun h => by
    have : b * b ≠ 0 := fun q => h (by rcases Int.mul_eq_zero.1 q with q | q <;> exact q)
    omega
  have za : a = 0 → a * a = 0 := fun h => by rw [h]; rfl
  have zb : b = 0 → b * b = 0 := fun h => by rw [h]; rfl
  rw [e]
  rcases R3.sg_cases ⟨a, b⟩ with ⟨h, q⟩ | ⟨h, q1, q2⟩ | ⟨h, q1, q2⟩
  · have q' : a = 0 ∧ b = 0 := by
      have := congrArg R3.a q; have q3 := congrArg R3.b q
      simpa using ⟨this, q3⟩
    rw [h, q'.1, q'.2]; decide
  all_goals
    rw [h]
    simp only [R3.Nn, R3.neg_a, R3.neg_b, Int.neg_mul_neg] at q1 q2
    have ec := sgn_cases (a * a - 3 * (b * b))
    generalize a * a = P at *
    generalize b * b = Q at *
    generalize sgn (P - 3 * Q) = sc at *
    rcases sgn_cases a with ⟨ha, ea⟩ | ⟨ha, ea⟩ | ⟨ha, ea⟩ <;> rcases sgn_cases b with ⟨hb, eb⟩ | ⟨hb, eb⟩ | ⟨hb, eb⟩ <;> rw [ea, eb]
    all_goals
      first
        | (exfalso; omega)
        | (constructor <;> (repeat' split) <;> first | decide | omega | (simp only [sgn]; (repeat' split) <;> omega))
theorem signOf_eq (r : Root) (h : rIn 1000000000 r = true) : geom_signOf r = some (R3.sg (rt r)) := by
  obtain ⟨ha, hb⟩ := rIn_iff.1 h
  have h1 := sq_le _ _ ha
  have h2 := sq_le _ _ hb
  have e : 3 * r.B * r.B = 3 * (r.B * r.B) := by grind
  have key := (sg_ab r.A r.B).1
  unfold rt
  rw [key]
  have ea := sgn_cases r.A
  have eb := sgn_cases r.B
  have ec := sgn_cases (r.A * r.A - 3 * r.B * r.B)
  unfold geom_signOf
  simp only [sign_eq, Option.bind_some]
  have m1 : imul (sgn r.A) (sgn r.B) = sgn r.A * sgn r.B := by
    rcases ea with ⟨_, ea⟩ | ⟨_, ea⟩ | ⟨_, ea⟩ <;> rcases eb with ⟨_, eb⟩ | ⟨_, eb⟩ | ⟨_, eb⟩ <;> rw [ea, eb] <;> rfl
  have m2 : iadd (sgn r.A) (sgn r.B) = sgn r.A + sgn r.B := iadd_eq (by omega) (by omega)
  have m3 : isub (imul r.A r.A) (imul (imul 3 r.B) r.B) = r.A * r.A - 3 * r.B * r.B := by
    rw [imul_eq (by omega) (by omega), imul_eq (a := 3) (by omega) (by omega), imul_eq (by omega) (by omega), isub_eq (by omega) (by omega)]
  rw [m1, m2, m3]
  by_cases q : 0 ≤ sgn r.A * sgn r.B
  · simp [q]
  · have m4 : imul (sgn r.A) (sgn (r.A * r.A - 3 * r.B * r.B)) = sgn r.A * sgn (r.A * r.A - 3 * r.B * r.B) := by
      rcases ea with ⟨_, ea⟩ | ⟨_, ea⟩ | ⟨_, ea⟩ <;> rcases ec with ⟨_, ec⟩ | ⟨_, ec⟩ | ⟨_, ec⟩ <;> rw [ea, ec] <;> rfl
    simp [q, m4]
theorem rsign_eq (r : Root) (h : rIn 1000000000 r = true) : sheetmetalref01_sign r = some (R3.sg (rt r)) := by
  obtain ⟨ha, hb⟩ := rIn_iff.1 h
  have h1 := sq_le _ _ ha
  have h2 := sq_le _ _ hb
  have e : 3 * r.B * r.B = 3 * (r.B * r.B) := by grind
  have m1 : imul r.A r.A = r.A * r.A := imul_eq (by omega) (by omega)
  have m2 : imul (imul 3 r.B) r.B = 3 * r.B * r.B := by rw [imul_eq (a := 3) (by omega) (by omega), imul_eq (by omega) (by omega)]
  have key := (sg_ab r.A r.B).2
  unfold rt
  rw [key]
  have k1 : ∀ j2 j4 : Int, sheetmetalref01_sign_k1 r j2 j4 = some (if j2 = j4 ∨ j4 = 0 then j2 else if j2 = 0 then j4 else if 3 * r.B * r.B < r.A * r.A then j2 else j4) := by
    intro j2 j4
    unfold sheetmetalref01_sign_k1
    rw [m1, m2]
    by_cases q1 : j2 = j4
    · simp [q1]
    · by_cases q2 : j4 = 0
      · simp [q1, q2]
      · by_cases q3 : j2 = 0
        · have q5 : ¬ (0 : Int) = j4 := fun h => q2 h.symm
          simp [q3, q2, q5]
        · by_cases q4 : 3 * r.B * r.B < r.A * r.A <;> simp [q1, q2, q3, q4]
  have k3 : ∀ j2 : Int, sheetmetalref01_sign_k3 r j2 = sheetmetalref01_sign_k1 r j2 (sgn r.B) := by
    intro j2
    unfold sheetmetalref01_sign_k3 sheetmetalref01_sign_k2
    rcases sgn_cases r.B with ⟨q, eb⟩ | ⟨q, eb⟩ | ⟨q, eb⟩ <;> rw [eb] <;> simp [q] <;> omega
  have k4 : sheetmetalref01_sign r = sheetmetalref01_sign_k1 r (sgn r.A) (sgn r.B) := by
    unfold sheetmetalref01_sign sheetmetalref01_sign_k4
    simp only [k3]
    rcases sgn_cases r.A with ⟨q, eb⟩ | ⟨q, eb⟩ | ⟨q, eb⟩ <;> rw [eb] <;> simp [q] <;> omega
  rw [k4, k1]
theorem rwithin_eq (n lo hi : Int) : sheetmetalref01_within n lo hi = some (decide (lo ≤ n) && decide (n ≤ hi)) := by
  unfold sheetmetalref01_within
  by_cases h1 : lo ≤ n <;> simp [h1]
theorem rootIn_eq (r : Root) (m : Int) (h : -1000000000 ≤ m ∧ m ≤ 1000000000) : sheetmetalref01_rootIn r m = some (rIn m r) := by
  unfold sheetmetalref01_rootIn rIn wb
  simp only [rwithin_eq, Option.bind_some]
  rw [ineg_eq (by omega) (by omega)]
  cases h1 : (decide (-m ≤ r.A) && decide (r.A ≤ m)) <;> simp
theorem rIn_mono {m n : Int} (h : m ≤ n) {r : Root} (hr : rIn m r = true) : rIn n r = true := by rw [rIn_iff] at *; omega
def signA (r : Root) : Int × Int := if rIn 268435456 r then (R3.sg (rt r), 0) else (0, 4)
theorem SignRoot_eq (r : Root) : geom_SignRoot r = some (signA r) := by
  unfold geom_SignRoot signA rIn
  simp only [within_eq _ 268435456 (by omega), Option.bind_some]
  by_cases h1 : wb 268435456 r.A = true
  · by_cases h2 : wb 268435456 r.B = true
    · simp [h1, h2, signOf_eq r (rIn_mono (m := 268435456) (by omega) (by unfold rIn; simp [h1, h2]))]
    · simp [h1, h2]
  · simp [h1]
theorem rSignRoot_eq (r : Root) : sheetmetalref01_SignRoot r = some (signA r) := by
  unfold sheetmetalref01_SignRoot signA
  simp only [rootIn_eq _ 268435456 (by omega), Option.bind_some]
  by_cases h1 : rIn 268435456 r = true
  · simp [h1, rsign_eq r (rIn_mono (m := 268435456) (by omega) h1)]
  · simp [h1]
theorem minus_eq {a b : Root} {m : Int} (hm : m ≤ 1000000000) (ha : rIn m a = true) (hb : rIn m b = true) : geom_minus a b = some ⟨a.A - b.A, a.B - b.B⟩ ∧ sheetmetalref01_minus a b = some ⟨a.A - b.A, a.B - b.B⟩ ∧ rIn (2 * m) ⟨a.A - b.A, a.B - b.B⟩ = true := by
  rw [rIn_iff] at ha hb
  unfold geom_minus sheetmetalref01_minus
  rw [isub_eq (by omega) (by omega), isub_eq (by omega) (by omega)]
  refine ⟨rfl, rfl, ?_⟩
  rw [rIn_iff]; simp only; omega
theorem rt_minus (a b : Root) : rt ⟨a.A - b.A, a.B - b.B⟩ = rt a - rt b := rfl
def cmpA (a b : Root) : Int × Int := if rIn 268435456 a && rIn 268435456 b then (R3.sg (rt a - rt b), 0) else (0, 4)
theorem four_all (p : Int → Bool) (a b c d : Int) : [a, b, c, d].all p = (p a && p b && (p c && p d)) := by simp [Bool.and_assoc]
theorem cmp_loop (a b : Root) : loopT (geom_CompareRoot_l1 a b) 0 = some (if rIn 268435456 a && rIn 268435456 b then .inr () else .inl ()) := by
  have := loop_all [a.A, a.B, b.A, b.B] (geom_CompareRoot_l1 a b) (wb 268435456) (.inl ()) (.inr ()) (fun k x h => by
    have hk : k < 4 := (List.getElem?_eq_some_iff.1 h).1
    unfold geom_CompareRoot_l1
    rw [idx_of h, iadd_eq (by omega) (by omega)]
    simp only [within_eq _ 268435456 (by omega), Option.bind_some]
    have : (k : Int) < 4 := by omega
    by_cases q : wb 268435456 x = true <;> simp [this, q]) (by simp [geom_CompareRoot_l1])
  rw [this, four_all]; rfl
theorem CompareRoot_eq (a b : Root) : geom_CompareRoot a b = some (cmpA a b) := by
  unfold geom_CompareRoot cmpA
  rw [cmp_loop]
  by_cases h : (rIn 268435456 a && rIn 268435456 b) = true
  · rw [Bool.and_eq_true] at h
    obtain ⟨q1, _, q3⟩ := minus_eq (by omega) h.1 h.2
    simp [h, q1, signOf_eq _ (rIn_mono (by omega) q3), rt_minus]
  · simp [h]
theorem rCompareRoot_eq (a b : Root) : sheetmetalref01_CompareRoot a b = some (cmpA a b) := by
  unfold sheetmetalref01_CompareRoot cmpA
  simp only [rootIn_eq _ 268435456 (by omega), Option.bind_some]
  by_cases h1 : rIn 268435456 a = true
  · by_cases h2 : rIn 268435456 b = true
    · obtain ⟨_, q1, q3⟩ := minus_eq (by omega) h1 h2
      simp [h1, h2, q1, rsign_eq _ (rIn_mono (by omega) q3), rt_minus]
    · simp [h1, h2]
  · simp [h1]
theorem known_eq : sheetmetallaw01_known = some true := by
  unfold sheetmetallaw01_known
  rw [SignRoot_eq]
  simp only [Option.bind_some]
  have t : geom_Turn ⟨2, 0⟩ 1 = some (⟨⟨0, 2⟩, ⟨2, 0⟩⟩, 0) := by
    unfold geom_Turn geom_near geom_turned geom_cosine
    simp only [within_eq _ 1000 (by omega), Option.bind_some]
    rfl
  rw [t]
  have s : signA ⟨7, -4⟩ = (1, 0) := by decide
  rw [s]
  rfl
theorem law_GeomSigns (a b c : Root) : sheetmetallaw01_GeomSigns a b c = some true := by
  unfold sheetmetallaw01_GeomSigns
  simp only [SignRoot_eq, rSignRoot_eq, CompareRoot_eq, rCompareRoot_eq, known_eq, Option.bind_some]
  have hb : (cmpA b a).1 = ineg (cmpA a b).1 := by
    unfold cmpA
    rw [Bool.and_comm (rIn 268435456 b)]
    split
    · have e : rt b - rt a = -(rt a - rt b) := by ext <;> simp <;> omega
      rw [e]
      show R3.sg (-(rt a - rt b)) = ineg (R3.sg (rt a - rt b))
      have := R3.sg_le_one (rt a - rt b)
      rw [R3.sg_neg, ineg_eq (by omega) (by omega)]
    · rfl
  have ht : (cmpA a b).2 = 0 → (cmpA b c).2 = 0 → (cmpA a b).1 ≤ 0 → (cmpA b c).1 ≤ 0 → (cmpA a c).1 ≤ 0 := by
    unfold cmpA
    intro h1 h2 h3 h4
    split at h1 <;> simp at h1
    rename_i q1
    split at h2 <;> simp at h2
    rename_i q2
    rw [Bool.and_eq_true] at q1 q2
    simp only [q1, q2, Bool.and_self, if_true] at h3 h4 ⊢
    have e : rt a - rt c = (rt a - rt b) + (rt b - rt c) := by ext <;> simp <;> omega
    rw [e]
    exact R3.sg_add_np h3 h4
  simp only [bne_self_eq_false, hb, beq_self_eq_true]
  by_cases h1 : (cmpA a b).2 = 0
  · by_cases h2 : (cmpA b c).2 = 0
    · by_cases h3 : (cmpA a b).1 ≤ 0
      · by_cases h4 : (cmpA b c).1 ≤ 0
        · have := ht h1 h2 h3 h4
          simp [h1, h2, this, show ¬ (0 < (cmpA a b).1) by omega, show ¬ (0 < (cmpA b c).1) by omega]
        · simp [h1, h2, show ¬ (0 < (cmpA a b).1) by omega, show (0 < (cmpA b c).1) by omega]
      · simp [h1, h2, show (0 < (cmpA a b).1) by omega]
    · simp [h1, h2]
  · simp [h1]

def mulR (a b : Root) : Root := ⟨a.A * b.A + 3 * a.B * b.B, a.A * b.B + a.B * b.A⟩
theorem rt_mulR (a b : Root) : rt (mulR a b) = rt a * rt b := rfl
theorem times_eq {a b : Root} {m : Int} (hm : 0 ≤ m ∧ m ≤ 16384) (ha : rIn m a = true) (hb : rIn m b = true) : geom_times a b = some (mulR a b) ∧ sheetmetalref01_times a b = some (mulR a b) ∧ rIn (4 * (m * m)) (mulR a b) = true := by
  rw [rIn_iff] at ha hb
  have hM : m * m ≤ 16384 * 16384 := (sq_le m 16384 (by omega)).2
  have hM0 : 0 ≤ m * m := sq_nn m
  have h1 := mul_le _ _ m ha.1 hb.1
  have h2 := mul_le _ _ m ha.2 hb.2
  have h3 := mul_le _ _ m ha.1 hb.2
  have h4 := mul_le _ _ m ha.2 hb.1
  have e : 3 * a.B * b.B = 3 * (a.B * b.B) := by grind
  have q : iadd (imul a.A b.A) (imul (imul 3 a.B) b.B) = a.A * b.A + 3 * a.B * b.B := by
    rw [imul_eq (by omega) (by omega), imul_eq (a := 3) (by omega) (by omega), imul_eq (by omega) (by omega), iadd_eq (by omega) (by omega)]
  have q2 : iadd (imul a.A b.B) (imul a.B b.A) = a.A * b.B + a.B * b.A := by
    rw [imul_eq (by omega) (by omega), imul_eq (by omega) (by omega), iadd_eq (by omega) (by omega)]
  unfold geom_times sheetmetalref01_times mulR
  rw [q, q2]
  refine ⟨rfl, rfl, ?_⟩
  rw [rIn_iff]; simp only; omega
def mulA (a b : Root) : Root × Int := if rIn 4096 a && rIn 4096 b then (mulR a b, 0) else (⟨0, 0⟩, 4)
theorem mul_loop (a b : Root) : loopT (geom_Multiply_l1 a b) 0 = some (if rIn 4096 a && rIn 4096 b then .inr () else .inl ()) := by
  have := loop_all [a.A, a.B, b.A, b.B] (geom_Multiply_l1 a b) (wb 4096) (.inl ()) (.inr ()) (fun k x h => by
    have hk : k < 4 := (List.getElem?_eq_some_iff.1 h).1
    unfold geom_Multiply_l1
    rw [idx_of h, iadd_eq (by omega) (by omega)]
    simp only [within_eq _ 4096 (by omega), Option.bind_some]
    have : (k : Int) < 4 := by omega
    by_cases q : wb 4096 x = true <;> simp [this, q]) (by simp [geom_Multiply_l1])
  rw [this, four_all]; rfl
theorem Multiply_eq (a b : Root) : geom_Multiply a b = some (mulA a b) := by
  unfold geom_Multiply mulA
  rw [mul_loop]
  by_cases h : (rIn 4096 a && rIn 4096 b) = true
  · rw [Bool.and_eq_true] at h
    simp [h, (times_eq (by omega) h.1 h.2).1]
  · simp [h]
theorem rMultiply_eq (a b : Root) : sheetmetalref01_Multiply a b = some (mulA a b) := by
  unfold sheetmetalref01_Multiply mulA
  simp only [rootIn_eq _ 4096 (by omega), Option.bind_some]
  by_cases h1 : rIn 4096 a = true
  · by_cases h2 : rIn 4096 b = true
    · simp [h1, h2, (times_eq (by omega) h1 h2).2.1]
    · simp [h1, h2]
  · simp [h1]
theorem law_GeomMultiplies (a b : Root) : sheetmetallaw01_GeomMultiplies a b = some true := by
  unfold sheetmetallaw01_GeomMultiplies
  simp only [Multiply_eq, rMultiply_eq, SignRoot_eq, known_eq, Option.bind_some]
  by_cases h : (rIn 4096 a && rIn 4096 b) = true
  · have h' := h
    rw [Bool.and_eq_true] at h
    have e : mulA a b = (mulR a b, 0) := by unfold mulA; rw [if_pos h']
    have r1 := rIn_mono (n := 268435456) (by omega) h.1
    have r2 := rIn_mono (n := 268435456) (by omega) h.2
    have r3 := rIn_mono (n := 268435456) (by omega) (times_eq (by omega) h.1 h.2).2.2
    have s1 : signA a = (R3.sg (rt a), 0) := by unfold signA; rw [if_pos r1]
    have s2 : signA b = (R3.sg (rt b), 0) := by unfold signA; rw [if_pos r2]
    have s3 : signA (mulR a b) = (R3.sg (rt a) * R3.sg (rt b), 0) := by unfold signA; rw [if_pos r3, rt_mulR, R3.sg_mul]
    have c1 := R3.sg_le_one (rt a)
    have c2 := R3.sg_le_one (rt b)
    have c3 := mul_le _ _ 1 c1 c2
    rw [e]
    simp only [s1, s2, s3]
    rw [imul_eq (by omega) (by omega)]
    simp
  · have e : mulA a b = (⟨0, 0⟩, 4) := by unfold mulA; rw [if_neg h]
    rw [e]
    simp
/-! ### turns -/
def cosT (k : Nat) : Root := ([⟨2, 0⟩, ⟨0, 1⟩, ⟨1, 0⟩, ⟨0, 0⟩, ⟨-1, 0⟩, ⟨0, -1⟩, ⟨-2, 0⟩, ⟨0, -1⟩, ⟨-1, 0⟩, ⟨0, 0⟩, ⟨1, 0⟩, ⟨0, 1⟩] : List Root).getD k ⟨0, 0⟩
theorem cosine_eq (k : Nat) (h : k < 21) : geom_cosine k = some (cosT (k % 12)) := by
  unfold geom_cosine
  have : Int.tmod (k : Int) 12 = ((k % 12 : Nat) : Int) := by rw [Int.tmod_eq_emod_of_nonneg (by omega)]; omega
  rw [this, idx_nat]
  have h2 : k % 12 < 12 := Nat.mod_lt _ (by omega)
  unfold cosT
  rw [List.getD_eq_getElem?_getD]
  generalize k % 12 = n at *
  have : n < ([⟨2, 0⟩, ⟨0, 1⟩, ⟨1, 0⟩, ⟨0, 0⟩, ⟨-1, 0⟩, ⟨0, -1⟩, ⟨-2, 0⟩, ⟨0, -1⟩, ⟨-1, 0⟩, ⟨0, 0⟩, ⟨1, 0⟩, ⟨0, 1⟩] : List Root).length := h2
  rw [List.getElem?_eq_getElem this]
  rfl
theorem rcosine_all : ∀ k : Nat, k < 15 → sheetmetalref01_cosine ((k : Int) - 3) = some (cosT ((k + 9) % 12)) := by
  have e : ∀ n, sheetmetalref01_cosine_n (n + 1) = sheetmetalref01_cosine_body (sheetmetalref01_cosine_n n) := fun n => rfl
  intro k hk
  unfold sheetmetalref01_cosine
  rw [show (1000 : Nat) = 998 + 1 + 1 from rfl, e, e]
  generalize sheetmetalref01_cosine_n 998 = f
  match k, hk with
  | 0, _ => rfl
  | 1, _ => rfl
  | 2, _ => rfl
  | 3, _ => rfl
  | 4, _ => rfl
  | 5, _ => rfl
  | 6, _ => rfl
  | 7, _ => rfl
  | 8, _ => rfl
  | 9, _ => rfl
  | 10, _ => rfl
  | 11, _ => rfl
  | 12, _ => rfl
  | 13, _ => rfl
  | 14, _ => rfl
def sIn (s : Spot) : Bool := wb 1000 s.X && wb 1000 s.Y
theorem sIn_iff {s : Spot} : sIn s = true ↔ (-1000 ≤ s.X ∧ s.X ≤ 1000) ∧ (-1000 ≤ s.Y ∧ s.Y ≤ 1000) := by unfold sIn; rw [Bool.and_eq_true, wb_iff, wb_iff]
/-- a spot turned -/
def turnR (s : Spot) (k : Nat) : Point := 
  ⟨⟨s.X * (cosT (k % 12)).A - s.Y * (cosT ((k + 9) % 12)).A, s.X * (cosT (k % 12)).B - s.Y * (cosT ((k + 9) % 12)).B⟩, ⟨s.X * (cosT ((k + 9) % 12)).A + s.Y * (cosT (k % 12)).A, s.X * (cosT ((k + 9) % 12)).B + s.Y * (cosT (k % 12)).B⟩⟩
theorem cosT_le (k : Nat) : (-2 ≤ (cosT k).A ∧ (cosT k).A ≤ 2) ∧ (-1 ≤ (cosT k).B ∧ (cosT k).B ≤ 1) := by
  by_cases h : k < 12
  · match k, h with
    | 0, _ => decide
    | 1, _ => decide
    | 2, _ => decide
    | 3, _ => decide
    | 4, _ => decide
    | 5, _ => decide
    | 6, _ => decide
    | 7, _ => decide
    | 8, _ => decide
    | 9, _ => decide
    | 10, _ => decide
    | 11, _ => decide
  · have : cosT k = ⟨0, 0⟩ := by
      unfold cosT
      rw [List.getD_eq_getElem?_getD, List.getElem?_eq_none (by simpa using h)]; rfl
    rw [this]; decide
theorem turned_eq (s : Spot) (k : Nat) (hs : sIn s = true) (hk : k < 12) : geom_turned s k = some (turnR s k) ∧ sheetmetalref01_turned s k = some (turnR s k) := by
  rw [sIn_iff] at hs
  have c1 := cosT_le (k % 12)
  have c2 := cosT_le ((k + 9) % 12)
  have b1 := mul_le s.X (cosT (k % 12)).A 1000 hs.1 (by omega)
  have b2 := mul_le s.X (cosT (k % 12)).B 1000 hs.1 (by omega)
  have b3 := mul_le s.Y (cosT (k % 12)).A 1000 hs.2 (by omega)
  have b4 := mul_le s.Y (cosT (k % 12)).B 1000 hs.2 (by omega)
  have b5 := mul_le s.X (cosT ((k + 9) % 12)).A 1000 hs.1 (by omega)
  have b6 := mul_le s.X (cosT ((k + 9) % 12)).B 1000 hs.1 (by omega)
  have b7 := mul_le s.Y (cosT ((k + 9) % 12)).A 1000 hs.2 (by omega)
  have b8 := mul_le s.Y (cosT ((k + 9) % 12)).B 1000 hs.2 (by omega)
  have e1 : iadd (k : Int) 9 = ((k + 9 : Nat) : Int) := by rw [iadd_eq (by omega) (by omega)]; omega
  have e2 : isub (k : Int) 3 = (k : Int) - 3 := isub_eq (by omega) (by omega)
  have e3 : (k : Int) = ((k + 3 : Nat) : Int) - 3 := by omega
  have e4 : sheetmetalref01_cosine (k : Int) = some (cosT (k % 12)) := by
    have := rcosine_all (k + 3) (by omega)
    rw [← e3] at this
    rw [this]; congr 2; omega
  constructor
  · unfold geom_turned turnR
    rw [cosine_eq k (by omega), e1, cosine_eq (k + 9) (by omega)]
    simp only [Option.bind_some]
    simp only [imul_eq (show -9223372036854775808 ≤ s.X * (cosT (k % 12)).A by omega) (by omega), imul_eq (show -9223372036854775808 ≤ s.X * (cosT (k % 12)).B by omega) (by omega), imul_eq (show -9223372036854775808 ≤ s.Y * (cosT (k % 12)).A by omega) (by omega), imul_eq (show -9223372036854775808 ≤ s.Y * (cosT (k % 12)).B by omega) (by omega),
      imul_eq (show -9223372036854775808 ≤ s.X * (cosT ((k + 9) % 12)).A by omega) (by omega), imul_eq (show -9223372036854775808 ≤ s.X * (cosT ((k + 9) % 12)).B by omega) (by omega), imul_eq (show -9223372036854775808 ≤ s.Y * (cosT ((k + 9) % 12)).A by omega) (by omega), imul_eq (show -9223372036854775808 ≤ s.Y * (cosT ((k + 9) % 12)).B by omega) (by omega)]
    rw [isub_eq (by omega) (by omega), isub_eq (by omega) (by omega), iadd_eq (by omega) (by omega), iadd_eq (by omega) (by omega)]
  · unfold sheetmetalref01_turned turnR
    rw [e4, e2, rcosine_all k (by omega)]
    simp only [Option.bind_some, sheetmetalref01_scaled, sheetmetalref01_minus, sheetmetalref01_plus]
    simp only [imul_eq (show -9223372036854775808 ≤ s.X * (cosT (k % 12)).A by omega) (by omega), imul_eq (show -9223372036854775808 ≤ s.X * (cosT (k % 12)).B by omega) (by omega), imul_eq (show -9223372036854775808 ≤ s.Y * (cosT (k % 12)).A by omega) (by omega), imul_eq (show -9223372036854775808 ≤ s.Y * (cosT (k % 12)).B by omega) (by omega),
      imul_eq (show -9223372036854775808 ≤ s.X * (cosT ((k + 9) % 12)).A by omega) (by omega), imul_eq (show -9223372036854775808 ≤ s.X * (cosT ((k + 9) % 12)).B by omega) (by omega), imul_eq (show -9223372036854775808 ≤ s.Y * (cosT ((k + 9) % 12)).A by omega) (by omega), imul_eq (show -9223372036854775808 ≤ s.Y * (cosT ((k + 9) % 12)).B by omega) (by omega)]
    rw [isub_eq (by omega) (by omega), isub_eq (by omega) (by omega), iadd_eq (by omega) (by omega), iadd_eq (by omega) (by omega)]
def turnA (s : Spot) (k : Int) : Point × Int := if sIn s && (decide (0 ≤ k) && decide (k ≤ 11)) then (turnR s k.toNat, 0) else (⟨⟨0, 0⟩, ⟨0, 0⟩⟩, 1)
theorem near_eq (s : Spot) : geom_near s = some (sIn s) := by
  unfold geom_near sIn
  simp only [within_eq _ 1000 (by omega), Option.bind_some]
  cases wb 1000 s.X <;> simp
theorem spotIn_eq (s : Spot) : sheetmetalref01_spotIn s = some (sIn s) := by
  unfold sheetmetalref01_spotIn sIn wb
  simp only [rwithin_eq, Option.bind_some]
  cases decide (-1000 ≤ s.X) && decide (s.X ≤ 1000) <;> simp
theorem Turn_eq (s : Spot) (k : Int) : geom_Turn s k = some (turnA s k) ∧ sheetmetalref01_Turn s k = some (turnA s k) := by
  unfold geom_Turn sheetmetalref01_Turn turnA
  simp only [near_eq, spotIn_eq, rwithin_eq, Option.bind_some]
  by_cases h1 : sIn s = true
  · by_cases h2 : k < 0
    · simp [h1, h2, show ¬ (0 ≤ k) by omega]
    · by_cases h3 : 11 < k
      · simp [h1, h2, h3, show ¬ (k ≤ 11) by omega]
      · obtain ⟨n, rfl⟩ : ∃ n : Nat, k = n := ⟨k.toNat, by omega⟩
        obtain ⟨q1, q2⟩ := turned_eq s n h1 (by omega)
        simp [h1, h2, h3, q1, q2, show ((n : Int) ≤ 11) by omega]
  · simp [h1]
theorem turnR_dist (s : Spot) (k : Nat) : (mulR (turnR s k).X (turnR s k).X).B + (mulR (turnR s k).Y (turnR s k).Y).B = 0 ∧ (mulR (turnR s k).X (turnR s k).X).A + (mulR (turnR s k).Y (turnR s k).Y).A = 4 * (s.X * s.X + s.Y * s.Y) := by
  have h : k % 12 < 12 := Nat.mod_lt _ (by omega)
  have e : (k + 9) % 12 = (k % 12 + 9) % 12 := by omega
  unfold turnR mulR
  rw [e]
  generalize k % 12 = n at *
  match n, h with
  | 0, _ => simp only [cosT, Nat.reduceAdd, Nat.reduceMod, List.getD_cons_zero, List.getD_cons_succ]; grind
  | 1, _ => simp only [cosT, Nat.reduceAdd, Nat.reduceMod, List.getD_cons_zero, List.getD_cons_succ]; grind
  | 2, _ => simp only [cosT, Nat.reduceAdd, Nat.reduceMod, List.getD_cons_zero, List.getD_cons_succ]; grind
  | 3, _ => simp only [cosT, Nat.reduceAdd, Nat.reduceMod, List.getD_cons_zero, List.getD_cons_succ]; grind
  | 4, _ => simp only [cosT, Nat.reduceAdd, Nat.reduceMod, List.getD_cons_zero, List.getD_cons_succ]; grind
  | 5, _ => simp only [cosT, Nat.reduceAdd, Nat.reduceMod, List.getD_cons_zero, List.getD_cons_succ]; grind
  | 6, _ => simp only [cosT, Nat.reduceAdd, Nat.reduceMod, List.getD_cons_zero, List.getD_cons_succ]; grind
  | 7, _ => simp only [cosT, Nat.reduceAdd, Nat.reduceMod, List.getD_cons_zero, List.getD_cons_succ]; grind
  | 8, _ => simp only [cosT, Nat.reduceAdd, Nat.reduceMod, List.getD_cons_zero, List.getD_cons_succ]; grind
  | 9, _ => simp only [cosT, Nat.reduceAdd, Nat.reduceMod, List.getD_cons_zero, List.getD_cons_succ]; grind
  | 10, _ => simp only [cosT, Nat.reduceAdd, Nat.reduceMod, List.getD_cons_zero, List.getD_cons_succ]; grind
  | 11, _ => simp only [cosT, Nat.reduceAdd, Nat.reduceMod, List.getD_cons_zero, List.getD_cons_succ]; grind
theorem turnR_in (s : Spot) (k : Nat) (hs : sIn s = true) : rIn 3000 (turnR s k).X = true ∧ rIn 3000 (turnR s k).Y = true := by
  rw [sIn_iff] at hs
  have h : k % 12 < 12 := Nat.mod_lt _ (by omega)
  have e : (k + 9) % 12 = (k % 12 + 9) % 12 := by omega
  unfold turnR
  rw [rIn_iff, rIn_iff, e]
  simp only
  generalize k % 12 = n at *
  match n, h with
  | 0, _ => simp only [cosT, Nat.reduceAdd, Nat.reduceMod, List.getD_cons_zero, List.getD_cons_succ]; omega
  | 1, _ => simp only [cosT, Nat.reduceAdd, Nat.reduceMod, List.getD_cons_zero, List.getD_cons_succ]; omega
  | 2, _ => simp only [cosT, Nat.reduceAdd, Nat.reduceMod, List.getD_cons_zero, List.getD_cons_succ]; omega
  | 3, _ => simp only [cosT, Nat.reduceAdd, Nat.reduceMod, List.getD_cons_zero, List.getD_cons_succ]; omega
  | 4, _ => simp only [cosT, Nat.reduceAdd, Nat.reduceMod, List.getD_cons_zero, List.getD_cons_succ]; omega
  | 5, _ => simp only [cosT, Nat.reduceAdd, Nat.reduceMod, List.getD_cons_zero, List.getD_cons_succ]; omega
  | 6, _ => simp only [cosT, Nat.reduceAdd, Nat.reduceMod, List.getD_cons_zero, List.getD_cons_succ]; omega
  | 7, _ => simp only [cosT, Nat.reduceAdd, Nat.reduceMod, List.getD_cons_zero, List.getD_cons_succ]; omega
  | 8, _ => simp only [cosT, Nat.reduceAdd, Nat.reduceMod, List.getD_cons_zero, List.getD_cons_succ]; omega
  | 9, _ => simp only [cosT, Nat.reduceAdd, Nat.reduceMod, List.getD_cons_zero, List.getD_cons_succ]; omega
  | 10, _ => simp only [cosT, Nat.reduceAdd, Nat.reduceMod, List.getD_cons_zero, List.getD_cons_succ]; omega
  | 11, _ => simp only [cosT, Nat.reduceAdd, Nat.reduceMod, List.getD_cons_zero, List.getD_cons_succ]; omega
theorem law_GeomTurns (s : Spot) (k : Int) : sheetmetallaw01_GeomTurns s k = some true := by
  unfold sheetmetallaw01_GeomTurns
  simp only [(Turn_eq s k).1, (Turn_eq s k).2, Multiply_eq, known_eq, Option.bind_some]
  simp only [beq_self_eq_true, Bool.and_self, Bool.and_true, if_true, bne_self_eq_false, Option.bind_some, Bool.false_eq_true, if_false]
  unfold turnA
  by_cases h : (sIn s && (decide (0 ≤ k) && decide (k ≤ 11))) = true
  · rw [if_pos h]
    have hs : sIn s = true := by simp only [Bool.and_eq_true] at h; exact h.1
    obtain ⟨q1, q2⟩ := turnR_in s k.toNat hs
    obtain ⟨d1, d2⟩ := turnR_dist s k.toNat
    have m1 := (times_eq (by omega) q1 q1).2.2
    have m2 := (times_eq (by omega) q2 q2).2.2
    rw [rIn_iff] at m1 m2
    have r1 := rIn_mono (n := 4096) (by omega) q1
    have r2 := rIn_mono (n := 4096) (by omega) q2
    have e1 : mulA (turnR s k.toNat).X (turnR s k.toNat).X = (mulR (turnR s k.toNat).X (turnR s k.toNat).X, 0) := by unfold mulA; simp [r1]
    have e2 : mulA (turnR s k.toNat).Y (turnR s k.toNat).Y = (mulR (turnR s k.toNat).Y (turnR s k.toNat).Y, 0) := by unfold mulA; simp [r2]
    rw [sIn_iff] at hs
    have x1 := sq_le s.X 1000 hs.1
    have x2 := sq_le s.Y 1000 hs.2
    simp only [e1, e2]
    rw [iadd_eq (by omega) (by omega), iadd_eq (by omega) (by omega), imul_eq (a := s.X) (by omega) (by omega), imul_eq (a := s.Y) (by omega) (by omega), iadd_eq (by omega) (by omega), imul_eq (by omega) (by omega), d1, d2]
    simp
  · rw [if_neg h]; simp
/-! ### rectangles -/
def vR (r : Rect) : Prop := (-1048576 ≤ r.X ∧ r.X ≤ 1048576) ∧ (-1048576 ≤ r.Y ∧ r.Y ≤ 1048576) ∧ 0 < r.W ∧ 0 < r.H ∧ r.X + r.W ≤ 1048576 ∧ r.Y + r.H ≤ 1048576
instance (r : Rect) : Decidable (vR r) := by unfold vR; infer_instance
theorem span_eq (x w : Int) : geom_ValidRect_1 x w = some (decide ((-1048576 ≤ x ∧ x ≤ 1048576) ∧ 0 < w ∧ x + w ≤ 1048576)) := by
  unfold geom_ValidRect_1
  simp only [within_eq _ 1048576 (by omega), Option.bind_some]
  by_cases h1 : wb 1048576 x = true
  · have h1' := wb_iff.1 h1
    by_cases h2 : 0 < w
    · by_cases h3 : w ≤ 2097152
      · rw [iadd_eq (by omega) (by omega)]
        simp [h1, h2, h3, h1']
      · have : ¬ x + w ≤ 1048576 := by omega
        simp [h1, h2, h3, this]
    · simp [h1, h2]
  · have h1' : ¬ (-1048576 ≤ x ∧ x ≤ 1048576) := fun q => h1 (wb_iff.2 q)
    simp [h1]; intro a b; exact absurd ⟨a, b⟩ h1'
theorem ValidRect_eq (r : Rect) : geom_ValidRect r = some (decide (vR r)) := by
  unfold geom_ValidRect
  simp only [span_eq, Option.bind_some]
  by_cases h1 : (-1048576 ≤ r.X ∧ r.X ≤ 1048576) ∧ 0 < r.W ∧ r.X + r.W ≤ 1048576
  · by_cases h2 : (-1048576 ≤ r.Y ∧ r.Y ≤ 1048576) ∧ 0 < r.H ∧ r.Y + r.H ≤ 1048576
    · have : vR r := by unfold vR; omega
      simp [h1, h2, this]
    · have : ¬ vR r := by unfold vR; omega
      simp only [h1, h2, this, decide_true, decide_false, and_self]; rfl
  · have : ¬ vR r := by unfold vR; omega
    simp only [h1, this, decide_false]; rfl
theorem rValidRect_eq (r : Rect) : sheetmetalref01_ValidRect r = some (decide (vR r)) := by
  unfold sheetmetalref01_ValidRect
  simp only [rwithin_eq, Option.bind_some]
  by_cases h1 : (decide (-1048576 ≤ r.X) && decide (r.X ≤ 1048576)) = true
  · by_cases h2 : (decide (-1048576 ≤ r.Y) && decide (r.Y ≤ 1048576)) = true
    · by_cases h3 : (decide (1 ≤ r.W) && decide (r.W ≤ 2097152)) = true
      · by_cases h4 : (decide (1 ≤ r.H) && decide (r.H ≤ 2097152)) = true
        · simp only [h1, h2, h3, h4, if_true, Option.bind_some, Bool.not_true, Bool.false_eq_true, if_false]
          simp only [Bool.and_eq_true, decide_eq_true_eq] at h1 h2 h3 h4
          rw [iadd_eq (by omega) (by omega), iadd_eq (by omega) (by omega)]
          by_cases h5 : r.X + r.W ≤ 1048576
          · by_cases h6 : r.Y + r.H ≤ 1048576
            · have : vR r := by unfold vR; omega
              simp [h5, h6, this]
            · have : ¬ vR r := by unfold vR; omega
              simp [h5, h6, this]
          · have : ¬ vR r := by unfold vR; omega
            simp [h5, this]
        · have : ¬ vR r := by unfold vR; simp only [Bool.and_eq_true, decide_eq_true_eq] at *; omega
          simp only [h1, h2, h3, h4, this, if_true, Option.bind_some]; simp
      · have : ¬ vR r := by unfold vR; simp only [Bool.and_eq_true, decide_eq_true_eq] at *; omega
        simp only [h1, h2, h3, this, if_true, Option.bind_some]; simp
    · have : ¬ vR r := by unfold vR; simp only [Bool.and_eq_true, decide_eq_true_eq] at *; omega
      simp only [h1, h2, this, if_true, Option.bind_some]; simp
  · have : ¬ vR r := by unfold vR; simp only [Bool.and_eq_true, decide_eq_true_eq] at *; omega
    simp only [h1, this, Option.bind_some]; simp
/-- the interiors have a common point -/
def ovR (a b : Rect) : Prop := vR a ∧ vR b ∧ a.X < b.X + b.W ∧ b.X < a.X + a.W ∧ a.Y < b.Y + b.H ∧ b.Y < a.Y + a.H
instance (a b : Rect) : Decidable (ovR a b) := by unfold ovR; infer_instance
theorem Overlap_eq (a b : Rect) : geom_Overlap a b = some (decide (ovR a b)) := by
  unfold geom_Overlap ovR
  simp only [ValidRect_eq, Option.bind_some]
  by_cases h1 : vR a
  · by_cases h2 : vR b
    · have h1' := h1; have h2' := h2
      unfold vR at h1' h2'
      rw [iadd_eq (by omega) (by omega), iadd_eq (by omega) (by omega), iadd_eq (by omega) (by omega), iadd_eq (by omega) (by omega)]
      by_cases h3 : a.X < b.X + b.W <;> by_cases h4 : b.X < a.X + a.W <;> by_cases h5 : a.Y < b.Y + b.H <;> simp [h1, h2, h3, h4, h5]
    · simp [h1, h2]
  · simp [h1]
theorem gap_eq (a b c d : Int) (ha : -2097152 ≤ a ∧ a ≤ 2097152) (hb : -2097152 ≤ b ∧ b ≤ 2097152) (hc : -2097152 ≤ c ∧ c ≤ 2097152) (hd : -2097152 ≤ d ∧ d ≤ 2097152) : sheetmetalref01_gap a b c d = some (if c - b > a - d then c - b else a - d) := by
  unfold sheetmetalref01_gap
  rw [isub_eq (by omega) (by omega), isub_eq (by omega) (by omega)]
  by_cases h : c - b > a - d <;> simp [h]
theorem rOverlap_eq (a b : Rect) : sheetmetalref01_Overlap a b = some (decide (ovR a b)) := by
  unfold sheetmetalref01_Overlap ovR
  simp only [rValidRect_eq, Option.bind_some]
  by_cases h1 : vR a
  · by_cases h2 : vR b
    · have h1' := h1; have h2' := h2
      unfold vR at h1' h2'
      rw [iadd_eq (by omega) (by omega), iadd_eq (by omega) (by omega), iadd_eq (by omega) (by omega), iadd_eq (by omega) (by omega), gap_eq _ _ _ _ (by omega) (by omega) (by omega) (by omega), gap_eq _ _ _ _ (by omega) (by omega) (by omega) (by omega)]
      simp only [h1, h2, decide_true, if_true, Option.bind_some, true_and]
      by_cases h3 : (if b.X - (a.X + a.W) > a.X - (b.X + b.W) then b.X - (a.X + a.W) else a.X - (b.X + b.W)) < 0
      · have h3' : a.X < b.X + b.W ∧ b.X < a.X + a.W := by split at h3 <;> omega
        simp only [h3, decide_true, if_true, Option.bind_some, h3', true_and]
        congr 1
        rw [Bool.eq_iff_iff]
        simp only [decide_eq_true_eq]
        split <;> omega
      · have h3' : ¬ (a.X < b.X + b.W ∧ b.X < a.X + a.W) := by split at h3 <;> omega
        have h4 : ¬ (a.X < b.X + b.W ∧ b.X < a.X + a.W ∧ a.Y < b.Y + b.H ∧ b.Y < a.Y + a.H) := fun q => h3' ⟨q.1, q.2.1⟩
        simp only [h3, h4, decide_false]
        rfl
    · simp [h1, h2]
  · simp [h1]
def inRect (a b : Rect) : Prop := vR a ∧ vR b ∧ b.X ≤ a.X ∧ a.X + a.W ≤ b.X + b.W ∧ b.Y ≤ a.Y ∧ a.Y + a.H ≤ b.Y + b.H
instance (a b : Rect) : Decidable (inRect a b) := by unfold inRect; infer_instance
theorem Inside_eq (a b : Rect) : geom_Inside a b = some (decide (inRect a b)) := by
  unfold geom_Inside inRect
  simp only [ValidRect_eq, Option.bind_some]
  by_cases h1 : vR a
  · by_cases h2 : vR b
    · have h1' := h1; have h2' := h2
      unfold vR at h1' h2'
      rw [iadd_eq (by omega) (by omega), iadd_eq (by omega) (by omega), iadd_eq (by omega) (by omega), iadd_eq (by omega) (by omega)]
      by_cases h3 : b.X ≤ a.X <;> by_cases h4 : a.X + a.W ≤ b.X + b.W <;> by_cases h5 : b.Y ≤ a.Y <;> simp [h1, h2, h3, h4, h5]
    · simp [h1, h2]
  · simp [h1]
theorem rInside_eq (a b : Rect) : sheetmetalref01_Inside a b = some (decide (inRect a b)) := by
  unfold sheetmetalref01_Inside inRect
  simp only [rValidRect_eq, Option.bind_some]
  by_cases h1 : vR a
  · by_cases h2 : vR b
    · have h1' := h1; have h2' := h2
      unfold vR at h1' h2'
      rw [iadd_eq (by omega) (by omega), iadd_eq (by omega) (by omega), iadd_eq (by omega) (by omega), iadd_eq (by omega) (by omega)]
      by_cases h3 : b.X ≤ a.X <;> by_cases h4 : a.X + a.W ≤ b.X + b.W <;> by_cases h5 : b.Y ≤ a.Y <;> simp [h1, h2, h3, h4, h5]
    · simp [h1, h2]
  · simp [h1]
/-- the larger one of the gaps -/
def distR (a b : Rect) : Int := if vR a ∧ vR b then max 0 (max (max (b.X - (a.X + a.W)) (a.X - (b.X + b.W))) (max (b.Y - (a.Y + a.H)) (a.Y - (b.Y + b.H)))) else 0
theorem imax_eq (a b : Int) : imax a b = max a b := by unfold imax; split <;> omega
theorem Distance_eq (a b : Rect) : geom_Distance a b = some (distR a b) := by
  unfold geom_Distance distR
  simp only [ValidRect_eq, Option.bind_some]
  by_cases h1 : vR a
  · by_cases h2 : vR b
    · have h1' := h1; have h2' := h2
      unfold vR at h1' h2'
      rw [isub_eq (a := b.X) (by omega) (by omega), isub_eq (a := a.X) (by omega) (by omega), isub_eq (a := b.Y) (by omega) (by omega), isub_eq (a := a.Y) (by omega) (by omega), isub_eq (by omega) (by omega), isub_eq (by omega) (by omega), isub_eq (by omega) (by omega), isub_eq (by omega) (by omega)]
      simp only [h1, h2, imax_eq, decide_true, and_self, if_true, Bool.not_true, Option.bind_some, Bool.false_eq_true, if_false]
      congr 1
      omega
    · simp [h1, h2]
  · simp [h1]
theorem rDistance_eq (a b : Rect) : sheetmetalref01_Distance a b = some (distR a b) := by
  unfold sheetmetalref01_Distance distR sheetmetalref01_Distance_k1
  simp only [rValidRect_eq, Option.bind_some]
  by_cases h1 : vR a
  · by_cases h2 : vR b
    · have h1' := h1; have h2' := h2
      unfold vR at h1' h2'
      rw [iadd_eq (by omega) (by omega), iadd_eq (by omega) (by omega), iadd_eq (by omega) (by omega), iadd_eq (by omega) (by omega), gap_eq _ _ _ _ (by omega) (by omega) (by omega) (by omega), gap_eq _ _ _ _ (by omega) (by omega) (by omega) (by omega)]
      simp only [h1, h2, decide_true, and_self, if_true, Bool.not_true, Option.bind_some, Bool.false_eq_true, if_false]
      generalize hx : (if b.X - (a.X + a.W) > a.X - (b.X + b.W) then b.X - (a.X + a.W) else a.X - (b.X + b.W)) = x
      generalize hy : (if b.Y - (a.Y + a.H) > a.Y - (b.Y + b.H) then b.Y - (a.Y + a.H) else a.Y - (b.Y + b.H)) = y
      have e1 : x = max (b.X - (a.X + a.W)) (a.X - (b.X + b.W)) := by rw [← hx]; split <;> omega
      have e2 : y = max (b.Y - (a.Y + a.H)) (a.Y - (b.Y + b.H)) := by rw [← hy]; split <;> omega
      rw [← e1, ← e2]
      by_cases q1 : y > x
      · by_cases q2 : y < 0
        · simp [q1, q2]; omega
        · simp [q1, q2]; omega
      · by_cases q2 : x < 0
        · simp [q1, q2]; omega
        · simp [q1, q2]; omega
    · simp [h1, h2]
  · simp [h1]
theorem ovR_comm (a b : Rect) : ovR a b ↔ ovR b a := by unfold ovR; constructor <;> rintro ⟨h1, h2, h3, h4, h5, h6⟩ <;> exact ⟨h2, h1, h4, h3, h6, h5⟩
theorem distR_comm (a b : Rect) : distR a b = distR b a := by
  unfold distR
  by_cases h : vR a ∧ vR b
  · rw [if_pos h, if_pos h.symm]; omega
  · rw [if_neg h, if_neg (fun q => h q.symm)]
theorem law_GeomRects (a b : Rect) : sheetmetallaw01_GeomRects a b = some true := by
  unfold sheetmetallaw01_GeomRects
  simp only [ValidRect_eq, rValidRect_eq, Overlap_eq, rOverlap_eq, Inside_eq, rInside_eq, Distance_eq, rDistance_eq, known_eq, Option.bind_some, beq_self_eq_true, if_true, bne_self_eq_false, Bool.false_eq_true, if_false]
  have e : decide (ovR b a) = decide (ovR a b) := decide_eq_decide.2 (ovR_comm b a)
  rw [distR_comm b a, e]
  simp only [beq_self_eq_true, if_true]
  by_cases h : ovR a b
  · have : distR a b = 0 := by
      unfold distR
      rw [if_pos ⟨h.1, h.2.1⟩]
      unfold ovR vR at h
      omega
    simp [h, this]
  · simp [h]

/-! ### orientation -/
def pIn (p : Point) : Bool := rIn 4096 p.X && rIn 4096 p.Y
theorem pointIn_eq (p : Point) : sheetmetalref01_pointIn p = some (pIn p) := by
  unfold sheetmetalref01_pointIn pIn
  simp only [rootIn_eq _ 4096 (by omega), Option.bind_some]
  cases rIn 4096 p.X <;> simp
theorem small_eq (l : List Point) (h : l.length ≤ 9223372036854775806) : geom_small l = some (l.all pIn) := by
  unfold geom_small
  rw [loop_all l (geom_small_l1 l) pIn (.inl ()) (.inr ()) (fun k x hx => ?_) (by simp [geom_small_l1])]
  · simp only [Option.bind_some]
    cases l.all pIn <;> rfl
  · have hk : k < l.length := (List.getElem?_eq_some_iff.1 hx).1
    unfold geom_small_l1 pIn rIn
    rw [idx_of hx, iadd_eq (by omega) (by omega)]
    have : (k : Int) < l.length := by omega
    simp only [within_eq _ 4096 (by omega), Option.bind_some, this, decide_true, if_true]
    cases wb 4096 x.X.A <;> cases wb 4096 x.X.B <;> cases wb 4096 x.Y.A <;> cases wb 4096 x.Y.B <;> simp
def det (a b c : Point) : R3 := (rt b.X - rt a.X) * (rt c.Y - rt a.Y) - (rt b.Y - rt a.Y) * (rt c.X - rt a.X)
/-- the turn from a over b to c -/
def orR (a b c : Point) : Int := R3.sg (det a b c)
theorem pIn_iff {p : Point} : pIn p = true ↔ rIn 4096 p.X = true ∧ rIn 4096 p.Y = true := by unfold pIn; rw [Bool.and_eq_true]
/-- the orientation of points with numbers within twice the bound -/
theorem orient_gen (a b c : Point) (m : Int) (hm : 0 ≤ m ∧ m ≤ 8192) (ha : rIn m a.X = true ∧ rIn m a.Y = true) (hb : rIn m b.X = true ∧ rIn m b.Y = true) (hc : rIn m c.X = true ∧ rIn m c.Y = true) (hs : 32 * (m * m) ≤ 1000000000) : geom_orient a b c = some (orR a b c) ∧ sheetmetalref01_orient a b c = some (orR a b c) := by
  obtain ⟨u1, v1, w1⟩ := minus_eq (by omega) hb.1 ha.1
  obtain ⟨u2, v2, w2⟩ := minus_eq (by omega) hc.2 ha.2
  obtain ⟨u3, v3, w3⟩ := minus_eq (by omega) hb.2 ha.2
  obtain ⟨u4, v4, w4⟩ := minus_eq (by omega) hc.1 ha.1
  obtain ⟨u5, v5, w5⟩ := times_eq (m := 2 * m) (by omega) w1 w2
  obtain ⟨u6, v6, w6⟩ := times_eq (m := 2 * m) (by omega) w3 w4
  have e : 2 * m * (2 * m) = 4 * (m * m) := by grind
  obtain ⟨u7, v7, w7⟩ := minus_eq (by omega) w5 w6
  have w8 := rIn_mono (n := 1000000000) (by omega) w7
  unfold geom_orient sheetmetalref01_orient orR det
  simp only [u1, u2, u3, u4, u5, u6, u7, v1, v2, v3, v4, v5, v6, v7, signOf_eq _ w8, rsign_eq _ w8, Option.bind_some]
  exact ⟨rfl, rfl⟩
theorem orient_eq (a b c : Point) (ha : pIn a = true) (hb : pIn b = true) (hc : pIn c = true) : geom_orient a b c = some (orR a b c) ∧ sheetmetalref01_orient a b c = some (orR a b c) :=
  orient_gen a b c 4096 (by omega) (pIn_iff.1 ha) (pIn_iff.1 hb) (pIn_iff.1 hc) (by omega)
def orA (a b c : Point) : Int × Int := if pIn a && (pIn b && pIn c) then (orR a b c, 0) else (0, 4)
theorem Orient_eq (a b c : Point) : geom_Orient a b c = some (orA a b c) ∧ sheetmetalref01_Orient a b c = some (orA a b c) := by
  unfold geom_Orient sheetmetalref01_Orient orA
  rw [small_eq _ (by simp)]
  simp only [pointIn_eq, Option.bind_some, List.all_cons, List.all_nil, Bool.and_true]
  cases ha : pIn a
  · simp
  · cases hb : pIn b
    · simp
    · cases hc : pIn c
      · simp
      · obtain ⟨q1, q2⟩ := orient_eq a b c ha hb hc
        simp [q1, q2]
theorem det_swap (a b c : Point) : det b a c = -(det a b c) := by unfold det; ext <;> simp <;> grind
theorem det_rot (a b c : Point) : det b c a = det a b c := by unfold det; ext <;> simp <;> grind
theorem orR_swap (a b c : Point) : orR b a c = -(orR a b c) := by unfold orR; rw [det_swap, R3.sg_neg]
theorem orR_rot (a b c : Point) : orR b c a = orR a b c := by unfold orR; rw [det_rot]
theorem law_GeomOrients (a b c : Point) : sheetmetallaw01_GeomOrients a b c = some true := by
  unfold sheetmetallaw01_GeomOrients
  simp only [(Orient_eq _ _ _).1, (Orient_eq _ _ _).2, known_eq, Option.bind_some]
  have h1 : (orA b a c).1 = ineg (orA a b c).1 ∧ (orA b a c).2 = (orA a b c).2 := by
    unfold orA
    rw [show (pIn b && (pIn a && pIn c)) = (pIn a && (pIn b && pIn c)) from by cases pIn a <;> cases pIn b <;> rfl]
    split
    · have := R3.sg_le_one (det a b c)
      refine ⟨?_, rfl⟩
      show orR b a c = ineg (orR a b c)
      rw [orR_swap, ineg_eq (by unfold orR; omega) (by unfold orR; omega)]
    · exact ⟨rfl, rfl⟩
  have h2 : orA b c a = orA a b c := by
    unfold orA
    rw [show (pIn b && (pIn c && pIn a)) = (pIn a && (pIn b && pIn c)) from by cases pIn a <;> cases pIn b <;> cases pIn c <;> rfl, orR_rot]
  simp [h1.1, h1.2, h2]
end Go.SM
