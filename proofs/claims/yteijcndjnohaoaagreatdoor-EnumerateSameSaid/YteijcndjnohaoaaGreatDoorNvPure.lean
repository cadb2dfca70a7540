/- The operations that look at their operands alone: what the evaluator computes stands for what the machine does. -/
import Derived.Test.YteijcndjnohaoaaGreatDoorNvWorld
import Derived.IntWalk
set_option linter.all false
set_option linter.unusedVariables false
set_option linter.unusedSimpArgs false
namespace Go.Nv
open Go

section num
theorem kEq_iff {k k' : IntKind} : kEq k k' = true ↔ k = k' := by cases k <;> cases k' <;> simp [kEq]
theorem iEq_eq (a b : Int) : iEq a b = (a == b) := by
  cases a <;> cases b <;> simp [iEq, Nat.beq_eq_true_eq] <;> first | rfl | (rw [Bool.eq_iff_iff]; simp [Nat.beq_eq_true_eq]; try omega)
theorem iLe_eq (a b : Int) : iLe a b = decide (a ≤ b) := by
  cases a with
  | ofNat a => cases b with
    | ofNat b => rw [Bool.eq_iff_iff]; simp [iLe]
    | negSucc b => rw [Bool.eq_iff_iff]; simp [iLe]; omega
  | negSucc a => cases b with
    | ofNat b => rw [Bool.eq_iff_iff]; simp [iLe]; omega
    | negSucc b => rw [Bool.eq_iff_iff]; simp [iLe]; omega
theorem wrapF_eq (k : IntKind) (n : Int) : wrapF k n = k.wrap n := by
  cases k <;> try rfl
  cases n with
  | ofNat m =>
    simp only [wrapF]
    split
    · rename_i h
      have h' : m ≤ 9223372036854775807 := Nat.le_of_ble_eq_true h
      exact (IntWalk.i64_in _ (by simp only [Int.ofNat_eq_natCast]; omega)).symm
    · rfl
  | negSucc m =>
    simp only [wrapF]
    split
    · rename_i h
      have h' : m ≤ 9223372036854775807 := Nat.le_of_ble_eq_true h
      exact (IntWalk.i64_in _ (by rw [Int.negSucc_eq]; omega)).symm
    · rfl
theorem natOf_eq {i : Int} {n : Nat} (h : natOf i = some n) : i = (n : Int) := by
  cases i with
  | ofNat m => simp [natOf] at h; subst h; rfl
  | negSucc m => simp [natOf] at h
theorem bytesEq_eq : ∀ (x y : List UInt8), bytesEq x y = (x == y)
  | [], [] => rfl
  | [], _ :: _ => rfl
  | _ :: _, [] => rfl
  | a :: x, b :: y => by
    simp only [bytesEq]
    have ih := bytesEq_eq x y
    cases e : Nat.beq a.toNat b.toNat with
    | true =>
      have h1 : a = b := UInt8.toNat_inj.1 (Nat.eq_of_beq_eq_true e)
      subst h1
      simp [ih]
    | false =>
      have h1 : a ≠ b := by
        rintro rfl
        simp at e
      simp [h1]
end num

section inv
variable {im : IM} {μ : Mu} {y : Value}
theorem SimV.inv_bool {b : Bool} (h : SimV im μ (.bool b) y) : y = .bool b := by cases h; rfl
theorem SimV.inv_int {k : IntKind} {n : Int} (h : SimV im μ (.int k n) y) : y = .int k n := by cases h; rfl
theorem SimV.inv_str {s : List UInt8} (h : SimV im μ (.str s) y) : y = .string ⟨s.toArray⟩ := by cases h; rfl
theorem SimV.inv_nilp (h : SimV im μ .nilp y) : y = .pointer none := by cases h; rfl
theorem SimV.inv_snil (h : SimV im μ .snil y) : y = .slice none 0 0 := by cases h; rfl
theorem SimV.inv_nilm (h : SimV im μ .nilm y) : y = .map none := by cases h; rfl
theorem SimV.inv_nilf (h : SimV im μ .nilf y) : y = .nilFunc := by cases h; rfl
theorem SimV.inv_nili (h : SimV im μ .nili y) : y = .nilIface := by cases h; rfl
theorem SimV.inv_agg {cs : List AV} (h : SimV im μ (.agg cs) y) : ∃ cs', y = .agg cs' ∧ SimL im μ cs cs'.toList := by cases h; exact ⟨_, rfl, by assumption⟩
theorem SimV.inv_tup {cs : List AV} (h : SimV im μ (.tup cs) y) : ∃ cs', y = .tuple cs' ∧ SimL im μ cs cs'.toList := by cases h; exact ⟨_, rfl, by assumption⟩
theorem SimV.inv_ptr {b o : Nat} (h : SimV im μ (.ptr b o) y) : ∃ cb base tot, μ b = some (cb, base, tot) ∧ y = .pointer (some ⟨cb, base + o, none⟩) := by cases h; exact ⟨_, _, _, by assumption, rfl⟩
theorem SimV.inv_pptr {cs : List AV} (h : SimV im μ (.pptr cs) y) : ∃ cb off l, im cb = some l ∧ off + cs.length ≤ l.length ∧ SimL im μ cs ((l.drop off).take cs.length) ∧ y = .pointer (some ⟨cb, off, none⟩) := by
  cases h; exact ⟨_, _, _, by assumption, by assumption, by assumption, rfl⟩
theorem SimV.inv_iface {t : Nat} {v : AV} (h : SimV im μ (.iface t v) y) : ∃ v', y = .iface t v' ∧ SimV im μ v v' := by cases h; exact ⟨_, rfl, by assumption⟩
theorem SimV.inv_fn {f : Nat} {a b : List AV} (h : SimV im μ (.fn f a b) y) : ∃ a' b', y = .func (.func f) a' b' ∧ SimL im μ a a'.toList ∧ SimL im μ b b'.toList := by cases h; exact ⟨_, _, rfl, by assumption, by assumption⟩
theorem SimV.inv_sref {b o len sz : Nat} (h : SimV im μ (.sref b o len sz) y) : ∃ cb base tot cap a, μ b = some (cb, base, tot) ∧ len ≤ cap ∧ (cap = 0 ∨ (a = ⟨cb, base + o, none⟩ ∧ base + o + cap * sz ≤ tot)) ∧ y = .slice (some a) len cap := by
  cases h; exact ⟨_, _, _, _, _, by assumption, by assumption, by assumption, rfl⟩
theorem SimV.inv_psl {len sz : Nat} {cs : List AV} (h : SimV im μ (.psl len sz cs) y) : ∃ a cap, y = .slice (some a) len cap ∧ len ≤ cap ∧ cs.length = len * sz ∧
    ((len = 0 ∧ cs = []) ∨ ∃ l, a.spot = none ∧ im a.block = some l ∧ a.off + cs.length ≤ l.length ∧ SimL im μ cs ((l.drop a.off).take cs.length)) := by
  cases h with
  | psl0 sz cap a => exact ⟨a, cap, rfl, Nat.zero_le _, by simp, .inl ⟨rfl, rfl⟩⟩
  | psl len sz cs hx cap cb off l hn hl h hb hs => exact ⟨_, cap, rfl, hl, hn, .inr ⟨l, rfl, h, hb, hs⟩⟩
theorem SimV.inv_mref {b : Nat} (h : SimV im μ (.mref b) y) : ∃ cb base tot, μ b = some (cb, base, tot) ∧ y = .map (some cb) := by cases h; exact ⟨_, _, _, by assumption, rfl⟩
theorem SimV.inv_yld {b : Nat} (h : SimV im μ (.yld b) y) : ∃ cb base tot, μ b = some (cb, base, tot) ∧ y = .func (.yield cb) #[] #[] := by cases h; exact ⟨_, _, _, by assumption, rfl⟩
end inv

section
variable {P : Program} {im : IM} {μ : Mu}

theorem scal_sim {v : Value} {x : AV} (h : scal v = some x) : SimV im μ x v := by
  unfold scal at h
  split at h <;> simp at h <;> subst h
  · exact .bool _
  · exact .int _ _
  · rename_i s; exact .str s.data.toList
  · exact .nilp
  · exact .snil
  · exact .nilm
  · exact .nilf
  · exact .nili
theorem scalL_sim : ∀ {vs : List Value} {xs : List AV}, scalL vs = some xs → SimL im μ xs vs
  | [], xs, h => by simp [scalL] at h; subst h; exact .nil
  | v :: vs, xs, h => by
    simp only [scalL, Option.bind_eq_some_iff] at h
    obtain ⟨x, hx, ys, hy, h⟩ := h
    simp at h
    subst h
    exact .cons _ _ _ _ (scal_sim hx) (scalL_sim hy)
theorem ofConst_sim {v : Value} {x : AV} (h : ofConst v = some x) : SimV im μ x v := by
  unfold ofConst at h
  split at h
  · simp only [Option.bind_eq_some_iff] at h
    obtain ⟨xs, hx, h⟩ := h
    simp at h
    subst h
    exact .agg _ _ (scalL_sim hx)
  · rename_i vs
    split at h
    · rename_i e
      simp at h
      subst h
      exact .tup _ _ (by rw [e]; exact .nil)
    · simp at h
  · exact scal_sim h

/-- What the evaluator has for an operand stands for its value. -/
def OSim (im : IM) (μ : Mu) (ρ : Operand → Option AV) (ρ' : Operand → Value) : Prop := ∀ x v, ρ x = some v → SimV im μ v (ρ' x)

variable {ρ : Operand → Option AV} {ρ' : Operand → Value}

theorem mapO_sim (hρ : OSim im μ ρ ρ') : ∀ {xs : List Operand} {vs : List AV}, mapO ρ xs = some vs → SimL im μ vs (xs.map ρ')
  | [], vs, h => by simp [mapO] at h; subst h; exact .nil
  | x :: xs, vs, h => by
    simp only [mapO, Option.bind_eq_some_iff] at h
    obtain ⟨v, hv, ys, hy, h⟩ := h
    simp at h
    subst h
    exact .cons _ _ _ _ (hρ _ _ hv) (mapO_sim hρ hy)

theorem run_underlying_of {t : TypeId} {d : TypeDesc} (h : P.underlying t = some d) (w : World) : (underlying t).run P w = .ok d w := by
  simp [underlying, h]
theorem run_typeInfo_of {t : TypeId} {i : TypeInfo} (h : P.info? t = some i) (w : World) : (typeInfo t).run P w = .ok i w := by
  simp [typeInfo, h]
theorem tSize_of {t : TypeId} {n : Nat} (h : tSize P t = some n) : ∃ i, P.info? t = some i ∧ i.size = n := by
  simp only [tSize, Option.bind_eq_some_iff] at h
  obtain ⟨i, hi, h⟩ := h
  simp at h
  exact ⟨i, hi, h⟩
theorem run_sizeOf_of {t : TypeId} {n : Nat} (h : tSize P t = some n) (w : World) : (sizeOf t).run P w = .ok n w := by
  obtain ⟨i, hi, rfl⟩ := tSize_of h
  simp [sizeOf, run_typeInfo_of hi]
theorem run_isAgg_of {t : TypeId} {b : Bool} (h : tAgg P t = some b) (w : World) : (isAgg t).run P w = .ok b w := by
  simp only [tAgg, Option.bind_eq_some_iff] at h
  obtain ⟨d, hd, h⟩ := h
  simp only [Option.some.injEq] at h
  subst h
  simp only [isAgg, Sem.run_bind, run_underlying_of hd, Result.andThen_ok]
  cases d <;> rfl
theorem tElem_of {t e : TypeId} (h : tElem P t = some e) : P.underlying t = some (.slice e) := by
  simp only [tElem, Option.bind_eq_some_iff] at h
  obtain ⟨d, hd, h⟩ := h
  cases d <;> simp at h
  subst h
  exact hd
theorem tField_of {t : TypeId} {f : Nat} {fd : Field} (h : tField P t f = some fd) : ∃ fs, P.underlying t = some (.struct fs) ∧ fs[f]? = some fd := by
  simp only [tField, Option.bind_eq_some_iff] at h
  obtain ⟨d, hd, h⟩ := h
  cases d <;> simp at h
  exact ⟨_, hd, h⟩
theorem tZero_sim {t : TypeId} {z : AV} (h : tZero P t = some z) : ∃ i z', P.info? t = some i ∧ i.zero = some z' ∧ SimV im μ z z' := by
  simp only [tZero, Option.bind_eq_some_iff] at h
  obtain ⟨i, hi, z', hz, h⟩ := h
  exact ⟨i, z', hi, hz, ofConst_sim h⟩
theorem run_zeroValue_of {t : TypeId} {z : AV} (h : tZero P t = some z) : ∃ z', SimV im μ z z' ∧ ∀ w, (zeroValue t).run P w = .ok z' w := by
  obtain ⟨i, z', hi, hz, hs⟩ := tZero_sim (im := im) (μ := μ) h
  exact ⟨z', hs, fun w => by simp [zeroValue, run_typeInfo_of hi, hz]⟩

theorem part_ok {t : TypeId} {cs : List AV} {cs' : Array Value} {o : Nat} {v : AV} (h : partA P t cs o = some v) (hs : SimL im μ cs cs'.toList) (w : World) :
    ∃ v', (part t cs' o).run P w = .ok v' w ∧ SimV im μ v v' := by
  simp only [partA, ldCells, Option.bind_eq_some_iff] at h
  obtain ⟨a, ha, h⟩ := h
  cases a with
  | true =>
    simp only [Option.bind_eq_some_iff] at h
    obtain ⟨n, hn, h⟩ := h
    split at h
    · rename_i hb
      simp at h
      subst h
      refine ⟨_, by simp only [part, Sem.run_bind, run_isAgg_of ha, Result.andThen_ok, run_sizeOf_of hn, if_true, Sem.run_pure]; rfl, .agg _ _ ?_⟩
      rw [Array.toList_extract]
      have : o + n - o = n := by omega
      simp only [List.extract, this]
      exact (hs.drop o).take n
    · simp at h
  | false =>
    simp only at h
    obtain ⟨y, hy, hsy⟩ := (hs.drop o).head? h
    refine ⟨y, ?_, hsy⟩
    have e : cs'[o]? = some y := by rw [List.head?_drop] at hy; simpa using hy
    simp [part, run_isAgg_of ha, e]
end

end Go.Nv
