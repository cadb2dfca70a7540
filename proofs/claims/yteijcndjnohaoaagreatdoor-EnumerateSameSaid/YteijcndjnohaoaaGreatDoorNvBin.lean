/- Binary operations. -/
import Derived.Test.YteijcndjnohaoaaGreatDoorNvPure
set_option linter.all false
set_option linter.unusedVariables false
set_option linter.unusedSimpArgs false
namespace Go.Nv
open Go
variable {P : Program} {im : IM} {μ : Mu}

theorem run_eqGuard_other {op : BinOp} {t : TypeId} {ox oy : Operand} {x y : Value} (h : ∀ a b, ¬ (x = .agg a ∧ y = .agg b)) (h' : ¬ (x = .nilIface ∧ y = .nilIface)) (w : World) : (eqGuard op t ox oy x y).run P w = .ok () w := by
  cases x <;> cases y <;> first
    | exact absurd ⟨rfl, rfl⟩ h'
    | exact absurd ⟨rfl, rfl⟩ (h _ _)
    | (cases op <;> simp [eqGuard])

theorem intBin_ok {op : BinOp} {k : IntKind} {a b : Int} {v : AV} (t : TypeId) (h : intBin op k a b = some v) (w : World) :
    ∃ v', (binOp op t (.int k a) (.int k b)).run P w = .ok v' w ∧ SimV im μ v v' := by
  cases op <;> simp only [intBin] at h
  case quo =>
    split at h
    · cases h
    · rename_i hb
      simp only [Option.some.injEq] at h
      subst h
      rw [iEq_eq] at hb
      have hb' : b ≠ 0 := by simpa using hb
      exact ⟨_, by simp [binOp, Op.intDiv, hb'], .int _ _⟩
  case rem =>
    split at h
    · cases h
    · rename_i hb
      simp only [Option.some.injEq] at h
      subst h
      rw [iEq_eq] at hb
      have hb' : b ≠ 0 := by simpa using hb
      exact ⟨_, by simp [binOp, Op.intDiv, hb'], .int _ _⟩
  case add => simp only [Option.some.injEq, wrapF_eq] at h; subst h; exact ⟨_, by simp [binOp, Op.intArith], .int _ _⟩
  case sub => simp only [Option.some.injEq, wrapF_eq] at h; subst h; exact ⟨_, by simp [binOp, Op.intArith], .int _ _⟩
  case mul => simp only [Option.some.injEq, wrapF_eq] at h; subst h; exact ⟨_, by simp [binOp, Op.intArith], .int _ _⟩
  case and => simp only [Option.some.injEq] at h; subst h; exact ⟨_, by simp only [binOp, ne_eq, not_true_eq_false, if_false, Op.intBits]; rfl, .int _ _⟩
  case or => simp only [Option.some.injEq] at h; subst h; exact ⟨_, by simp only [binOp, ne_eq, not_true_eq_false, if_false, Op.intBits]; rfl, .int _ _⟩
  case xor => simp only [Option.some.injEq] at h; subst h; exact ⟨_, by simp only [binOp, ne_eq, not_true_eq_false, if_false, Op.intBits]; rfl, .int _ _⟩
  case eql => simp only [Option.some.injEq, iEq_eq] at h; subst h; exact ⟨_, by simp [binOp, Op.intCmp], .bool _⟩
  case neq => simp only [Option.some.injEq, iEq_eq] at h; subst h; refine ⟨.bool (a != b), by simp [binOp, Op.intCmp], ?_⟩; rw [show (!(a == b)) = (a != b) from rfl]; exact .bool _
  case leq => simp only [Option.some.injEq, iLe_eq] at h; subst h; exact ⟨_, by simp [binOp, Op.intCmp], .bool _⟩
  case geq => simp only [Option.some.injEq, iLe_eq] at h; subst h; exact ⟨_, by simp [binOp, Op.intCmp], .bool _⟩
  case lss => simp only [Option.some.injEq, iLe_eq] at h; subst h; refine ⟨.bool (decide (a < b)), by simp [binOp, Op.intCmp], ?_⟩; rw [show (!decide (b ≤ a)) = decide (a < b) by rw [Bool.eq_iff_iff]; simp]; exact .bool _
  case gtr => simp only [Option.some.injEq, iLe_eq] at h; subst h; refine ⟨.bool (decide (a > b)), by simp [binOp, Op.intCmp], ?_⟩; rw [show (!decide (a ≤ b)) = decide (a > b) by rw [Bool.eq_iff_iff]; simp]; exact .bool _
  all_goals cases h

theorem bytes_append (a b : List UInt8) : (⟨a.toArray⟩ : ByteArray) ++ (⟨b.toArray⟩ : ByteArray) = ⟨(a ++ b).toArray⟩ := by
  apply ByteArray.ext
  simp
theorem bytes_toList (a : List UInt8) : (⟨a.toArray⟩ : ByteArray).toList = a := by rw [ByteArray.toList_eq]
theorem bytes_size (a : List UInt8) : (⟨a.toArray⟩ : ByteArray).size = a.length := by simp [ByteArray.size]

theorem strBin_ok {op : BinOp} {a b : List UInt8} {v : AV} (t : TypeId) (h : strBin op a b = some v) (w : World) :
    ∃ v', (binOp op t (.string ⟨a.toArray⟩) (.string ⟨b.toArray⟩)).run P w = .ok v' w ∧ SimV im μ v v' := by
  cases op <;> simp only [strBin] at h
  case add =>
    split at h
    · rename_i hb
      simp only [Option.some.injEq] at h
      subst h
      have hb' : a.length + b.length ≤ catLimit := Nat.le_of_ble_eq_true hb
      unfold catLimit at hb'
      have h1 : ¬ (((⟨a.toArray⟩ : ByteArray).size + (⟨b.toArray⟩ : ByteArray).size : Nat) : Int) > IntKind.i64.max := by
        rw [bytes_size, bytes_size]
        simp [IntKind.max, IntKind.signed, IntKind.bits]
        omega
      exact ⟨.string ⟨(a ++ b).toArray⟩, by simp only [binOp, Op.stringOp, if_neg h1, bytes_append]; rfl, .str _⟩
    · cases h
  case eql => simp only [Option.some.injEq, bytesEq_eq] at h; subst h; exact ⟨_, by simp only [binOp, Op.stringOp, bytes_toList]; rfl, .bool _⟩
  case neq => simp only [Option.some.injEq, bytesEq_eq] at h; subst h; exact ⟨_, by simp only [binOp, Op.stringOp, bytes_toList]; rfl, .bool _⟩
  case lss => simp only [Option.some.injEq] at h; subst h; exact ⟨_, by simp only [binOp, Op.stringOp, bytes_toList]; rfl, .bool _⟩
  case leq => simp only [Option.some.injEq, bytesEq_eq] at h; subst h; exact ⟨_, by simp only [binOp, Op.stringOp, bytes_toList]; rfl, .bool _⟩
  case gtr => simp only [Option.some.injEq, bytesEq_eq] at h; subst h; exact ⟨_, by simp only [binOp, Op.stringOp, bytes_toList]; rfl, .bool _⟩
  case geq => simp only [Option.some.injEq] at h; subst h; exact ⟨_, by simp only [binOp, Op.stringOp, bytes_toList]; rfl, .bool _⟩
  all_goals cases h

theorem cellEq_spec {x y : AV} {b : Bool} (h : cellEq x y = some b) :
    (∃ p q, x = .bool p ∧ y = .bool q ∧ b = (p == q)) ∨ (∃ k m n, x = .int k m ∧ y = .int k n ∧ b = (m == n)) ∨ (∃ s t, x = .str s ∧ y = .str t ∧ b = (s == t)) := by
  unfold cellEq at h
  split at h
  · rename_i p q
    refine .inl ⟨p, q, rfl, rfl, ?_⟩
    cases p <;> cases q <;> simp at h <;> simp [← h]
  · rename_i k m k' n
    split at h
    · rename_i hk
      rw [kEq_iff] at hk
      subst hk
      simp only [Option.some.injEq, iEq_eq] at h
      exact .inr (.inl ⟨k, m, n, rfl, rfl, h.symm⟩)
    · cases h
  · rename_i s t
    simp only [Option.some.injEq, bytesEq_eq] at h
    exact .inr (.inr ⟨s, t, rfl, rfl, h.symm⟩)
  · cases h

theorem cellEq_run {d : Nat} {t : TypeId} {x y : AV} {x' y' : Value} {b : Bool} (h : cellEq x y = some b) (hx : SimV im μ x x') (hy : SimV im μ y y')
    (ht : (∃ p q, x = .bool p ∧ y = .bool q ∧ P.underlying t = some .bool) ∨ (∃ k k' m n kk, x = .int k m ∧ y = .int k' n ∧ P.underlying t = some (.int kk)) ∨ (∃ s u, x = .str s ∧ y = .str u ∧ P.underlying t = some .string)) (w : World) :
    (Op.equalIn (d + 1) t x' y').run P w = .ok b w := by
  rcases cellEq_spec h with ⟨p, q, rfl, rfl, rfl⟩ | ⟨k, m, n, rfl, rfl, rfl⟩ | ⟨s, u, rfl, rfl, rfl⟩
  · rcases ht with ⟨_, _, _, _, ht⟩ | ⟨_, _, _, _, _, e, _⟩ | ⟨_, _, e, _⟩
    · rw [hx.inv_bool, hy.inv_bool]; exact run_equalIn_bool' w d t p q ht
    · cases e
    · cases e
  · rcases ht with ⟨_, _, e, _⟩ | ⟨_, _, _, _, kk, _, _, ht⟩ | ⟨_, _, e, _⟩
    · cases e
    · rw [hx.inv_int, hy.inv_int]; exact run_equalIn_int w d t k kk m n ht
    · cases e
  · rcases ht with ⟨_, _, e, _⟩ | ⟨_, _, _, _, _, e, _⟩ | ⟨_, _, _, _, ht⟩
    · cases e
    · cases e
    · rw [hx.inv_str, hy.inv_str, run_equalIn_string w d t _ _ ht, bytes_toList, bytes_toList]

theorem eqFs_run {d : Nat} {rec : TypeId → AV → AV → Option Bool} {xs ys : List AV} {xs' ys' : Array Value} (hx : SimL im μ xs xs'.toList) (hy : SimL im μ ys ys'.toList)
    (ih : ∀ t x y x' y' b, rec t x y = some b → SimV im μ x x' → SimV im μ y y' → ∀ w, (Op.equalIn d t x' y').run P w = .ok b w) :
    ∀ (fs : List Field) (b : Bool), eqFs P rec xs ys fs = some b → ∀ w, (Op.eqFields d xs' ys' fs).run P w = .ok b w
  | [], b, h, w => by simp [eqFs] at h; subst h; simp [Op.eqFields]
  | f :: fs, b, h, w => by
    simp only [eqFs] at h
    split at h
    · cases h
    · rename_i hn
      simp only [Option.bind_eq_some_iff] at h
      obtain ⟨u, hu, v, hv, r, hr, h⟩ := h
      obtain ⟨u', hu', hsu⟩ := part_ok hu hx w
      obtain ⟨v', hv', hsv⟩ := part_ok hv hy w
      have e := ih _ _ _ _ _ _ hr hsu hsv w
      have hn' : f.name ≠ "_" := by simpa using hn
      simp only [Op.eqFields, if_pos hn', Sem.run_bind, hu', hv', e, Result.andThen_ok, Sem.run_ite]
      cases r with
      | true =>
        simp only [Bool.not_true, Bool.false_eq_true, if_false]
        exact eqFs_run hx hy ih fs b h w
      | false =>
        simp only [Option.some.injEq] at h
        subst h
        simp

theorem eqTy_run : ∀ (d D : Nat) (t : TypeId) (x y : AV) (x' y' : Value) (b : Bool), d ≤ D → eqTy P d t x y = some b → SimV im μ x x' → SimV im μ y y' → ∀ w, (Op.equalIn D t x' y').run P w = .ok b w
  | 0, _, _, _, _, _, _, _, _, h, _, _, _ => by simp [eqTy] at h
  | d + 1, 0, _, _, _, _, _, _, hd, _, _, _, _ => by omega
  | d + 1, D + 1, t, x, y, x', y', b, hd, h, hx, hy, w => by
    simp only [eqTy] at h
    split at h
    · rename_i ht
      exact cellEq_run h hx hy (.inl ⟨_, _, rfl, rfl, ht⟩) w
    · rename_i ht
      exact cellEq_run h hx hy (.inr (.inl ⟨_, _, _, _, _, rfl, rfl, ht⟩)) w
    · rename_i ht
      exact cellEq_run h hx hy (.inr (.inr ⟨_, _, rfl, rfl, ht⟩)) w
    · rename_i fs xs ys ht
      split at h
      · rename_i hs
        obtain ⟨xs', rfl, hsx⟩ := hx.inv_agg
        obtain ⟨ys', rfl, hsy⟩ := hy.inv_agg
        have hf : P.fieldsOf t = fs := by simp [Program.fieldsOf, ht]
        rw [run_equalIn_struct w D t xs' ys' (by rw [hf]; exact ht) hs, hf]
        exact eqFs_run hsx hsy (fun t x y x' y' b h hx hy w => eqTy_run d D t x y x' y' b (by omega) h hx hy w) _ _ h w
      · cases h
    · cases h

set_option maxHeartbeats 4000000 in
theorem eqA_ok {t : TypeId} {x y : AV} {x' y' : Value} {b : Bool} (h : eqA P t x y = some b) (hx : SimV im μ x x') (hy : SimV im μ y y') (op : BinOp) (ox oy : Operand) (w : World) (d : Nat) (hd : 20 ≤ d) :
    (eqGuard op t ox oy x' y').run P w = .ok () w ∧ (Op.equalIn (d + 1) t x' y').run P w = .ok b w := by
  unfold eqA at h
  split at h
  · -- bools
    split at h
    · rename_i ht
      have e := cellEq_run (d := d) h hx hy (.inl ⟨_, _, rfl, rfl, ht⟩) w
      rw [hx.inv_bool, hy.inv_bool] at *
      exact ⟨run_eqGuard_other (by simp) (by simp) w, e⟩
    · cases h
  · split at h
    · rename_i ht
      simp only [Option.some.injEq] at h
      subst h
      rw [hx.inv_nilp, hy.inv_nilp]
      exact ⟨run_eqGuard_other (by simp) (by simp) w, by simp [Op.equalIn, run_underlying_of ht]⟩
    · cases h
  · split at h
    · rename_i ht
      simp only [Option.some.injEq] at h
      subst h
      obtain ⟨_, _, _, _, rfl⟩ := hy.inv_ptr
      rw [hx.inv_nilp]
      exact ⟨run_eqGuard_other (by simp) (by simp) w, by simp [Op.equalIn, run_underlying_of ht]⟩
    · cases h
  · split at h
    · rename_i ht
      simp only [Option.some.injEq] at h
      subst h
      obtain ⟨_, _, _, _, _, _, rfl⟩ := hy.inv_pptr
      rw [hx.inv_nilp]
      exact ⟨run_eqGuard_other (by simp) (by simp) w, by simp [Op.equalIn, run_underlying_of ht]⟩
    · cases h
  · split at h
    · rename_i ht
      simp only [Option.some.injEq] at h
      subst h
      obtain ⟨_, _, _, _, rfl⟩ := hx.inv_ptr
      rw [hy.inv_nilp]
      exact ⟨run_eqGuard_other (by simp) (by simp) w, by simp [Op.equalIn, run_underlying_of ht]⟩
    · cases h
  · split at h
    · rename_i ht
      simp only [Option.some.injEq] at h
      subst h
      obtain ⟨_, _, _, _, _, _, rfl⟩ := hx.inv_pptr
      rw [hy.inv_nilp]
      exact ⟨run_eqGuard_other (by simp) (by simp) w, by simp [Op.equalIn, run_underlying_of ht]⟩
    · cases h
  · -- two pointers into one block
    rename_i b1 o1 b2 o2
    split at h
    · rename_i e ht
      simp only [Option.bind_eq_some_iff] at h
      obtain ⟨n, hn, h⟩ := h
      split at h
      · rename_i m hbb
        simp only [Option.some.injEq] at h
        have hbb' : b1 = b2 := Nat.eq_of_beq_eq_true hbb
        subst hbb'
        obtain ⟨cb, base, tot, h1, rfl⟩ := hx.inv_ptr
        obtain ⟨cb2, base2, tot2, h2, rfl⟩ := hy.inv_ptr
        rw [h1] at h2
        cases h2
        refine ⟨run_eqGuard_other (by simp) (by simp) w, ?_⟩
        simp [Op.equalIn, run_underlying_of ht, run_sizeOf_of hn, sameAddr]
        subst h
        rw [Bool.eq_iff_iff]
        simp [Nat.beq_eq_true_eq]
      · cases h
    · cases h
  · split at h
    · rename_i ht
      simp only [Option.some.injEq] at h
      subst h
      rw [hx.inv_snil, hy.inv_snil]
      exact ⟨run_eqGuard_other (by simp) (by simp) w, by simp [Op.equalIn, run_underlying_of ht]⟩
    · cases h
  · split at h
    · rename_i ht
      simp only [Option.some.injEq] at h
      subst h
      obtain ⟨_, _, _, _, _, _, _, _, rfl⟩ := hy.inv_sref
      rw [hx.inv_snil]
      exact ⟨run_eqGuard_other (by simp) (by simp) w, by simp [Op.equalIn, run_underlying_of ht]⟩
    · cases h
  · split at h
    · rename_i ht
      simp only [Option.some.injEq] at h
      subst h
      obtain ⟨_, _, rfl, _⟩ := hy.inv_psl
      rw [hx.inv_snil]
      exact ⟨run_eqGuard_other (by simp) (by simp) w, by simp [Op.equalIn, run_underlying_of ht]⟩
    · cases h
  · split at h
    · rename_i ht
      simp only [Option.some.injEq] at h
      subst h
      obtain ⟨_, _, _, _, _, _, _, _, rfl⟩ := hx.inv_sref
      rw [hy.inv_snil]
      exact ⟨run_eqGuard_other (by simp) (by simp) w, by simp [Op.equalIn, run_underlying_of ht]⟩
    · cases h
  · split at h
    · rename_i ht
      simp only [Option.some.injEq] at h
      subst h
      obtain ⟨_, _, rfl, _⟩ := hx.inv_psl
      rw [hy.inv_snil]
      exact ⟨run_eqGuard_other (by simp) (by simp) w, by simp [Op.equalIn, run_underlying_of ht]⟩
    · cases h
  · split at h
    · rename_i ht
      simp only [Option.some.injEq] at h
      subst h
      rw [hx.inv_nilf, hy.inv_nilf]
      exact ⟨run_eqGuard_other (by simp) (by simp) w, by simp [Op.equalIn, run_underlying_of ht]⟩
    · cases h
  · split at h
    · rename_i ht
      simp only [Option.some.injEq] at h
      subst h
      obtain ⟨_, _, rfl, _⟩ := hy.inv_fn
      rw [hx.inv_nilf]
      exact ⟨run_eqGuard_other (by simp) (by simp) w, by simp [Op.equalIn, run_underlying_of ht]⟩
    · cases h
  · split at h
    · rename_i ht
      simp only [Option.some.injEq] at h
      subst h
      obtain ⟨_, _, rfl, _⟩ := hx.inv_fn
      rw [hy.inv_nilf]
      exact ⟨run_eqGuard_other (by simp) (by simp) w, by simp [Op.equalIn, run_underlying_of ht]⟩
    · cases h
  · split at h
    · rename_i ht
      simp only [Option.some.injEq] at h
      subst h
      rw [hx.inv_nilm, hy.inv_nilm]
      exact ⟨run_eqGuard_other (by simp) (by simp) w, by simp [Op.equalIn, run_underlying_of ht]⟩
    · cases h
  · split at h
    · rename_i ht
      simp only [Option.some.injEq] at h
      subst h
      obtain ⟨_, _, _, _, rfl⟩ := hy.inv_mref
      rw [hx.inv_nilm]
      exact ⟨run_eqGuard_other (by simp) (by simp) w, by simp [Op.equalIn, run_underlying_of ht]⟩
    · cases h
  · split at h
    · rename_i ht
      simp only [Option.some.injEq] at h
      subst h
      obtain ⟨_, _, _, _, rfl⟩ := hx.inv_mref
      rw [hy.inv_nilm]
      exact ⟨run_eqGuard_other (by simp) (by simp) w, by simp [Op.equalIn, run_underlying_of ht]⟩
    · cases h
  · -- two nil interface values
    split at h
    · rename_i ms ht
      split at h
      · rename_i hm
        simp only [Option.some.injEq] at h
        subst h
        rw [hx.inv_nili, hy.inv_nili]
        have hm' : ms.isEmpty = true := by
          have : ms = #[] := Array.toList_eq_nil_iff.1 hm
          simp [this]
        refine ⟨?_, by simp [Op.equalIn, run_underlying_of ht]⟩
        have e : ∀ n : Nat, (Op.eqGuardIn (n + 1) t .nilIface .nilIface).run P w = .ok false w := fun n => by simp [Op.eqGuardIn, run_underlying_of ht, hm']
        have e' : (Op.eqGuardIn Op.maxDepth t .nilIface .nilIface).run P w = .ok false w := e 9999
        cases op <;> simp [eqGuard, e']
      · cases h
    · cases h
  · split at h
    · rename_i ht
      simp only [Option.some.injEq] at h
      subst h
      obtain ⟨_, rfl, _⟩ := hy.inv_iface
      rw [hx.inv_nili]
      exact ⟨run_eqGuard_other (by simp) (by simp) w, by simp [Op.equalIn, run_underlying_of ht]⟩
    · cases h
  · split at h
    · rename_i ht
      simp only [Option.some.injEq] at h
      subst h
      obtain ⟨_, rfl, _⟩ := hx.inv_iface
      rw [hy.inv_nili]
      exact ⟨run_eqGuard_other (by simp) (by simp) w, by simp [Op.equalIn, run_underlying_of ht]⟩
    · cases h
  · -- structs
    split at h
    · rename_i hg
      have e := eqTy_run 20 (d + 1) t _ _ _ _ b (by omega) h hx hy w
      obtain ⟨xs', rfl, _⟩ := hx.inv_agg
      obtain ⟨ys', rfl, _⟩ := hy.inv_agg
      exact ⟨run_eqGuard_agg w op t ox oy xs' ys' hg, e⟩
    · cases h
  · cases h

/-- Not two numbers, not two strings. -/
def Plain (x y : Value) : Prop := (∀ k a k' b, ¬ (x = .int k a ∧ y = .int k' b)) ∧ (∀ k a k' b, ¬ (x = .float k a ∧ y = .float k' b)) ∧ (∀ k a b k' c d, ¬ (x = .complex k a b ∧ y = .complex k' c d)) ∧ (∀ a b, ¬ (x = .string a ∧ y = .string b))
theorem binOp_eql {t : TypeId} {x y : Value} (h : Plain x y) : binOp .eql t x y = (do pure (.bool (← Op.equal t x y)) : Sem Value) := by
  obtain ⟨h1, h2, h3, h4⟩ := h
  cases x <;> cases y <;> first
    | rfl
    | exact absurd ⟨rfl, rfl⟩ (h1 _ _ _ _)
    | exact absurd ⟨rfl, rfl⟩ (h2 _ _ _ _)
    | exact absurd ⟨rfl, rfl⟩ (h3 _ _ _ _ _ _)
    | exact absurd ⟨rfl, rfl⟩ (h4 _ _)
theorem binOp_neq {t : TypeId} {x y : Value} (h : Plain x y) : binOp .neq t x y = (do pure (.bool (!(← Op.equal t x y))) : Sem Value) := by
  obtain ⟨h1, h2, h3, h4⟩ := h
  cases x <;> cases y <;> first
    | rfl
    | exact absurd ⟨rfl, rfl⟩ (h1 _ _ _ _)
    | exact absurd ⟨rfl, rfl⟩ (h2 _ _ _ _)
    | exact absurd ⟨rfl, rfl⟩ (h3 _ _ _ _ _ _)
    | exact absurd ⟨rfl, rfl⟩ (h4 _ _)
set_option maxHeartbeats 4000000 in
theorem eqA_plain {t : TypeId} {x y : AV} {x' y' : Value} {b : Bool} (h : eqA P t x y = some b) (hx : SimV im μ x x') (hy : SimV im μ y y') : Plain x' y' := by
  cases hx <;> cases hy <;> first
    | (simp [Plain]; done)
    | (simp [eqA] at h; done)

theorem binA_ok {op : BinOp} {t : TypeId} {x y v : AV} {x' y' : Value} (h : binA P op t x y = some v) (hx : SimV im μ x x') (hy : SimV im μ y y') (ox oy : Operand) (w : World) :
    ∃ v', (eqGuard op t ox oy x' y').run P w = .ok () w ∧ (binOp op t x' y').run P w = .ok v' w ∧ SimV im μ v v' := by
  unfold binA at h
  split at h
  · rename_i k a k' b
    rw [hx.inv_int, hy.inv_int]
    have hg := run_eqGuard_other (P := P) (op := op) (t := t) (ox := ox) (oy := oy) (x := .int k a) (y := .int k' b) (by simp) (by simp) w
    split at h
    · simp only [Option.bind_eq_some_iff] at h
      obtain ⟨m, hm, h⟩ := h
      obtain rfl := natOf_eq hm
      simp only [Option.some.injEq, wrapF_eq] at h
      subst h
      refine ⟨_, hg, ?_, .int _ _⟩
      have hn : ¬ ((m : Int) < 0) := by omega
      simp only [binOp, Op.shift, if_neg hn]
      have e : (Int.ofNat (2 ^ Nat.min m k.bits)) = (2 : Int) ^ (min (m : Int).toNat k.bits) := by
        rw [Int.toNat_natCast]
        show ((2 ^ min m k.bits : Nat) : Int) = _
        rw [Int.natCast_pow]
        rfl
      rw [e]
      rfl
    · simp only [Option.bind_eq_some_iff] at h
      obtain ⟨m, hm, h⟩ := h
      obtain rfl := natOf_eq hm
      simp only [Option.some.injEq] at h
      subst h
      refine ⟨_, hg, ?_, .int _ _⟩
      have hn : ¬ ((m : Int) < 0) := by omega
      simp only [binOp, Op.shift, if_neg hn]
      have e : (Int.ofNat (2 ^ Nat.min m k.bits)) = (2 : Int) ^ (min (m : Int).toNat k.bits) := by
        rw [Int.toNat_natCast]
        show ((2 ^ min m k.bits : Nat) : Int) = _
        rw [Int.natCast_pow]
        rfl
      rw [e]
      rfl
    · split at h
      · rename_i hk
        rw [kEq_iff] at hk
        subst hk
        obtain ⟨v', h1, h2⟩ := intBin_ok (P := P) (im := im) (μ := μ) t h w
        exact ⟨v', hg, h1, h2⟩
      · cases h
  · rw [hx.inv_str, hy.inv_str]
    obtain ⟨v', h1, h2⟩ := strBin_ok (P := P) (im := im) (μ := μ) t h w
    exact ⟨v', run_eqGuard_other (by simp) (by simp) w, h1, h2⟩
  · split at h
    · simp only [Option.bind_eq_some_iff] at h
      obtain ⟨b, hb, h⟩ := h
      simp only [Option.some.injEq] at h
      subst h
      obtain ⟨h1, h2⟩ := eqA_ok hb hx hy .eql ox oy w 9999 (by omega)
      have hne := eqA_plain hb hx hy
      refine ⟨.bool b, h1, ?_, .bool b⟩
      rw [binOp_eql hne, Sem.run_bind]
      simp only [Op.equal, Op.maxDepth]
      rw [h2]
      rfl
    · simp only [Option.bind_eq_some_iff] at h
      obtain ⟨b, hb, h⟩ := h
      simp only [Option.some.injEq] at h
      subst h
      obtain ⟨h1, h2⟩ := eqA_ok hb hx hy .neq ox oy w 9999 (by omega)
      have hne := eqA_plain hb hx hy
      refine ⟨.bool (!b), h1, ?_, .bool (!b)⟩
      rw [binOp_neq hne, Sem.run_bind]
      simp only [Op.equal, Op.maxDepth]
      rw [h2]
      rfl
    · cases h

end Go.Nv
