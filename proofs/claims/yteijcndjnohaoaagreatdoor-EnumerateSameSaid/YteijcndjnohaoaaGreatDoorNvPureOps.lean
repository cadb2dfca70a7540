/- Each pure operation: what the evaluator computes stands for what the machine does. -/
import Derived.Test.YteijcndjnohaoaaGreatDoorNvBin
set_option linter.all false
set_option linter.unusedVariables false
set_option linter.unusedSimpArgs false
namespace Go.Nv
open Go
variable {P : Program} {im : IM} {μ : Mu} {ρ : Operand → Option AV} {ρ' : Operand → Value}

theorem idxIn_of {i : AV} {len j : Nat} {i' : Value} (h : idxIn i len = some j) (hi : SimV im μ i i') : ∃ k, i' = .int k (j : Int) ∧ j < len := by
  unfold idxIn at h
  split at h
  · rename_i k n
    simp only [Option.bind_eq_some_iff] at h
    obtain ⟨m, hm, h⟩ := h
    obtain rfl := natOf_eq hm
    split at h
    · rename_i hb
      simp only [Option.some.injEq] at h
      subst h
      exact ⟨k, hi.inv_int, Nat.lt_of_lt_of_le (Nat.lt_succ_self _) (Nat.le_of_ble_eq_true hb)⟩
    · cases h
  · cases h

theorem add_at (cb o n : Nat) : (⟨cb, o, none⟩ : Addr).add n = ⟨cb, o + n, none⟩ := by
  unfold Addr.add
  split
  · rename_i h; subst h; rfl
  · rfl

theorem bytes_get (s : List UInt8) (j : Nat) : (⟨s.toArray⟩ : ByteArray)[j]? = s[j]? := by
  by_cases h : j < s.length
  · rw [List.getElem?_eq_getElem h]
    rw [getElem?_pos (⟨s.toArray⟩ : ByteArray) j (by simpa [ByteArray.size] using h)]
    rfl
  · rw [List.getElem?_eq_none (by omega)]
    rw [getElem?_neg (⟨s.toArray⟩ : ByteArray) j (by simpa [ByteArray.size] using h)]

theorem indexAddrV_ok {t : TypeId} {x i v : AV} {x' i' : Value} (h : indexAddrV P t x i = some v) (hx : SimV im μ x x') (hi : SimV im μ i i') (w : World) :
    ∃ v', (Instr.indexAt t x' i').run P w = .ok v' w ∧ SimV im μ v v' := by
  unfold indexAddrV at h
  split at h
  · rename_i e b o len sz ht
    simp only [Option.bind_eq_some_iff] at h
    obtain ⟨n, hn, h⟩ := h
    split at h
    · rename_i hnz
      obtain rfl := Nat.eq_of_beq_eq_true hnz
      simp only [Option.bind_eq_some_iff] at h
      obtain ⟨j, hj, h⟩ := h
      simp only [Option.some.injEq] at h
      subst h
      obtain ⟨k, rfl, hlt⟩ := idxIn_of hj hi
      obtain ⟨cb, base, tot, cap, a, hμ, hlc, ha, rfl⟩ := hx.inv_sref
      rcases ha with ha | ⟨rfl, hb⟩
      · omega
      refine ⟨.pointer (some ⟨cb, base + (o + j * n), none⟩), ?_, .ptr b (o + j * n) cb base tot hμ⟩
      have h0 : (0 : Int) ≤ (j : Int) ∧ (j : Int) < (len : Int) := by omega
      simp [Instr.indexAt, asIntOf, run_underlying_of ht, run_sizeOf_of hn, add_at, Nat.add_assoc, hlt]
    · cases h
  · rename_i e len sz cs ht
    simp only [Option.bind_eq_some_iff] at h
    obtain ⟨n, hn, h⟩ := h
    split at h
    · rename_i hnz
      obtain rfl := Nat.eq_of_beq_eq_true hnz
      simp only [Option.bind_eq_some_iff] at h
      obtain ⟨j, hj, h⟩ := h
      simp only [Option.some.injEq] at h
      subst h
      obtain ⟨k, rfl, hlt⟩ := idxIn_of hj hi
      have hnr := hx.noref_psl
      obtain ⟨a, cap, rfl, hlc, hcl, hd⟩ := hx.inv_psl
      rcases hd with ⟨h0, _⟩ | ⟨l, hsp, him, hbd, hs⟩
      · omega
      have hjn : j * n + n ≤ cs.length := by
        rw [hcl]
        calc j * n + n = (j + 1) * n := by rw [Nat.succ_mul]
          _ ≤ len * n := Nat.mul_le_mul_right n hlt
      have hlen : ((cs.drop (j * n)).take n).length = n := by simp; omega
      have ha : a = ⟨a.block, a.off, none⟩ := by cases a; simp at hsp; subst hsp; rfl
      refine ⟨.pointer (some ⟨a.block, a.off + j * n, none⟩), ?_, .pptr _ (fun x hx => hnr x (List.mem_of_mem_drop (List.mem_of_mem_take hx))) a.block (a.off + j * n) l him (by rw [hlen]; omega) ?_⟩
      · rw [ha]
        simp [Instr.indexAt, asIntOf, run_underlying_of ht, run_sizeOf_of hn, add_at, hlt]
      · rw [hlen]
        have := (hs.drop (j * n)).take n
        rw [List.drop_take, List.take_take, List.drop_drop] at this
        rw [show min n (cs.length - j * n) = n by omega] at this
        exact this
    · cases h
  · rename_i len e b o ht
    simp only [Option.bind_eq_some_iff] at h
    obtain ⟨n, hn, j, hj, h⟩ := h
    simp only [Option.some.injEq] at h
    subst h
    obtain ⟨k, rfl, hlt⟩ := idxIn_of hj hi
    obtain ⟨cb, base, tot, hμ, rfl⟩ := hx.inv_ptr
    refine ⟨.pointer (some ⟨cb, base + (o + j * n), none⟩), ?_, .ptr b (o + j * n) cb base tot hμ⟩
    simp [Instr.indexAt, Instr.sureAddr, asIntOf, run_underlying_of ht, run_sizeOf_of hn, add_at, Nat.add_assoc, hlt]
  · rename_i len e cs ht
    simp only [Option.bind_eq_some_iff] at h
    obtain ⟨n, hn, j, hj, h⟩ := h
    split at h
    · rename_i hle
      simp only [Option.some.injEq] at h
      subst h
      have hle' := Nat.le_of_ble_eq_true hle
      obtain ⟨k, rfl, hlt⟩ := idxIn_of hj hi
      have hnr := hx.noref_pptr
      obtain ⟨cb, off, l, him, hbd, hs, rfl⟩ := hx.inv_pptr
      refine ⟨.pointer (some ⟨cb, off + j * n, none⟩), ?_, .pptr _ (fun x hx => hnr x (List.mem_of_mem_drop hx)) cb (off + j * n) l him (by rw [List.length_drop]; omega) ?_⟩
      · simp [Instr.indexAt, Instr.sureAddr, asIntOf, run_underlying_of ht, run_sizeOf_of hn, add_at, hlt]
      · have := hs.drop (j * n)
        rw [List.drop_take, List.drop_drop] at this
        rw [List.length_drop]
        exact this
    · cases h
  · cases h

theorem fieldAddrV_ok {t : TypeId} {x v : AV} {f : Nat} {x' : Value} (h : fieldAddrV P t x f = some v) (hx : SimV im μ x x') (w : World) :
    ∃ v', (Instr.fieldAt t x' f).run P w = .ok v' w ∧ SimV im μ v v' := by
  unfold fieldAddrV at h
  simp only [Option.bind_eq_some_iff] at h
  obtain ⟨fd, hfd, n, hn, h⟩ := h
  obtain ⟨fs, ht, hf⟩ := tField_of hfd
  cases n with
  | zero => cases h
  | succ n =>
    simp only at h
    split at h
    · rename_i b o
      simp only [Option.some.injEq] at h
      subst h
      obtain ⟨cb, base, tot, hμ, rfl⟩ := hx.inv_ptr
      refine ⟨.pointer (some ⟨cb, base + (o + fd.offset), none⟩), ?_, .ptr b (o + fd.offset) cb base tot hμ⟩
      simp [Instr.fieldAt, Instr.sureAddr, run_underlying_of ht, hf, fieldPlace, run_sizeOf_of hn, add_at, Nat.add_assoc]
    · rename_i cs
      split at h
      · rename_i hle
        simp only [Option.some.injEq] at h
        subst h
        have hle' := Nat.le_of_ble_eq_true hle
        have hnr := hx.noref_pptr
        obtain ⟨cb, off, l, him, hbd, hs, rfl⟩ := hx.inv_pptr
        refine ⟨.pointer (some ⟨cb, off + fd.offset, none⟩), ?_, .pptr _ (fun x hx => hnr x (List.mem_of_mem_drop hx)) cb (off + fd.offset) l him (by rw [List.length_drop]; omega) ?_⟩
        · simp [Instr.fieldAt, Instr.sureAddr, run_underlying_of ht, hf, fieldPlace, run_sizeOf_of hn, add_at]
        · have := hs.drop fd.offset
          rw [List.drop_take, List.drop_drop] at this
          rw [List.length_drop]
          exact this
      · cases h
    · cases h

theorem fieldV_ok {t : TypeId} {x v : AV} {f : Nat} {x' : Value} (h : fieldV P t x f = some v) (hx : SimV im μ x x') (w : World) :
    ∃ v', (Instr.field t x' f).run P w = .ok v' w ∧ SimV im μ v v' := by
  unfold fieldV at h
  simp only [Option.bind_eq_some_iff] at h
  obtain ⟨fd, hfd, h⟩ := h
  obtain ⟨fs, ht, hf⟩ := tField_of hfd
  split at h
  · obtain ⟨cs', rfl, hs⟩ := hx.inv_agg
    obtain ⟨v', h1, h2⟩ := part_ok h hs w
    exact ⟨v', by simp [Instr.field, run_underlying_of ht, hf, asAgg, h1], h2⟩
  · cases h

theorem indexV_ok {t : TypeId} {x i v : AV} {x' i' : Value} (h : indexV P t x i = some v) (hx : SimV im μ x x') (hi : SimV im μ i i') (w : World) :
    ∃ v', (Instr.index t x' i').run P w = .ok v' w ∧ SimV im μ v v' := by
  unfold indexV at h
  split at h
  · rename_i len e cs ht
    simp only [Option.bind_eq_some_iff] at h
    obtain ⟨n, hn, j, hj, h⟩ := h
    obtain ⟨k, rfl, hlt⟩ := idxIn_of hj hi
    obtain ⟨cs', rfl, hs⟩ := hx.inv_agg
    obtain ⟨v', h1, h2⟩ := part_ok h hs w
    exact ⟨v', by simp [Instr.index, asIntOf, run_underlying_of ht, run_sizeOf_of hn, hlt, h1], h2⟩
  · rename_i s ht
    simp only [Option.bind_eq_some_iff] at h
    obtain ⟨j, hj, b, hb, h⟩ := h
    simp only [Option.some.injEq] at h
    subst h
    obtain ⟨k, rfl, hlt⟩ := idxIn_of hj hi
    rw [hx.inv_str]
    refine ⟨.int .u8 b.toNat, ?_, .int _ _⟩
    rw [List.head?_drop] at hb
    have e : (⟨s.toArray⟩ : ByteArray)[j]? = some b := by rw [bytes_get]; exact hb
    simp [Instr.index, asIntOf, run_underlying_of ht, e]
  · cases h

def OptSim (im : IM) (μ : Mu) : Option AV → Option Value → Prop
  | none, none => True
  | some x, some y => SimV im μ x y
  | _, _ => False
theorem optA_sim (hρ : OSim im μ ρ ρ') {x : Option Operand} {v : Option AV} (h : optA ρ x = some v) : OptSim im μ v (x.map ρ') := by
  cases x with
  | none => simp [optA] at h; subst h; trivial
  | some x =>
    simp only [optA, Option.bind_eq_some_iff] at h
    obtain ⟨y, hy, h⟩ := h
    simp only [Option.some.injEq] at h
    subst h
    exact hρ _ _ hy

theorem run_sliceBound (k : IntKind) (n y : Nat) (code : BoundsCode) (h : n ≤ y) (w : World) : (Instr.sliceBound (.int k (n : Int)) y code).run P w = .ok n w := by
  have h' : (n : Int) ≤ (y : Int) := by omega
  simp [Instr.sliceBound, asIntOf, h]

theorem sliceLo_of {lo : Option AV} {h l : Nat} {lo' : Option Value} (e : sliceLo lo h = some l) (hs : OptSim im μ lo lo') : l ≤ h ∧ ((lo' = none ∧ l = 0) ∨ ∃ k, lo' = some (.int k (l : Int))) := by
  unfold sliceLo at e
  split at e
  · simp only [Option.some.injEq] at e
    subst e
    cases lo' with
    | none => exact ⟨Nat.zero_le _, .inl ⟨rfl, rfl⟩⟩
    | some y => exact hs.elim
  · simp only [Option.bind_eq_some_iff] at e
    obtain ⟨n, hn, e⟩ := e
    obtain rfl := natOf_eq hn
    split at e
    · rename_i hle
      simp only [Option.some.injEq] at e
      subst e
      cases lo' with
      | none => exact hs.elim
      | some y => exact ⟨Nat.le_of_ble_eq_true hle, .inr ⟨_, by rw [SimV.inv_int hs]⟩⟩
    · cases e
  · cases e

theorem sliceBounds_ok {isSlice : Bool} {lo hi mx : Option AV} {lo' hi' mx' : Option Value} {len cap h l : Nat} (e1 : sliceHi hi mx len = some h) (e2 : sliceLo lo h = some l)
    (s1 : OptSim im μ lo lo') (s2 : OptSim im μ hi hi') (s3 : OptSim im μ mx mx') (hc : len ≤ cap) (w : World) :
    ∃ m, (Instr.sliceBounds isSlice len cap lo' hi' mx').run P w = .ok (l, h, m) w ∧ h ≤ m ∧ m ≤ cap ∧ l ≤ h ∧ h ≤ len ∧ (mx' = none → m = cap) := by
  obtain ⟨hlh, hlo⟩ := sliceLo_of e2 s1
  unfold sliceHi at e1
  split at e1
  · simp only [Option.some.injEq] at e1
    subst e1
    cases hi' with
    | some y => exact s2.elim
    | none =>
      cases mx' with
      | some y => exact s3.elim
      | none =>
        refine ⟨cap, ?_, hc, Nat.le_refl _, hlh, Nat.le_refl _, fun _ => rfl⟩
        rcases hlo with ⟨rfl, rfl⟩ | ⟨k, rfl⟩
        · simp [Instr.sliceBounds]
        · simp [Instr.sliceBounds, run_sliceBound k l len _ hlh]
  · simp only [Option.bind_eq_some_iff] at e1
    obtain ⟨n, hn, e1⟩ := e1
    obtain rfl := natOf_eq hn
    split at e1
    · rename_i hle
      simp only [Option.some.injEq] at e1
      subst e1
      have hle' := Nat.le_of_ble_eq_true hle
      cases mx' with
      | some y => exact s3.elim
      | none =>
        cases hi' with
        | none => exact s2.elim
        | some y =>
          rw [SimV.inv_int s2]
          refine ⟨cap, ?_, by omega, Nat.le_refl _, hlh, hle', fun _ => rfl⟩
          rcases hlo with ⟨rfl, rfl⟩ | ⟨k, rfl⟩
          · simp [Instr.sliceBounds, run_sliceBound _ n cap _ (Nat.le_trans hle' hc)]
          · simp [Instr.sliceBounds, run_sliceBound _ n cap _ (Nat.le_trans hle' hc), run_sliceBound k l n _ hlh]
    · cases e1
  · simp only [Option.bind_eq_some_iff] at e1
    obtain ⟨n, hn, m, hm, e1⟩ := e1
    obtain rfl := natOf_eq hn
    obtain rfl := natOf_eq hm
    split at e1
    · rename_i hle hle2
      simp only [Option.some.injEq] at e1
      subst e1
      have h1 := Nat.le_of_ble_eq_true hle
      have h2 := Nat.le_of_ble_eq_true hle2
      cases mx' with
      | none => exact s3.elim
      | some y =>
        cases hi' with
        | none => exact s2.elim
        | some z =>
          rw [SimV.inv_int s2, SimV.inv_int s3]
          refine ⟨m, ?_, h1, by omega, hlh, by omega, fun e => by cases e⟩
          rcases hlo with ⟨rfl, rfl⟩ | ⟨k, rfl⟩
          · simp [Instr.sliceBounds, run_sliceBound _ m cap _ (Nat.le_trans h2 hc), run_sliceBound _ n m _ h1]
          · simp [Instr.sliceBounds, run_sliceBound _ m cap _ (Nat.le_trans h2 hc), run_sliceBound _ n m _ h1, run_sliceBound k l n _ hlh]
    · cases e1
  · cases e1

theorem sliceV_ok {t : TypeId} {x v : AV} {lo hi mx : Option AV} {x' : Value} {lo' hi' mx' : Option Value} (h : sliceV P t x lo hi mx = some v) (hx : SimV im μ x x')
    (s1 : OptSim im μ lo lo') (s2 : OptSim im μ hi hi') (s3 : OptSim im μ mx mx') (w : World) :
    ∃ v', (Instr.sliceAt t x' lo' hi' mx').run P w = .ok v' w ∧ SimV im μ v v' := by
  unfold sliceV at h
  split at h
  · rename_i e b o len sz ht
    simp only [Option.bind_eq_some_iff] at h
    obtain ⟨n, hn, h⟩ := h
    split at h
    · rename_i hnz
      obtain rfl := Nat.eq_of_beq_eq_true hnz
      simp only [Option.bind_eq_some_iff] at h
      obtain ⟨hh, h1, l, h2, h⟩ := h
      simp only [Option.some.injEq] at h
      subst h
      obtain ⟨cb, base, tot, cap, a, hμ, hlc, ha, rfl⟩ := hx.inv_sref
      obtain ⟨m, hr, hm1, hm2, hl, hhl, _⟩ := sliceBounds_ok (P := P) (isSlice := true) h1 h2 s1 s2 s3 hlc w
      refine ⟨.slice (some (if m = l then a else a.add (l * n))) (hh - l) (m - l), ?_, ?_⟩
      · simp [Instr.sliceAt, Instr.slice, run_underlying_of ht, hr, run_sizeOf_of hn]
        split <;> rfl
      · refine .sref b (o + l * n) (hh - l) n cb base tot (m - l) _ hμ (by omega) ?_
        rcases ha with ha | ⟨rfl, hb⟩
        · left; omega
        · by_cases e : m = l
          · left; omega
          · right
            rw [if_neg e, add_at]
            refine ⟨by rw [Nat.add_assoc], ?_⟩
            have e1 : l * n + (m - l) * n = m * n := by rw [← Nat.add_mul]; congr 1; omega
            have e2 : m * n ≤ cap * n := Nat.mul_le_mul_right n hm2
            omega
    · cases h
  · rename_i e len sz cs ht
    simp only [Option.bind_eq_some_iff] at h
    obtain ⟨n, hn, h⟩ := h
    split at h
    · rename_i hnz
      obtain rfl := Nat.eq_of_beq_eq_true hnz
      simp only [Option.bind_eq_some_iff] at h
      obtain ⟨hh, h1, l, h2, h⟩ := h
      simp only [Option.some.injEq] at h
      subst h
      have hnr := hx.noref_psl
      obtain ⟨a, cap, rfl, hlc, hcl, hd⟩ := hx.inv_psl
      obtain ⟨m, hr, hm1, hm2, hl, hhl, _⟩ := sliceBounds_ok (P := P) (isSlice := true) h1 h2 s1 s2 s3 hlc w
      refine ⟨.slice (some (if m = l then a else a.add (l * n))) (hh - l) (m - l), ?_, ?_⟩
      · simp [Instr.sliceAt, Instr.slice, run_underlying_of ht, hr, run_sizeOf_of hn]
        split <;> rfl
      · by_cases e : hh - l = 0
        · rw [e]
          simp only [Nat.zero_mul, List.take_zero]
          exact .psl0 _ _ _
        · have e' : ¬ m = l := by omega
          rw [if_neg e']
          rcases hd with ⟨h0, _⟩ | ⟨ll, hsp, him, hbd, hs⟩
          · omega
          have ha : a = ⟨a.block, a.off, none⟩ := by cases a; simp at hsp; subst hsp; rfl
          rw [ha, add_at]
          have q1 : l * n + (hh - l) * n = hh * n := by rw [← Nat.add_mul]; congr 1; omega
          have q2 : hh * n ≤ len * n := Nat.mul_le_mul_right n hhl
          have hlen : ((cs.drop (l * n)).take ((hh - l) * n)).length = (hh - l) * n := by simp; omega
          refine .psl (hh - l) n _ (fun x hx => hnr x (List.mem_of_mem_drop (List.mem_of_mem_take hx))) (m - l) a.block (a.off + l * n) ll hlen (by omega) him (by rw [hlen]; omega) ?_
          rw [hlen]
          have := (hs.drop (l * n)).take ((hh - l) * n)
          rw [List.drop_take, List.take_take, List.drop_drop] at this
          rw [show min ((hh - l) * n) (cs.length - l * n) = (hh - l) * n by omega] at this
          exact this
    · cases h
  · rename_i e ht
    simp only [Option.bind_eq_some_iff] at h
    obtain ⟨n, hn, hh, h1, l, h2, h⟩ := h
    simp only [Option.some.injEq] at h
    subst h
    rw [hx.inv_snil]
    obtain ⟨m, hr, hm1, hm2, hl, hhl, _⟩ := sliceBounds_ok (P := P) (isSlice := true) h1 h2 s1 s2 s3 (Nat.le_refl 0) w
    have q1 : hh = 0 := by omega
    have q2 : l = 0 := by omega
    have q3 : m = 0 := by omega
    subst q1 q2 q3
    exact ⟨.slice none 0 0, by simp [Instr.sliceAt, Instr.slice, run_underlying_of ht, hr, run_sizeOf_of hn], .snil⟩
  · rename_i s ht
    split at h
    · simp only [Option.bind_eq_some_iff] at h
      obtain ⟨hh, h1, l, h2, h⟩ := h
      simp only [Option.some.injEq] at h
      subst h
      rw [hx.inv_str]
      cases mx' with
      | some y => exact s3.elim
      | none =>
        obtain ⟨m, hr, hm1, hm2, hl, hhl, _⟩ := sliceBounds_ok (P := P) (isSlice := false) h1 h2 s1 s2 (show OptSim im μ none none from trivial) (Nat.le_refl s.length) w
        refine ⟨.string ((⟨s.toArray⟩ : ByteArray).extract l hh), ?_, ?_⟩
        · simp only [Instr.sliceAt, Sem.run_bind, run_underlying_of ht, Result.andThen_ok, Instr.slice, bytes_size]
          simp [hr]
        · have e : (⟨s.toArray⟩ : ByteArray).extract l hh = ⟨((s.drop l).take (hh - l)).toArray⟩ := by
            apply ByteArray.ext
            simp [ByteArray.data_extract, List.extract]
          rw [e]
          exact .str _
    · cases h
  · cases h

end Go.Nv
