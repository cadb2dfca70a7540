/- All pure operations in one statement. -/
import Derived.Test.YteijcndjnohaoaaGreatDoorNvPureOk
set_option linter.all false
set_option linter.unusedVariables false
set_option linter.unusedSimpArgs false
namespace Go.Nv
open Go
variable {P : Program} {C : Cfg} {im : IM} {μ : Mu} {ρ : Operand → Option AV} {ρ' : Operand → Value}

/-- What is asked of a program and of how its calls are carried out. -/
structure Good (P : Program) (C : Cfg) : Prop where
  mixed : P.follows .mixedOrders = true
  names : ∀ (f : Nat) (fn : Func), P.funcs[f]? = some fn → fn.name ≠ "runtime.NumGoroutine"
  same : ∀ f, C.mode f = .same → ∀ (v : Value) (w : World), (callFunc f #[v]).run P w = .ok (.value v) w

theorem run_value {s : Sem Value} {w w' : World} {v : Value} (h : s.run P w = .ok v w') : (do pure (Next.value (← s)) : Sem Next).run P w = .ok (.value v) w' := by
  simp [h]

theorem list_two {α : Type} {a : Array α} {x y : α} (h : a.toList = [x, y]) : a = #[x, y] := by rw [← Array.toArray_toList (xs := a), h]
theorem list_one {α : Type} {a : Array α} {x : α} (h : a.toList = [x]) : a = #[x] := by rw [← Array.toArray_toList (xs := a), h]

theorem usd_nil (ts : Array TypeId) (ty : TypeId) (l c : Nat) : Builtin.unsafeSliceData_ ts ty #[.slice none l c] = pure (.pointer none) := rfl
theorem usd_some {ts : Array TypeId} {ty : TypeId} {a : Addr} {l c : Nat} (h : c ≠ 0) : Builtin.unsafeSliceData_ ts ty #[.slice (some a) l c] = pure (.pointer (some a)) := by
  have e : Builtin.unsafeSliceData_ ts ty #[.slice (some a) l c] = (if c ≠ 0 then pure (.pointer (some a)) else do
    if (← viewAt a.block).isSome then pure (.pointer (some a)) else pure (.pointer (some ⟨← newObj (.view a (← elemOf ty)), 0, none⟩))) := rfl
  rw [e, if_pos h]

theorem pure_ok (G : Good P C) {o : Oper} {v : AV} (hρ : OSim im μ ρ ρ') (hfn : ∀ f, ρ' (.func f) = .func (.func f) #[] #[]) (h : pureV P C ρ o = some v) (w : World) :
    ∃ v', (execOp ρ' o).run P w = .ok (.value v') w ∧ SimV im μ v v' := by
  obtain ⟨dst, op, type, pos, after, guard⟩ := o
  unfold pureV at h
  simp only at h
  split at h
  · exact ⟨_, by simp [execOp], hρ _ _ h⟩
  · exact ⟨_, by simp [execOp], hρ _ _ h⟩
  · rename_i c a b
    simp only [Option.bind_eq_some_iff] at h
    obtain ⟨cv, hc, h⟩ := h
    split at h
    · exact ⟨_, by simp [execOp, (hρ _ _ hc).inv_bool, asBool], hρ _ _ h⟩
    · exact ⟨_, by simp [execOp, (hρ _ _ hc).inv_bool, asBool], hρ _ _ h⟩
    · cases h
  · rename_i x
    simp only [Option.bind_eq_some_iff] at h
    obtain ⟨xv, hx, h⟩ := h
    have hs := hρ _ _ hx
    split at h
    · simp only [Option.some.injEq] at h
      subst h
      obtain ⟨_, _, _, _, e⟩ := hs.inv_ptr
      exact ⟨_, by simp [execOp, e], e ▸ hs⟩
    · simp only [Option.some.injEq] at h
      subst h
      obtain ⟨_, _, _, _, _, _, e⟩ := hs.inv_pptr
      exact ⟨_, by simp [execOp, e], e ▸ hs⟩
    · simp only [Option.some.injEq] at h
      subst h
      obtain ⟨_, _, e, _⟩ := hs.inv_fn
      exact ⟨_, by simp [execOp, e], e ▸ hs⟩
    · cases h
  · rename_i bop t x y ty
    simp only [Option.bind_eq_some_iff] at h
    obtain ⟨a, ha, b, hb, h⟩ := h
    obtain ⟨v', h1, h2, h3⟩ := binA_ok h (hρ _ _ ha) (hρ _ _ hb) x y w
    exact ⟨v', by simp [execOp, h1, h2], h3⟩
  · rename_i uop t x
    simp only [Option.bind_eq_some_iff] at h
    obtain ⟨a, ha, h⟩ := h
    split at h
    · simp only [Option.some.injEq] at h
      subst h
      rename_i b
      refine ⟨.bool (!b), by simp [execOp, (hρ _ _ ha).inv_bool, Op.unary], ?_⟩
      cases b <;> exact .bool _
    · simp only [Option.some.injEq, wrapF_eq] at h
      subst h
      exact ⟨_, by simp [execOp, (hρ _ _ ha).inv_int, Op.unary, Op.intArith], .int _ _⟩
    · cases h
  · rename_i s d x
    simp only [Option.bind_eq_some_iff] at h
    obtain ⟨a, ha, h⟩ := h
    split at h
    · rename_i h1 h2
      simp only [Option.some.injEq, wrapF_eq] at h
      subst h
      exact ⟨_, by simp [execOp, (hρ _ _ ha).inv_int, convert, run_underlying_of h1, run_underlying_of h2, Conv.intToInt], .int _ _⟩
    · rename_i h1 h2
      simp only [Option.some.injEq] at h
      subst h
      exact ⟨_, by simp [execOp, (hρ _ _ ha).inv_str, convert, run_underlying_of h1, run_underlying_of h2], .str _⟩
    · cases h
  · rename_i f first caps
    simp only [Option.bind_eq_some_iff] at h
    obtain ⟨a, ha, b, hb, h⟩ := h
    simp only [Option.some.injEq] at h
    subst h
    refine ⟨.func (.func f) (first.map ρ') (caps.map ρ'), by simp [execOp, Instr.makeFunc], .fn f a b _ _ ?_ ?_⟩
    · simpa using mapO_sim hρ ha
    · simpa using mapO_sim hρ hb
  · rename_i t x lo hi mx
    simp only [Option.bind_eq_some_iff] at h
    obtain ⟨a, ha, l, hl, hh, hhi, m, hm, h⟩ := h
    obtain ⟨v', h1, h2⟩ := sliceV_ok h (hρ _ _ ha) (optA_sim hρ hl) (optA_sim hρ hhi) (optA_sim hρ hm) w
    exact ⟨v', by simp only [execOp]; exact run_value h1, h2⟩
  · rename_i t x f
    simp only [Option.bind_eq_some_iff] at h
    obtain ⟨a, ha, h⟩ := h
    obtain ⟨v', h1, h2⟩ := fieldAddrV_ok h (hρ _ _ ha) w
    exact ⟨v', by simp only [execOp]; exact run_value h1, h2⟩
  · rename_i t x f
    simp only [Option.bind_eq_some_iff] at h
    obtain ⟨a, ha, h⟩ := h
    obtain ⟨v', h1, h2⟩ := fieldV_ok h (hρ _ _ ha) w
    exact ⟨v', by simp only [execOp]; exact run_value h1, h2⟩
  · rename_i t x i
    simp only [Option.bind_eq_some_iff] at h
    obtain ⟨a, ha, j, hj, h⟩ := h
    obtain ⟨v', h1, h2⟩ := indexAddrV_ok h (hρ _ _ ha) (hρ _ _ hj) w
    exact ⟨v', by simp only [execOp]; exact run_value h1, h2⟩
  · rename_i t x i
    simp only [Option.bind_eq_some_iff] at h
    obtain ⟨a, ha, j, hj, h⟩ := h
    obtain ⟨v', h1, h2⟩ := indexV_ok h (hρ _ _ ha) (hρ _ _ hj) w
    exact ⟨v', by simp only [execOp]; exact run_value h1, h2⟩
  · rename_i t x
    simp only [Option.bind_eq_some_iff] at h
    obtain ⟨a, ha, h⟩ := h
    split at h
    · cases h
    · rename_i d hni hd
      simp only [Option.some.injEq] at h
      subst h
      refine ⟨.iface t (ρ' x), ?_, .iface _ _ _ (hρ _ _ ha)⟩
      simp only [execOp]
      refine run_value ?_
      simp only [Instr.makeInterface, Sem.run_bind, run_underlying_of hd, Result.andThen_ok]
      rfl
    · cases h
  · rename_i x xt t
    simp only [Option.bind_eq_some_iff] at h
    obtain ⟨a, ha, h⟩ := h
    split at h
    · cases h
    · rename_i d u v0 hni hd
      obtain ⟨v', he, hs⟩ := (hρ _ _ ha).inv_iface
      split at h
      · rename_i hb
        have hb' := Nat.eq_of_beq_eq_true hb
        subst hb'
        simp only [Option.some.injEq] at h
        subst h
        refine ⟨.tuple #[v', .bool true], ?_, .tup _ _ (.cons _ _ _ _ hs (.one (.bool _)))⟩
        simp only [execOp]
        refine run_value ?_
        rw [he]
        simp only [Instr.typeAssert, Sem.run_bind, run_underlying_of hd, Result.andThen_ok]
        cases d <;> first | exact absurd hd (hni _) | simp
      · rename_i hb
        have hb' : u ≠ t := by rintro rfl; simp at hb
        simp only [Option.bind_eq_some_iff] at h
        obtain ⟨z, hz, h⟩ := h
        simp only [Option.some.injEq] at h
        subst h
        obtain ⟨z', hsz, hrz⟩ := run_zeroValue_of (im := im) (μ := μ) hz
        refine ⟨.tuple #[z', .bool false], ?_, .tup _ _ (.cons _ _ _ _ hsz (.one (.bool _)))⟩
        simp only [execOp]
        refine run_value ?_
        rw [he]
        simp only [Instr.typeAssert, Sem.run_bind, run_underlying_of hd, Result.andThen_ok]
        cases d <;> first | exact absurd hd (hni _) | simp [hb', hrz w]
    · cases h
  · rename_i x i
    simp only [Option.bind_eq_some_iff] at h
    obtain ⟨a, ha, h⟩ := h
    split at h
    · rename_i vs
      obtain ⟨vs', he, hs⟩ := (hρ _ _ ha).inv_tup
      obtain ⟨y, hy, hsy⟩ := (hs.drop i).head? h
      refine ⟨y, ?_, hsy⟩
      rw [List.head?_drop] at hy
      have e : vs'[i]? = some y := by simpa using hy
      simp [execOp, he, Instr.extract, e]
    · cases h
  · rename_i t parts
    simp only [Option.bind_eq_some_iff] at h
    obtain ⟨ps, hps, h⟩ := h
    have hp := partsA_sim hρ hps
    obtain ⟨v', h1, h2⟩ := buildV_ok (parts' := parts.map fun (i, x) => (i, ρ' x)) h (by simpa using hp) w
    exact ⟨v', by simp only [execOp]; exact run_value h1, h2⟩
  · rename_i c
    obtain ⟨callee, args, argTypes⟩ := c
    simp only at h
    split at h
    · rename_i x t hargs hts
      rw [list_one hargs]
      simp only [Option.bind_eq_some_iff] at h
      obtain ⟨a, ha, h⟩ := h
      obtain ⟨v', h1, h2⟩ := lenV_ok h (hρ _ _ ha) type argTypes (by rw [list_one hts]; rfl) w
      exact ⟨v', by simp [execOp, resolve, invoke, builtin, h1], h2⟩
    · rename_i x hargs
      rw [list_one hargs]
      simp only [Option.bind_eq_some_iff] at h
      obtain ⟨a, ha, h⟩ := h
      have hs := hρ _ _ ha
      split at h
      · simp only [Option.some.injEq] at h
        subst h
        exact ⟨.pointer none, by simp [execOp, resolve, invoke, builtin, hs.inv_snil, usd_nil], .nilp⟩
      · rename_i b o n sz
        simp only [Option.some.injEq] at h
        subst h
        obtain ⟨cb, base, tot, cap, ad, hμ, hlc, hcap, he⟩ := hs.inv_sref
        rcases hcap with hcap | ⟨rfl, hb⟩
        · omega
        have hne : cap ≠ 0 := by omega
        exact ⟨.pointer (some ⟨cb, base + o, none⟩), by simp [execOp, resolve, invoke, builtin, he, usd_some hne], .ptr b o cb base tot hμ⟩
      · cases h
    · rename_i f x hargs
      rw [list_one hargs]
      split at h
      · rename_i hm
        exact ⟨ρ' x, by simp [execOp, resolve, Deferred.ofValue, invoke, hfn, G.same f hm], hρ _ _ h⟩
      · cases h
    · rename_i x y hargs
      rw [list_two hargs]
      simp only [Option.bind_eq_some_iff] at h
      obtain ⟨a, ha, b, hb, h⟩ := h
      obtain ⟨v', h1, h2⟩ := minV_ok (P := P) h (hρ _ _ ha) (hρ _ _ hb) type argTypes w
      exact ⟨v', by simp [execOp, resolve, invoke, builtin, h1], h2⟩
    · rename_i x y hargs
      rw [list_two hargs]
      simp only [Option.bind_eq_some_iff] at h
      obtain ⟨a, ha, b, hb, h⟩ := h
      obtain ⟨v', h1, h2⟩ := maxV_ok (P := P) h (hρ _ _ ha) (hρ _ _ hb) type argTypes w
      exact ⟨v', by simp [execOp, resolve, invoke, builtin, h1], h2⟩
    · cases h
  · cases h

end Go.Nv
