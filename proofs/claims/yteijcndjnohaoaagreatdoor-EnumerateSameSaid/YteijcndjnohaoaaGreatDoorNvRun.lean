/- The evaluator is sound. -/
import Derived.Test.YteijcndjnohaoaaGreatDoorNvStep
set_option linter.all false
set_option linter.unusedVariables false
set_option linter.unusedSimpArgs false
namespace Go.Nv
open Go
variable {P : Program} {C : Cfg} {ev : Evn}

/-! ### The frame's round stays -/
theorem aops_rd {ops : Array Oper} {base : Nat} : ∀ (rest : List Oper) (i : Nat) (fr : AF) (σ : Heap) (r : OR), aops P C ev ops base i rest fr σ = some r → (match r with | .ok fr' _ => fr'.rd = fr.rd | .pan _ _ fr' _ => fr'.rd = fr.rd)
  | [], i, fr, σ, r, h => by
    simp only [aops, Option.some.injEq] at h
    subst h
    rfl
  | o :: rest, i, fr, σ, r, h => by
    simp only [aops, Option.bind_eq_some_iff] at h
    obtain ⟨r1, h1, h2⟩ := h
    have hr1 : (match r1 with | .ok fr' _ => fr'.rd = fr.rd | .pan _ _ fr' _ => fr'.rd = fr.rd) := by
      unfold aop at h1
      split at h1
      · cases h1
      · simp only [Option.bind_eq_some_iff] at h1
        obtain ⟨wt, _, h1⟩ := h1
        split at h1
        · simp only [Option.some.injEq] at h1
          subst h1
          simp only [AF.put_upd, AF.upd_rd]
        · split at h1
          · cases r1 with
            | ok fr' σ' =>
              obtain ⟨v, ds, rfl, _⟩ := loudE_shape h1
              simp only [AF.upd_rd]
            | pan t v fr' σ' =>
              have := loudE_pan h1
              subst this
              rfl
          · simp only [Option.bind_eq_some_iff, Option.some.injEq] at h1
            obtain ⟨⟨v, e⟩, _, rfl⟩ := h1
            simp only [AF.put_upd, AF.upd_rd]
    cases r1 with
    | ok fr1 σ1 =>
      have ih := aops_rd rest (i + 1) fr1 σ1 r h2
      simp only at hr1
      cases r with
      | ok fr' σ' => exact Eq.trans ih hr1
      | pan t v fr' σ' => exact Eq.trans ih hr1
    | pan t v fr1 σ1 =>
      simp only [OR.then, Option.some.injEq] at h2
      subst h2
      exact hr1

theorem aopsD_rd {ops : Array Oper} {base : Nat} : ∀ (rest : List Oper) (i : Nat) (fr fr' : AF) (σ σ' : Heap) (l : List Foot), aopsD P C ev ops base i rest fr σ = some (l, fr', σ') → fr'.rd = fr.rd
  | [], i, fr, fr', σ, σ', l, h => by
    simp only [aopsD, Option.some.injEq, Prod.mk.injEq] at h
    rw [← h.2.1]
  | o :: rest, i, fr, fr', σ, σ', l, h => by
    simp only [aopsD, Option.bind_eq_some_iff, Option.some.injEq, Prod.mk.injEq] at h
    obtain ⟨⟨f, fr1, σ1⟩, h1, ⟨l1, fr2, σ2⟩, h2, _, rfl, rfl⟩ := h
    obtain ⟨_, v, ds, rfl, _⟩ := form_of h1
    rw [aopsD_rd rest (i + 1) _ _ _ _ _ h2, AF.upd_rd]

theorem regionA_rd {ops : Array Oper} {draw : Bool} {fr fr' : AF} {σ σ' : Heap} {x : AX} (h : regionA P C ev ops draw fr σ = some (x, fr', σ')) : fr'.rd = fr.rd := by
  unfold regionA at h
  split at h
  · simp only [Option.bind_eq_some_iff] at h
    obtain ⟨r, hr, h⟩ := h
    have := aops_rd _ _ _ _ _ hr
    cases r <;> simp only [Option.some.injEq, Prod.mk.injEq] at h this <;> obtain ⟨_, rfl, _⟩ := h <;> exact this
  · split at h
    · cases h
    · simp only [Option.bind_eq_some_iff] at h
      obtain ⟨ps, _, ⟨l, fr1, σ1⟩, hl, h⟩ := h
      split at h
      · simp only [Option.some.injEq, Prod.mk.injEq] at h
        obtain ⟨_, rfl, _⟩ := h
        exact aopsD_rd _ _ _ _ _ _ _ hl
      · cases h

theorem rangeA_rd {g : Operand} {ps : Array Tmp} {assign body : Code} {fr fr' : AF} {σ σ' : Heap} {x : AX} (h : rangeA P C ev g ps assign body fr σ = some (x, fr', σ')) : fr'.rd = fr.rd := by
  unfold rangeA at h
  obtain ⟨gv, hg, h⟩ := Option.bind_eq_some_iff.1 h
  obtain ⟨⟨σ1, marks⟩, h1, h⟩ := Option.bind_eq_some_iff.1 h
  obtain ⟨⟨q, σ3⟩, _, h⟩ := Option.bind_eq_some_iff.1 h
  have h : rangeEnd fr marks σ1.next q σ3 = some (x, fr', σ') := h
  unfold rangeEnd at h
  split at h
  · split at h
    · cases h
    · split at h <;> simp only [Option.some.injEq, Prod.mk.injEq] at h <;> obtain ⟨_, rfl, _⟩ := h <;> rfl
  · cases h

/-! ### Loops -/
theorem exists_least {p : Nat → Prop} (h : ∃ n, p n) : ∃ n, p n ∧ ∀ m, p m → n ≤ m := by
  obtain ⟨n, hn⟩ := h
  induction n using Nat.strongRecOn with
  | _ n ih =>
    by_cases hex : ∃ m, m < n ∧ p m
    · obtain ⟨m, hm, hp⟩ := hex
      exact ih m hm hp
    · exact ⟨n, hn, fun m hm => Nat.le_of_not_lt fun hlt => hex ⟨m, hlt, hm⟩⟩

open Classical in
noncomputable def least (p : Nat → Prop) : Nat := if h : ∃ n, p n ∧ ∀ m, p m → n ≤ m then Classical.choose h else 0
theorem least_spec {p : Nat → Prop} (h : ∃ n, p n) : p (least p) ∧ ∀ m, p m → least p ≤ m := by
  have h' := exists_least h
  unfold least
  rw [dif_pos h']
  exact Classical.choose_spec h'

theorem exit_then {K : Act → World → Prop} {Q : Exit → Act → World → Prop} {im : IM} {μ : Mu} {x : AX} {X : Exit} {a : Act} {w : World} (hX : XSim im μ x X) (hx : x ≠ .norm) (h : Q X a w) : Exit.then K Q X a w := by
  cases X <;> try exact h
  cases x <;> first
    | exact absurd rfl hx
    | exact hX.elim

theorem loopA_rd (S : EvSound P ev) {b : Code} : ∀ (k : Nat) (fr fr' : AF) (σ σ' : Heap) (x : AX), loopA ev b k fr σ = some (x, fr', σ') → fr'.rd = fr.rd
  | 0, _, _, _, _, _, h => by cases h
  | k + 1, fr, fr', σ, σ', x, h => by
    simp only [loopA, Option.bind_eq_some_iff] at h
    obtain ⟨⟨x1, fr1, σ1⟩, h1, h⟩ := h
    have hr := (S _ _ _ _ _ _ h1).1
    simp only at h
    split at h
    · rw [loopA_rd S k _ _ _ _ _ h, hr]
    · simp only [Option.some.injEq, Prod.mk.injEq] at h
      obtain ⟨_, rfl, _⟩ := h
      exact hr

theorem loop_sound (S : EvSound P ev) {b : Code} {k : Nat} {im : IM} {fx : FX} {μ : Mu} {σ σ' : Heap} {fr fr' : AF} {x : AX} {a : Act} {w : World} {ro : Option Nat} {n : Nat} {Q : Exit → Act → World → Prop} (h : loopA ev b k fr σ = some (x, fr', σ'))
    (A : ASim im fx μ fr σ a w) (hF : Fresh μ σ.next) (hrd : RdOk μ fr.rd ro) (hQ : ∀ X a' w' im' μ', XSim im' μ' x X → After im fx μ σ fr' σ' a' w' im' μ' → Q X a' w') : (Code.loop b).wpIn (fenceOf ro) n P Q a w := by
  let J : Act → World → Nat → Prop := fun a1 w1 k1 => ∃ fr1 σ1 im1 μ1, loopA ev b k1 fr1 σ1 = some (x, fr', σ') ∧ After im fx μ σ fr1 σ1 a1 w1 im1 μ1 ∧ fr1.rd = fr.rd
  refine wpIn_loop (fun a1 w1 => ∃ k1, J a1 w1 k1) (fun a1 w1 => least (J a1 w1)) ⟨k, fr, σ, im, μ, h, After.refl A hF, rfl⟩ ?_
  intro a1 w1 hI
  obtain ⟨⟨fr1, σ1, im1, μ1, hl, hA, hr⟩, _⟩ := least_spec hI
  generalize hk : least (J a1 w1) = k1 at hl
  cases k1 with
  | zero => cases hl
  | succ k1 =>
    simp only [loopA, Option.bind_eq_some_iff] at hl
    obtain ⟨⟨x1, fr2, σ2⟩, h1, hl⟩ := hl
    obtain ⟨hr2, hS⟩ := S _ _ _ _ _ _ h1
    refine hS im1 fx μ1 a1 w1 ro n _ hA.sim hA.fsh (by rw [hr]; exact hrd.mono hA.le) ?_
    intro X a2 w2 im2 μ2 hX hA2
    simp only at hl
    split at hl
    · cases X <;> try exact hX.elim
      have hJ : J a2 w2 k1 := ⟨fr2, σ2, im2, μ2, hl, hA.trans hA2, hr2.trans hr⟩
      refine ⟨⟨k1, hJ⟩, ?_⟩
      have := (least_spec ⟨k1, hJ⟩).2 k1 hJ
      omega
    · rename_i hne
      simp only [Option.some.injEq, Prod.mk.injEq] at hl
      obtain ⟨rfl, rfl, rfl⟩ := hl
      exact exit_then hX hne (hQ X a2 w2 im2 μ2 hX (hA.trans hA2))

/-! ### Every statement -/
theorem step_sound (E : EvCalls P C ev) (S : EvSound P ev) (m : Nat) : EvSound P (step P C m ev) := by
  intro c fr fr' σ σ' x h
  cases c <;> simp only [step] at h <;> try (cases h; done)
  case skip =>
    simp only [Option.some.injEq, Prod.mk.injEq] at h
    obtain ⟨rfl, rfl, rfl⟩ := h
    exact ⟨rfl, fun im fx μ a w ro n Q A hF hrd hQ => wpIn_skip (hQ .normal a w im μ trivial (After.refl A hF))⟩
  case region id ops draw => exact ⟨regionA_rd h, fun im fx μ a w ro n Q A hF hrd hQ => region_sound E h A hF hrd hQ⟩
  case seq p q =>
    simp only [Option.bind_eq_some_iff] at h
    obtain ⟨⟨x1, fr1, σ1⟩, h1, h⟩ := h
    obtain ⟨hr1, hS1⟩ := S _ _ _ _ _ _ h1
    simp only at h
    split at h
    · obtain ⟨hr2, hS2⟩ := S _ _ _ _ _ _ h
      refine ⟨hr2.trans hr1, fun im fx μ a w ro n Q A hF hrd hQ => wpIn_seq (hS1 im fx μ a w ro n _ A hF hrd ?_)⟩
      intro X a1 w1 im1 μ1 hX hA1
      cases X <;> try exact hX.elim
      exact hS2 im1 fx μ1 a1 w1 ro n Q hA1.sim hA1.fsh (by rw [hr1]; exact hrd.mono hA1.le) fun X a2 w2 im2 μ2 hX2 hA2 => hQ X a2 w2 im2 μ2 hX2 (hA1.trans hA2)
    · rename_i hne
      simp only [Option.some.injEq, Prod.mk.injEq] at h
      obtain ⟨rfl, rfl, rfl⟩ := h
      exact ⟨hr1, fun im fx μ a w ro n Q A hF hrd hQ => wpIn_seq (hS1 im fx μ a w ro n _ A hF hrd fun X a1 w1 im1 μ1 hX hA1 => exit_then hX hne (hQ X a1 w1 im1 μ1 hX hA1))⟩
  case cond g p q =>
    simp only [Option.bind_eq_some_iff] at h
    obtain ⟨v, hv, h⟩ := h
    split at h
    · obtain ⟨hr, hS⟩ := S _ _ _ _ _ _ h
      exact ⟨hr, fun im fx μ a w ro n Q A hF hrd hQ => wpIn_cond_true ((A.osim (C := C) E.glob _ _ hv).inv_bool) (hS im fx μ a w ro n Q A hF hrd hQ)⟩
    · obtain ⟨hr, hS⟩ := S _ _ _ _ _ _ h
      exact ⟨hr, fun im fx μ a w ro n Q A hF hrd hQ => wpIn_cond_false ((A.osim (C := C) E.glob _ _ hv).inv_bool) (hS im fx μ a w ro n Q A hF hrd hQ)⟩
    · cases h
  case block id b =>
    simp only [Option.bind_eq_some_iff] at h
    obtain ⟨⟨x1, fr1, σ1⟩, h1, h⟩ := h
    obtain ⟨hr1, hS1⟩ := S _ _ _ _ _ _ h1
    simp only at h
    split at h
    · rename_i k
      split at h
      · rename_i hk
        have hk' := Nat.eq_of_beq_eq_true hk
        subst hk'
        simp only [Option.some.injEq, Prod.mk.injEq] at h
        obtain ⟨rfl, rfl, rfl⟩ := h
        refine ⟨hr1, fun im fx μ a w ro n Q A hF hrd hQ => wpIn_block (hS1 im fx μ a w ro n _ A hF hrd ?_)⟩
        intro X a1 w1 im1 μ1 hX hA1
        cases X <;> try exact hX.elim
        have hX' : k = _ := hX
        subst hX'
        simp only [Exit.inBlock, if_true]
        exact hQ .normal a1 w1 im1 μ1 trivial hA1
      · rename_i hk
        simp only [Option.some.injEq, Prod.mk.injEq] at h
        obtain ⟨rfl, rfl, rfl⟩ := h
        refine ⟨hr1, fun im fx μ a w ro n Q A hF hrd hQ => wpIn_block (hS1 im fx μ a w ro n _ A hF hrd ?_)⟩
        intro X a1 w1 im1 μ1 hX hA1
        cases X <;> try exact hX.elim
        have hX' : k = _ := hX
        subst hX'
        have hne : ¬ k = id := by
          rintro rfl
          rw [Nat.beq_refl] at hk
          cases hk
        simp only [Exit.inBlock, if_neg hne]
        exact hQ (.exit k) a1 w1 im1 μ1 rfl hA1
    · rename_i hne
      simp only [Option.some.injEq, Prod.mk.injEq] at h
      obtain ⟨rfl, rfl, rfl⟩ := h
      refine ⟨hr1, fun im fx μ a w ro n Q A hF hrd hQ => wpIn_block (hS1 im fx μ a w ro n _ A hF hrd ?_)⟩
      intro X a1 w1 im1 μ1 hX hA1
      have hq := hQ X a1 w1 im1 μ1 hX hA1
      cases X <;> try exact hq
      cases x1 <;> try exact hX.elim
      exact absurd rfl (hne _)
  case loop b => exact ⟨loopA_rd S _ _ _ _ _ _ h, fun im fx μ a w ro n Q A hF hrd hQ => loop_sound S h A hF hrd hQ⟩
  case exit id =>
    simp only [Option.some.injEq, Prod.mk.injEq] at h
    obtain ⟨rfl, rfl, rfl⟩ := h
    exact ⟨rfl, fun im fx μ a w ro n Q A hF hrd hQ => wpIn_exit (hQ (.exit id) a w im μ rfl (After.refl A hF))⟩
  case ret =>
    simp only [Option.some.injEq, Prod.mk.injEq] at h
    obtain ⟨rfl, rfl, rfl⟩ := h
    exact ⟨rfl, fun im fx μ a w ro n Q A hF hrd hQ => wpIn_ret (hQ .ret a w im μ trivial (After.refl A hF))⟩
  case rangeFunc g ps p q => exact ⟨rangeA_rd h, fun im fx μ a w ro n Q A hF hrd hQ => range_sound E h A hF hrd hQ⟩

/-! ### The evaluator -/
theorem run_sound (G : Good P C) (hg : ∀ g, C.glob g = none) (hM : MemoOk P C) (hB : BodiesOk P C) : ∀ n, EvSound P (run P C n)
  | 0 => fun c fr fr' σ σ' x h => by cases h
  | n + 1 =>
    have S := run_sound G hg hM hB n
    step_sound ⟨G, hg, hM, hB, call_sound S G, round_sound S⟩ S n

/-- A call over an empty memory that the evaluator carries out. -/
theorem pureOk_of_run (G : Good P C) (hg : ∀ g, C.glob g = none) (hM : MemoOk P C) (hB : BodiesOk P C) {n f : Nat} {args : List AV} {v : AV} (h : callPure P C (run P C n) f args = some v) : PureOk P f args v :=
  callPure_ok (call_sound (run_sound G hg hM hB n) G) hM h

theorem hasBody_of_run (G : Good P C) (hg : ∀ g, C.glob g = none) (hM : MemoOk P C) (hB : BodiesOk P C) {n f : Nat} {args : List AV} {v : AV} (h : callPure P C (run P C n) f args = some v) : HasBody P f := by
  have S := run_sound G hg hM hB n
  exact callPure_body ⟨G, hg, hM, hB, call_sound S G, round_sound S⟩ h
end Go.Nv
