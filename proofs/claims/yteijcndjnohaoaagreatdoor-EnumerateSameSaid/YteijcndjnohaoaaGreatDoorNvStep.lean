/- Every statement, and the whole run. -/
import Derived.Test.YteijcndjnohaoaaGreatDoorNvCode
set_option linter.all false
set_option linter.unusedVariables false
set_option linter.unusedSimpArgs false
namespace Go.Nv
open Go
variable {P : Program} {C : Cfg} {ev : Evn}

theorem run_newObj' (o : Obj) (w : World) : (newObj o).run P w = .ok w.heap.size { w with heap := w.heap.push o } := rfl

theorem run_endLoop {cb : Nat} {L : Loop} {w : World} (h : w.heap[cb]? = some (.loop L)) (hb : L.state ≠ .busy) : (Instr.endLoop cb).run P w = .ok L.pending { w with heap := w.heap.setIfInBounds cb (.loop { L with state := .exhausted }) } := by
  have hb' : (L.state == LoopState.busy) = false := by
    cases hs : L.state <;> first
      | rfl
      | exact absurd hs hb
  simp only [Instr.endLoop, Sem.run_bind, run_getLoop h, Result.andThen_ok, hb', Bool.false_eq_true, if_false, run_setLoop h, Sem.run_pure]

def rangeGo (P : Program) (ev : Evn) (l : Nat) (σ2 : Heap) : AV → Option (CR × Heap)
  | .fn f first caps => callF P ev f (first ++ [AV.yld l] ++ caps) σ2
  | _ => none
def rangeEnd (fr : AF) (marks : List Df) (l : Nat) (q : CR) (σ3 : Heap) : Option (AX × AF × Heap) := match q, σ3.get l with
  | .ret _, some (.loop r) => (match r.st with
    | 1 => none
    | _ => (match r.pend with
      | none => some (.norm, { fr with dfs := marks }, σ3.del l)
      | some .ret => some (.ret, { fr with dfs := marks }, σ3.del l)
      | some (.exit id) => some (.exit id, { fr with dfs := marks }, σ3.del l)))
  | _, _ => none

/-- The loop's record is laid; the function is called; the loop is left. -/
theorem range_tail (E : EvCalls P C ev) {im : IM} {fx : FX} {μ μ1 : Mu} {σ σ1 σ' : Heap} {fr fr' : AF} {a : Act} {w w1 : World} {ro : Option Nat} {n fnid : Nat} {Q : Exit → Act → World → Prop} {g : Operand} {ps : Array Tmp} {assign body : Code} {gv : AV} {marks : List Df} {mark : List Deferred} {x : AX} {defb : Nat}
    (hgv : SimV im μ1 gv (a.eval g)) (H1 : WSim im fx μ1 w1 σ1) (hF : Fresh μ1 σ1.next) (ht : TSim im μ1 fr.tmps a.tmps) (hsz : a.tmps.size = fr.sz) (hd : DSim im μ1 marks (mark ++ a.defers)) (hle : Le im im μ μ1) (hnx : σ.next ≤ σ1.next) (hlow : ∀ b, b < σ.next → μ1 b = μ b)
    (hent : (Instr.enterLoop fnid a.tmps ps assign body ro).run P w = .ok (w1.heap.size, mark) { w1 with heap := w1.heap.push (.loop { state := .ready, pending := none, fn := fnid, tmps := a.tmps, params := ps, assign := assign, body := body, defers := defb }) })
    (h : ((rangeGo P ev σ1.next ((σ1.set σ1.next (.loop { tmps := fr.tmps, sz := fr.sz, params := ps.toList, assign := assign, body := body, st := 0, pend := none })).bump 1) gv).bind fun qs => rangeEnd fr marks σ1.next qs.1 qs.2) = some (x, fr', σ'))
    (hQ : ∀ X a' w' im' μ', XSim im' μ' x X → After im fx μ σ fr' σ' a' w' im' μ' → Q X a' w') :
    ∃ (l : Nat) (mark : List Deferred) (w₁ : World) (d : Deferred) (w₁' : World) (f : FuncId) (args : Array Value) (w₂ : World),
      (Instr.enterLoop fnid a.tmps ps assign body (fenceOf ro).round).run P w = .ok (l, mark) w₁ ∧
      (resolve a.eval (rangeCall g l) 0).run P w₁ = .ok d w₁' ∧
      (∀ f', Target.leads P w₁' d.target d.args = some f' → (fenceOf ro).fn f') ∧
      (invoke d.target d.args).run P w₁' = .ok (.enter f args) w₂ ∧
      ((fenceOf ro).depth.isSome = true → 1 ≤ n) ∧
      CallsIn (fenceOf ro) (n - 1) P f args w₂ (rangePost (fenceOf ro) n P l Q { a with defers := mark ++ a.defers }) := by
  simp only [Option.bind_eq_some_iff] at h
  obtain ⟨⟨q, σ3⟩, hcall, h⟩ := h
  cases gv <;> simp only [rangeGo] at hcall <;> try (cases hcall; done)
  rename_i f first caps
  obtain ⟨first', caps', hge, hs1, hs2⟩ := hgv.inv_fn
  obtain ⟨fn, c, hb1, hb2⟩ := callF_body hcall
  have hl0 : μ1 σ1.next = none := hF _ (Nat.le_refl _)
  let lo : Obj := .loop { state := .ready, pending := none, fn := fnid, tmps := a.tmps, params := ps, assign := assign, body := body, defers := defb }
  have hp := H1.push (w' := { w1 with heap := w1.heap.push lo }) (b := σ1.next) (tot := 0) (x := .loop { tmps := fr.tmps, sz := fr.sz, params := ps.toList, assign := assign, body := body, st := 0, pend := none }) (o := lo) hl0 rfl rfl
    ⟨_, rfl, ht, hsz, rfl, rfl, rfl, rfl, rfl⟩
  have hle2 := WSim.le_upd (im := im) (e := (w1.heap.size, 0, 0)) hl0
  refine ⟨w1.heap.size, mark, { w1 with heap := w1.heap.push lo }, { target := .fn (.func f) caps', args := first' ++ #[.func (.yield w1.heap.size) #[] #[]] }, { w1 with heap := w1.heap.push lo }, f, first' ++ #[.func (.yield w1.heap.size) #[] #[]] ++ caps', { w1 with heap := w1.heap.push lo }, by rw [fenceOf_round]; exact hent, ?_, fun f' _ => fenceOf_fn ro f', by simp only [invoke]; exact run_callFunc E.good hb1 hb2 _, fenceOf_depth ro, ?_⟩
  · have hm : (#[Operand.const (Value.func (Fn.yield w1.heap.size) #[] #[])] : Array Operand).map a.eval = #[Value.func (Fn.yield w1.heap.size) #[] #[]] := by simp [Act.eval]
    simp only [resolve, hge, Deferred.ofValue, Sem.run_pure, hm]
  · refine fenceOf_calls ((E.call f _ _ σ3 q hcall im fx (WSim.upd μ1 σ1.next (w1.heap.size, 0, 0)) _ _ (n - 1) (hp.bump 1) ?_ ?_).mono ?_)
    · simp only [Heap.next_bump, Heap.next_set]
      exact fresh_upd hF
    · simp only [Array.toList_append]
      exact ((hs1.mono hle2).append (.one (.yld _ _ 0 0 (WSim.upd_same _ _ _)))).append (hs2.mono hle2)
    · rintro e w3 ⟨im3, μ3, hE⟩
      have hans := hE.ans
      cases q with
      | pan t v => cases h
      | ret v =>
      simp only [rangeEnd] at h
      split at h
      · rename_i v r hq3 hg3
        cases e with
        | panicked chain => exact hans.elim
        | outgrown => exact hans.elim
        | returned v' =>
          split at h
          · cases h
          · rename_i hst
            have hm3 := hE.le.2 _ _ (WSim.upd_same μ1 σ1.next (w1.heap.size, 0, 0))
            obtain ⟨L, hL, l1, l2, l3, l4, l5, l6, l7⟩ := hE.wld.loop hg3 hm3
            have hnb : L.state ≠ .busy := (stOf_inj l6).2 (fun q => hst q)
            obtain ⟨cb2, base2, tot2, oo, q1, q2, q3, q4, q5⟩ := hE.wld.blk _ _ hg3
            rw [hm3] at q1
            cases q1
            have hW4 : WSim im3 fx μ3 { w3 with heap := w3.heap.setIfInBounds w1.heap.size (.loop { L with state := .exhausted }) } (σ3.del σ1.next) := by
              refine (hE.wld.del _).change q2 q3 (hE.wld.free_del hg3 hm3) (fun c oo hc hh => ?_) rfl
              simp only [Array.getElem?_setIfInBounds_ne (Ne.symm hc)]
              exact hh
            have hle3 : Le im im3 μ1 μ3 := hle2.trans hE.le
            have hA : After im fx μ σ { fr with dfs := marks } (σ3.del σ1.next) { a with defers := mark ++ a.defers } { w3 with heap := w3.heap.setIfInBounds w1.heap.size (.loop { L with state := .exhausted }) } im3 μ3 := by
              have hn3 := hE.nxt
              simp only [Heap.next_bump, Heap.next_set] at hn3
              refine ⟨hle.trans hle3, ⟨hW4, ht.mono hle3, hsz, hd.mono hle3⟩, by rw [Heap.next_del]; omega, by rw [Heap.next_del]; exact hE.fsh, fun b hb => ?_, hE.fxo⟩
              rw [hE.low b (by simp only [Heap.next_bump, Heap.next_set]; omega), WSim.upd_ne (by omega)]
              exact hlow b hb
            obtain ⟨w4, hw4, hA⟩ : ∃ w4, (Instr.endLoop w1.heap.size).run P w3 = .ok L.pending w4 ∧ After im fx μ σ { fr with dfs := marks } (σ3.del σ1.next) { a with defers := mark ++ a.defers } w4 im3 μ3 := ⟨_, run_endLoop hL hnb, hA⟩
            refine ⟨L.pending, w4, hw4, ?_⟩
            rw [l7]
            split at h
            · rename_i hpd
              simp only [Option.some.injEq, Prod.mk.injEq] at h
              obtain ⟨rfl, rfl, rfl⟩ := h
              rw [hpd]
              exact hQ .normal _ _ im3 μ3 trivial hA
            · rename_i hpd
              simp only [Option.some.injEq, Prod.mk.injEq] at h
              obtain ⟨rfl, rfl, rfl⟩ := h
              rw [hpd]
              exact wpIn_ret (hQ .ret _ _ im3 μ3 trivial hA)
            · rename_i id hpd
              simp only [Option.some.injEq, Prod.mk.injEq] at h
              obtain ⟨rfl, rfl, rfl⟩ := h
              rw [hpd]
              exact wpIn_exit (hQ (.exit id) _ _ im3 μ3 rfl hA)
      · cases h

theorem range_sound (E : EvCalls P C ev) {im : IM} {fx : FX} {μ : Mu} {σ σ' : Heap} {fr fr' : AF} {a : Act} {w : World} {ro : Option Nat} {n : Nat} {Q : Exit → Act → World → Prop} {g : Operand} {ps : Array Tmp} {assign body : Code} {x : AX}
    (h : rangeA P C ev g ps assign body fr σ = some (x, fr', σ')) (A : ASim im fx μ fr σ a w) (hF : Fresh μ σ.next) (hrd : RdOk μ fr.rd ro)
    (hQ : ∀ X a' w' im' μ', XSim im' μ' x X → After im fx μ σ fr' σ' a' w' im' μ' → Q X a' w') : (Code.rangeFunc g ps assign body).wpIn (fenceOf ro) n P Q a w := by
  unfold rangeA at h
  obtain ⟨gv, hg, h⟩ := Option.bind_eq_some_iff.1 h
  obtain ⟨⟨σ1, marks⟩, h1, h⟩ := Option.bind_eq_some_iff.1 h
  have h : ((rangeGo P ev σ1.next ((σ1.set σ1.next (.loop { tmps := fr.tmps, sz := fr.sz, params := ps.toList, assign := assign, body := body, st := 0, pend := none })).bump 1) gv).bind fun qs => rangeEnd fr marks σ1.next qs.1 qs.2) = some (x, fr', σ') := h
  have hgv := A.osim (C := C) E.glob _ _ hg
  refine wpIn_rangeFunc fun fnid _ => ?_
  cases hr : fr.rd with
  | some b =>
    rw [hr] at h1 hrd
    cases ro with
    | none => exact hrd.elim
    | some l0 =>
      obtain ⟨base, tot, hm⟩ := hrd
      simp only at h1
      split at h1
      · rename_i r0 hg0
        simp only [Option.some.injEq, Prod.mk.injEq] at h1
        obtain ⟨rfl, rfl⟩ := h1
        obtain ⟨L, hL, _⟩ := A.wld.loop hg0 hm
        refine range_tail E (mark := []) (defb := L.defers) hgv A.wld hF A.tmp A.siz A.dfs (Le.refl _ _) (Nat.le_refl _) (fun _ _ => rfl) ?_ h hQ
        simp only [Instr.enterLoop, Sem.run_bind, run_getLoop hL, Result.andThen_ok, Sem.run_pure, run_newObj']
      · cases h1
  | none =>
    rw [hr] at h1 hrd
    cases ro with
    | some l0 => exact hrd.elim
    | none =>
      simp only [Option.some.injEq, Prod.mk.injEq] at h1
      obtain ⟨rfl, rfl⟩ := h1
      have h0 : μ σ.next = none := hF _ (Nat.le_refl _)
      have hle := WSim.le_upd (im := im) (e := (w.heap.size, 0, 0)) h0
      have hp := A.wld.push (w' := { w with heap := w.heap.push (.deferred (some [])) }) (b := σ.next) (tot := 0) (x := .defs) (o := .deferred (some [])) h0 rfl rfl rfl
      refine range_tail E (μ := μ) (σ := σ) (mark := [{ target := .collected w.heap.size, args := #[] }]) (defb := w.heap.size) (hgv.mono hle) (hp.bump 1) (by simp only [Heap.next_bump, Heap.next_set]; exact fresh_upd hF) (A.tmp.mono hle) A.siz
        (.cons (.mark σ.next) _ _ _ ⟨_, 0, 0, WSim.upd_same _ _ _, rfl⟩ (A.dfs.mono hle)) hle (by simp) upd_below ?_ h hQ
      simp only [Instr.enterLoop, Sem.run_bind, Result.andThen_ok, Sem.run_pure, run_newObj']
end Go.Nv
