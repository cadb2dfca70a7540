/- Calls over an empty memory, as the caller sees them. -/
import Derived.Test.YteijcndjnohaoaaGreatDoorNvFreeze
set_option linter.all false
set_option linter.unusedVariables false
set_option linter.unusedSimpArgs false
namespace Go.Nv
open Go
variable {P : Program} {C : Cfg} {ev : Evn} {im im' : IM} {fx : FX} {μ : Mu} {w w' : World} {σ : Heap} {lim : Nat → Bool}

/-- A call of f with these arguments comes to this value, whatever the world; nothing that was there is turned. -/
def PureOk (P : Program) (f : Nat) (args : List AV) (v : AV) : Prop := ∀ (im : IM) (w : World) (args' : Array Value) (n : Nat), ImOk im w → SimL im mu0 args args'.toList →
  CallsIn Fence.wide n P f args' w fun e w' => ∃ im' v', e = .returned v' ∧ (∀ c, c < w.heap.size → im' c = im c) ∧ ImOk im' w' ∧ Keeps w w' ∧ SimV im' mu0 v v' ∧ NoRef v

def MemoOk (P : Program) (C : Cfg) : Prop := ∀ f args v, C.memo f args = some v → PureOk P f args v

theorem WSim.imOk (H : WSim im fx μ w σ) : ImOk im w := fun c l h => H.imm c l h
theorem Keeps.size (h : Keeps w w') : w.heap.size ≤ w'.heap.size := by
  rcases Nat.eq_zero_or_pos w.heap.size with h0 | h0
  · omega
  · have h1 : w.heap[w.heap.size - 1]? = some w.heap[w.heap.size - 1] := Array.getElem?_eq_getElem (by omega)
    have := (Array.getElem?_eq_some_iff.1 (h.1 _ _ h1)).1
    omega

theorem WSim.carry (H : WSim im fx μ w σ) (h1 : ∀ c, c < w.heap.size → im' c = im c) (h2 : ImOk im' w') (h3 : Keeps w w') :
    WSim im' fx μ w' σ ∧ Le im im' μ μ ∧ ∀ c, fx c ≠ none → im' c = im c := by
  have hl := H.lt_size
  have hle : Le im im' μ μ := ⟨fun c l hc => by rw [h1 c (hl.1 c l hc)]; exact hc, fun _ _ h => h⟩
  refine ⟨⟨h2, fun b o hb => h3.1 _ _ (H.fix b o hb), fun b x hb => ?_, H.inj, h3.2.trans H.os⟩, hle, fun c hc => ?_⟩
  · obtain ⟨cb, base, tot, o, q1, q2, q3, q4, q5⟩ := H.blk b x hb
    exact ⟨cb, base, tot, o, q1, by rw [h1 cb (hl.2.2 b x _ hb q1)]; exact q2, q3, h3.1 _ _ q4, q5.mono hle⟩
  · obtain ⟨o, ho⟩ := Option.ne_none_iff_exists'.1 hc
    exact h1 c (hl.2.1 c o ho)

theorem wsim_empty (h : ImOk im w) : WSim im (fxOf w) mu0 w .empty :=
  ⟨h, fun _ _ h => h, (fun b x hb => by rw [Heap.get_empty] at hb; cases hb), (fun b b' x x' e e' hb => by rw [Heap.get_empty] at hb; cases hb), rfl⟩

/-- Of a world's later blocks all cells are immutable from now on. -/
def sealed (im : IM) (n : Nat) (w' : World) : IM := fun c => if c < n then im c else match w'.heap[c]? with
  | some (.cells arr _ _) => some arr.toList
  | _ => none

theorem sealed_lt {n c : Nat} (h : c < n) : sealed im n w' c = im c := by simp [sealed, h]
theorem sealed_ge {n c : Nat} (h : ¬ c < n) : sealed im n w' c = (match w'.heap[c]? with
  | some (.cells arr _ _) => some arr.toList
  | _ => none) := by simp [sealed, h]

theorem callEnd_keeps {σ' : Heap} {r : CR} {e : Ending} {im' : IM} {μ' : Mu} (h : CallEnd im (fxOf w) mu0 .empty r σ' e w' im' μ') : Keeps w w' := ⟨fun c o hc => h.wld.fix c o hc, h.wld.os⟩

theorem callEnd_old {σ' : Heap} {r : CR} {e : Ending} {im' : IM} {μ' : Mu} (h : CallEnd im (fxOf w) mu0 .empty r σ' e w' im' μ') {c : Nat} (hc : c < w.heap.size) : im' c = im c :=
  h.fxo c (by rw [fxOf_at, Array.getElem?_eq_getElem hc]; intro q; cases q)

theorem callEnd_new {σ' : Heap} {r : CR} {e : Ending} {im' : IM} {μ' : Mu} (h : CallEnd im (fxOf w) mu0 .empty r σ' e w' im' μ') {b cb base tot : Nat} {x : ABlk} (hb : σ'.get b = some x) (hm : μ' b = some (cb, base, tot)) : ¬ cb < w.heap.size := by
  obtain ⟨cb2, base2, tot2, o, q1, q2, q3, q4, q5⟩ := h.wld.blk b x hb
  rw [hm] at q1
  cases q1
  intro hlt
  rw [fxOf_at, Array.getElem?_eq_getElem hlt] at q3
  cases q3

theorem sealed_le {σ' : Heap} {r : CR} {e : Ending} {im' : IM} {μ' : Mu} (h : CallEnd im (fxOf w) mu0 .empty r σ' e w' im' μ') : ∀ c l, im' c = some l → sealed im w.heap.size w' c = some l := by
  intro c l hc
  by_cases hlt : c < w.heap.size
  · rw [sealed_lt hlt, ← callEnd_old h hlt]; exact hc
  · rw [sealed_ge hlt]
    obtain ⟨arr, ty, fr, q1, q2⟩ := h.wld.imm c l hc
    rw [q1]
    simp [q2]

theorem sealed_ok (hi : ImOk im w) (hk : Keeps w w') : ImOk (sealed im w.heap.size w') w' := by
  intro c l hc
  by_cases hlt : c < w.heap.size
  · rw [sealed_lt hlt] at hc
    obtain ⟨arr, ty, fr, q1, q2⟩ := hi c l hc
    exact ⟨arr, ty, fr, hk.1 _ _ q1, q2⟩
  · rw [sealed_ge hlt] at hc
    split at hc
    · rename_i arr ty fr hq
      simp only [Option.some.injEq] at hc
      exact ⟨arr, ty, fr, hq, hc⟩
    · cases hc

theorem sealed_cov {σ' : Heap} {r : CR} {e : Ending} {im' : IM} {μ' : Mu} (h : CallEnd im (fxOf w) mu0 .empty r σ' e w' im' μ') (b : Nat) : Cov (sealed im w.heap.size w') μ' w' σ' b := by
  intro x cb base tot arr ty fr hg hm hc
  rw [sealed_ge (callEnd_new h hg hm), hc]

theorem callPure_ok (hC : CallOk P ev) (hM : MemoOk P C) {f : Nat} {args : List AV} {v : AV} (h : callPure P C ev f args = some v) : PureOk P f args v := by
  unfold callPure at h
  split at h
  · rename_i v' hm
    simp only [Option.some.injEq] at h
    subst h
    exact hM _ _ _ hm
  · simp only [Option.bind_eq_some_iff] at h
    obtain ⟨⟨r, σ'⟩, hcall, h⟩ := h
    cases r with
    | pan t v => cases h
    | ret v0 =>
      simp only at h
      intro im w args' n hi hs
      refine (hC f args .empty σ' (.ret v0) hcall im _ mu0 args' w n (wsim_empty hi) (fun _ _ => rfl) hs).mono ?_
      rintro e w' ⟨im', μ', hE⟩
      have hans := hE.ans
      cases e with
      | panicked chain => exact hans.elim
      | outgrown => exact hans.elim
      | returned v' =>
        have hk := callEnd_keeps hE
        obtain ⟨q1, q2⟩ := freeze_ok (im2 := sealed im w.heap.size w') (μ2 := mu0) hE.wld (sealed_le hE) deep v0 v' v h hans (fun b _ => sealed_cov hE b)
        exact ⟨sealed im w.heap.size w', v', rfl, fun c hc => sealed_lt hc, sealed_ok hi hk, hk, q1, q2⟩

/-- All of a world's cells taken for immutable. -/
def allIm (w : World) : IM := fun c => match w.heap[c]? with
  | some (.cells arr _ _) => some arr.toList
  | _ => none
theorem allIm_ok (w : World) : ImOk (allIm w) w := by
  intro c l h
  unfold allIm at h
  split at h
  · rename_i arr ty fr hq
    simp only [Option.some.injEq] at h
    exact ⟨arr, ty, fr, hq, h⟩
  · cases h
theorem allIm_le (h : ImOk im w) : ∀ c l, im c = some l → allIm w c = some l := by
  intro c l hc
  obtain ⟨arr, ty, fr, h1, h2⟩ := h c l hc
  simp only [allIm, h1, h2]
theorem allIm_cov (μ : Mu) (σ : Heap) (b : Nat) : Cov (allIm w) μ w σ b := by
  intro x cb base tot arr ty fr _ _ hc
  simp only [allIm, hc]

/-- A call whose arguments may name blocks. -/
theorem callRead_ok (hC : CallOk P ev) (hM : MemoOk P C) (H : WSim im fx μ w σ) {f : Nat} {args : List AV} {v : AV} {args' : Array Value} (h : callRead P C ev f args σ lim = some v) (hs : SimL im μ args args'.toList) (n : Nat) :
    CallsIn Fence.wide n P f args' w fun e w' => ∃ im' v', e = .returned v' ∧ WSim im' fx μ w' σ ∧ Le im im' μ μ ∧ (∀ c, fx c ≠ none → im' c = im c) ∧ SimV im' μ v v' := by
  unfold callRead at h
  split at h
  · rename_i hp
    refine (callPure_ok hC hM h im w args' n H.imOk (hs.noref (fun _ _ h => h) (pure_norefL deep hp hs))).mono ?_
    rintro e w' ⟨im', v', rfl, h1, h2, h3, h4, h5⟩
    obtain ⟨q1, q2, q3⟩ := H.carry h1 h2 h3
    exact ⟨im', v', rfl, q1, q2, q3, h4.noref (fun _ _ h => h) h5⟩
  · simp only [Option.bind_eq_some_iff] at h
    obtain ⟨xs, hxs, v0, hv0, h⟩ := h
    split at h
    · rename_i hsc
      simp only [Option.some.injEq] at h
      subst h
      obtain ⟨q1, q2, _⟩ := freezeL_ok (im2 := allIm w) (μ2 := mu0) (R := reach σ deep) (ok := Cov (allIm w) μ w σ) (fun x y v => freeze_ok H (allIm_le H.imOk) deep x y v) hxs hs (fun b _ => allIm_cov μ σ b)
      refine (callPure_ok hC hM hv0 (allIm w) w args' n (allIm_ok w) q1).mono ?_
      rintro e w' ⟨im', v', rfl, h1, h2, h3, h4, h5⟩
      have hi : ImOk im w' := fun c l hc => by
        obtain ⟨arr, ty, fr, g1, g2⟩ := H.imm c l hc
        exact ⟨arr, ty, fr, h3.1 _ _ g1, g2⟩
      obtain ⟨g1, g2, g3⟩ := H.carry (im' := im) (fun _ _ => rfl) hi h3
      exact ⟨im, v', rfl, g1, g2, g3, (scal_sim' deep hsc h4).1⟩
    · cases h
end Go.Nv
