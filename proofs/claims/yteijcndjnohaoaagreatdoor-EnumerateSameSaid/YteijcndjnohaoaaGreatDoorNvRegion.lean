/- Regions: in the written order, and in any order that is drawn. -/
import Derived.Test.YteijcndjnohaoaaGreatDoorNvOps
set_option linter.all false
set_option linter.unusedVariables false
set_option linter.unusedSimpArgs false
namespace Go.Nv
open Go
variable {P : Program} {C : Cfg} {ev : Evn} {ops : Array Oper} {base : Nat}

/-- Where a region stands: which of its slots are still to be named. -/
structure RegI (im0 : IM) (fx : FX) (μ0 : Mu) (base size : Nat) (rem : Nat → Prop) (rd : Option Nat) (fr : AF) (σ : Heap) (a : Act) (w : World) (im : IM) (μ : Mu) : Prop where
  le : Le im0 im μ0 μ
  sim : ASim im fx μ fr σ a w
  fsh : Fresh μ σ.next
  room : base + size ≤ σ.next
  slot : ∀ k, k < size → rem k → μ (base + k) = none
  low : ∀ b, b < base → μ b = μ0 b
  fxo : ∀ c, fx c ≠ none → im c = im0 c
  rdo : fr.rd = rd

theorem RegI.start {im : IM} {fx : FX} {μ : Mu} {fr : AF} {σ : Heap} {a : Act} {w w' : World} (A : ASim im fx μ fr σ a w) (hF : Fresh μ σ.next) (size : Nat) (hw : w'.heap = w.heap) (hos : away w' = away w) (rem : Nat → Prop) :
    RegI im fx μ σ.next size rem fr.rd fr (σ.bump size) a w' im μ :=
  ⟨Le.refl _ _, ⟨(A.wld.of_heap hw hos).bump size, A.tmp, A.siz, A.dfs⟩, fun b hb => hF b (by simp at hb; omega), Nat.le_refl _, fun k _ _ => hF _ (by omega), fun _ _ => rfl, fun _ _ => rfl, rfl⟩

theorem RegI.after {im0 : IM} {fx : FX} {μ0 : Mu} {size : Nat} {rem : Nat → Prop} {rd : Option Nat} {fr : AF} {σ σ0 : Heap} {a : Act} {w : World} {im : IM} {μ : Mu} (h : RegI im0 fx μ0 σ0.next size rem rd fr σ a w im μ) : After im0 fx μ0 σ0 fr σ a w im μ :=
  ⟨h.le, h.sim, Nat.le_trans (Nat.le_add_right _ _) h.room, h.fsh, h.low, h.fxo⟩

/-- One operation of a region. -/
theorem op_sound (E : EvCalls P C ev) {im0 : IM} {fx : FX} {μ0 : Mu} {rem : Nat → Prop} {rd ro : Option Nat} {fr : AF} {σ : Heap} {a : Act} {w : World} {im : IM} {μ : Mu} {n : Nat} {Q : Exit → Act → World → Prop} {K : Act → World → Prop} {i : Nat} {o : Oper} {lim : Nat → Bool}
    (I : RegI im0 fx μ0 base ops.size rem rd fr σ a w im μ) (hrd : RdOk μ0 rd ro) (ho : ops[i]? = some o) (hrem : rem i) (hd : dstOk o fr.sz = true) {wt : Bool} (hw : wantedA ops o fr.tmps = some wt)
    (h : match wt with
      | false => ∀ a' w' im' μ', RegI im0 fx μ0 base ops.size (fun k => rem k ∧ k ≠ i) rd (fr.put o.dst undefA) σ a' w' im' μ' → K a' w'
      | true => (clOf P C o ≠ .loud ∧ ∃ v e, quietV P C ev (base + i) lim (fr.val C) o σ = some (v, e) ∧ ∀ a' w' im' μ', RegI im0 fx μ0 base ops.size (fun k => rem k ∧ k ≠ i) rd (fr.put o.dst v) (eff σ e) a' w' im' μ' → K a' w') ∨
        (clOf P C o = .loud ∧ ∃ r, loudE P C ev o fr σ = some r ∧ (match r with
          | .ok fr' σ' => ∀ a' w' im' μ', RegI im0 fx μ0 base ops.size (fun k => rem k ∧ k ≠ i) rd fr' σ' a' w' im' μ' → K a' w'
          | .pan t v fr' σ' => fr' = fr ∧ ∀ X w' im' μ', XSim im' μ' (.pan t v) X → RegI im0 fx μ0 base ops.size rem rd fr σ' a w' im' μ' → Q X a w'))) :
    wpOpIn (fenceOf ro) n P ops Q i K a w := by
  have his := (Array.getElem?_eq_some_iff.1 ho).1
  unfold wpOpIn
  simp only [ho]
  have hwanted := wanted_sim I.sim.tmp hw
  rw [hwanted]
  cases wt with
  | false =>
    simp only [Bool.false_eq_true, if_false]
    refine ⟨fun f _ => fenceOf_fn ro f, h _ _ im μ ⟨I.le, I.sim.put hd undef_sim, I.fsh, I.room, fun k hk hr => I.slot k hk hr.1, I.low, I.fxo, ?_⟩⟩
    rw [AF.put_upd, AF.upd_rd]; exact I.rdo
  | true =>
    simp only [if_true]
    rcases h with ⟨hc, v, e, hq, hk⟩ | ⟨hc, r, hl, hk⟩
    · refine quiet_sound E hq (I.sim.osim E.glob) I.sim.wld (I.slot i his hrem) ?_
      intro v' w' im' μ' h1 h2 h3 h4 h5
      have hslot : base + i < σ.next := Nat.lt_of_lt_of_le (by omega) I.room
      have hnext : (eff σ e).next = σ.next := by cases e <;> rfl
      refine hk _ _ im' μ' ⟨I.le.trans h1, (I.sim.world h1 h2).put hd h3, ?_, by rw [hnext]; exact I.room, ?_, ?_, fun c hc => (h4 c hc).trans (I.fxo c hc), ?_⟩
      · intro b hb
        rw [hnext] at hb
        rw [h5 b (by omega)]
        exact I.fsh b hb
      · intro k hk hr
        rw [h5 _ (by have := hr.2; omega)]
        exact I.slot k hk hr.1
      · intro b hb
        rw [h5 b (by omega)]
        exact I.low b hb
      · rw [AF.put_upd, AF.upd_rd]; exact I.rdo
    · refine loud_sound E hl hc I.sim I.fsh (by rw [I.rdo]; exact hrd.mono I.le) hd ?_
      have step : ∀ {rem' : Nat → Prop} {fr' : AF} {σ' : Heap} {a' : Act} {w' : World} {im' : IM} {μ' : Mu}, After im fx μ σ fr' σ' a' w' im' μ' → fr'.rd = rd → (∀ k, rem' k → rem k) → RegI im0 fx μ0 base ops.size rem' rd fr' σ' a' w' im' μ' := by
        intro rem' fr' σ' a' w' im' μ' hA hr' hsub
        refine ⟨I.le.trans hA.le, hA.sim, hA.fsh, Nat.le_trans I.room hA.nxt, ?_, ?_, fun c hc => (hA.fxo c hc).trans (I.fxo c hc), hr'⟩
        · intro k hk hr
          rw [hA.low _ (Nat.lt_of_lt_of_le (by omega) I.room)]
          exact I.slot k hk (hsub k hr)
        · intro b hb
          rw [hA.low b (Nat.lt_of_lt_of_le (Nat.lt_of_lt_of_le hb (Nat.le_add_right _ _)) I.room)]
          exact I.low b hb
      cases r with
      | ok fr' σ' =>
        simp only at hk ⊢
        intro a' w' im' μ' hA
        refine hk a' w' im' μ' (step hA ?_ fun k h => h.1)
        obtain ⟨v, ds, rfl, _⟩ := loudE_shape hl
        rw [AF.upd_rd]; exact I.rdo
      | pan t v fr' σ' =>
        simp only at hk ⊢
        refine ⟨hk.1, fun X w' im' μ' hX hA => hk.2 X w' im' μ' hX (step hA I.rdo fun _ h => h)⟩

theorem loudE_pan {o : Oper} {fr fr' : AF} {σ σ' : Heap} {t : Nat} {v : AV} (h : loudE P C ev o fr σ = some (.pan t v fr' σ')) : fr' = fr := by
  unfold loudE at h
  split at h
  · split at h
    · simp only [Option.bind_eq_some_iff] at h
      obtain ⟨_, _, _, _, h⟩ := h
      split at h <;> cases h
    · cases h
  · simp only [Option.bind_eq_some_iff] at h
    obtain ⟨⟨r, σ1⟩, _, h⟩ := h
    cases r <;> simp only [Option.some.injEq] at h
    · cases h
    · cases h; rfl

/-- The written order. -/
theorem aops_sound (E : EvCalls P C ev) {im0 : IM} {fx : FX} {μ0 : Mu} {rd ro : Option Nat} {n : Nat} {Q : Exit → Act → World → Prop} (hrd : RdOk μ0 rd ro) {r : OR}
    (hQ : match r with
      | .ok fr' σ' => fr'.rd = rd → ∀ a' w' im' μ', RegI im0 fx μ0 base ops.size (fun _ => False) rd fr' σ' a' w' im' μ' → Q .normal a' w'
      | .pan t v fr' σ' => ∀ X a' w' im' μ' rem, XSim im' μ' (.pan t v) X → RegI im0 fx μ0 base ops.size rem rd fr' σ' a' w' im' μ' → Q X a' w') :
    ∀ (rest : List Oper) (i : Nat) (fr : AF) (σ : Heap) (a : Act) (w : World) (im : IM) (μ : Mu), (∀ k o, rest[k]? = some o → ops[i + k]? = some o) → aops P C ev ops base i rest fr σ = some r →
      RegI im0 fx μ0 base ops.size (fun k => i ≤ k) rd fr σ a w im μ → wpOpsIn (fenceOf ro) n P ops Q (List.range' i rest.length) a w
  | [], i, fr, σ, a, w, im, μ, _, h, I => by
    simp only [aops, Option.some.injEq] at h
    subst h
    simp only [List.length_nil, List.range'_zero, wpOpsIn]
    exact hQ I.rdo a w im μ ⟨I.le, I.sim, I.fsh, I.room, fun _ _ h => h.elim, I.low, I.fxo, I.rdo⟩
  | o :: rest, i, fr, σ, a, w, im, μ, hops, h, I => by
    simp only [aops, Option.bind_eq_some_iff] at h
    obtain ⟨r1, h1, h2⟩ := h
    have ho : ops[i]? = some o := by simpa using hops 0 o (by simp)
    rw [List.length_cons, List.range'_succ, wpOpsIn_cons]
    have next : ∀ {fr' : AF} {σ' : Heap}, aops P C ev ops base (i + 1) rest fr' σ' = some r → ∀ a' w' im' μ', RegI im0 fx μ0 base ops.size (fun k => i ≤ k ∧ k ≠ i) rd fr' σ' a' w' im' μ' →
        wpOpsIn (fenceOf ro) n P ops Q (List.range' (i + 1) rest.length) a' w' := by
      intro fr' σ' hr a' w' im' μ' I'
      refine aops_sound E hrd hQ rest (i + 1) fr' σ' a' w' im' μ' (fun k o hk => ?_) hr ⟨I'.le, I'.sim, I'.fsh, I'.room, fun k hk hr => I'.slot k hk ⟨by omega, by omega⟩, I'.low, I'.fxo, I'.rdo⟩
      have := hops (k + 1) o (by simpa using hk)
      rwa [show i + (k + 1) = i + 1 + k by omega] at this
    unfold aop at h1
    split at h1
    · cases h1
    · rename_i hd
      simp only [Option.bind_eq_some_iff] at h1
      obtain ⟨wt, hwt, h1⟩ := h1
      refine op_sound E I hrd ho (Nat.le_refl _) hd hwt (lim := fun _ => true) ?_
      cases wt with
      | false =>
        simp only [Option.some.injEq] at h1
        subst h1
        exact next h2
      | true =>
        simp only at h1 ⊢
        split at h1
        · rename_i hc
          refine .inr ⟨hc, r1, h1, ?_⟩
          cases r1 with
          | ok fr' σ' => exact next h2
          | pan t v fr' σ' =>
            simp only [OR.then, Option.some.injEq] at h2
            subst h2
            have := loudE_pan h1
            subst this
            exact ⟨rfl, fun X w' im' μ' hX I' => hQ X a w' im' μ' _ hX I'⟩
        · rename_i hc
          simp only [Option.bind_eq_some_iff, Option.some.injEq] at h1
          obtain ⟨⟨v, e⟩, hq, rfl⟩ := h1
          exact .inl ⟨hc, v, e, hq, next h2⟩

theorem region_sound (E : EvCalls P C ev) {im : IM} {fx : FX} {μ : Mu} {ro : Option Nat} {n id : Nat} {Q : Exit → Act → World → Prop} {draw : Bool} {fr fr' : AF} {σ σ' : Heap} {x : AX} {a : Act} {w : World}
    (h : regionA P C ev ops draw fr σ = some (x, fr', σ')) (A : ASim im fx μ fr σ a w) (hF : Fresh μ σ.next) (hrd : RdOk μ fr.rd ro)
    (hQ : ∀ X a' w' im' μ', XSim im' μ' x X → After im fx μ σ fr' σ' a' w' im' μ' → Q X a' w') : (Code.region id ops draw).wpIn (fenceOf ro) n P Q a w := by
  unfold regionA at h
  cases draw with
  | false =>
    simp only [Option.bind_eq_some_iff] at h
    obtain ⟨r, hr, h⟩ := h
    refine wpIn_region ?_
    have := aops_sound (base := σ.next) (n := n) (Q := Q) (r := r) (im0 := im) (μ0 := μ) (fx := fx) (rd := fr.rd) E hrd (by
      cases r with
      | ok fr1 σ1 =>
        simp only [Option.some.injEq, Prod.mk.injEq] at h
        obtain ⟨rfl, rfl, rfl⟩ := h
        intro _ a' w' im' μ' I
        exact hQ .normal a' w' im' μ' trivial I.after
      | pan t v fr1 σ1 =>
        simp only [Option.some.injEq, Prod.mk.injEq] at h
        obtain ⟨rfl, rfl, rfl⟩ := h
        intro X a' w' im' μ' rem hX I
        exact hQ X a' w' im' μ' hX I.after) ops.toList 0 fr _ a w im μ (fun k o hk => by rw [Nat.zero_add]; simpa using hk) hr
      (RegI.start A hF ops.size rfl rfl _)
    rw [List.range_eq_range']
    simpa using this
  | true =>
    simp only at h
    split at h
    · cases h
    · rename_i hb
      simp only [Option.bind_eq_some_iff] at h
      obtain ⟨ps, hps, ⟨l, fr1, σ1⟩, hl, h⟩ := h
      split at h
      · rename_i hok
        simp only [Option.some.injEq, Prod.mk.injEq] at h
        obtain ⟨rfl, rfl, rfl⟩ := h
        refine region_any (base := σ.next) E.good.mixed (fun listed fr1 σ1 a1 w1 => ∃ im1 μ1, RegI im fx μ σ.next ops.size (fun k => listed.getD k true = false) fr.rd fr1 σ1 a1 w1 im1 μ1) hb hps hl hok ?_ ?_ ?_
        · rintro listed i o fr1 fr2 σ1 σ2 f a1 w1 K ho hli ⟨im1, μ1, I⟩ hop hK
          have hK' : ∀ {fr' : AF} {σ' : Heap}, fr' = fr2 → σ' = σ2 → ∀ a' w' im' μ', RegI im fx μ σ.next ops.size (fun k => listed.getD k true = false ∧ k ≠ i) fr.rd fr' σ' a' w' im' μ' → K a' w' := by
            rintro _ _ rfl rfl a' w' im' μ' I'
            refine hK a' w' ⟨im', μ', I'.le, I'.sim, I'.fsh, I'.room, fun k hk hr => I'.slot k hk ?_, I'.low, I'.fxo, I'.rdo⟩
            have hki : k ≠ i := by
              rintro rfl
              by_cases hs : k < listed.size
              · simp [Array.getD, hs] at hr
              · simp [Array.getD, hs] at hr
            rw [getD_set_ne _ (Ne.symm hki)] at hr
            exact ⟨hr, hki⟩
          unfold aopD at hop
          split at hop
          · cases hop
          · rename_i hd
            simp only [Option.bind_eq_some_iff] at hop
            obtain ⟨wt, hwt, hop⟩ := hop
            refine op_sound E I hrd ho hli hd hwt (lim := limD ops σ.next i) ?_
            cases wt with
            | false =>
              simp only [Option.some.injEq, Prod.mk.injEq] at hop
              obtain ⟨_, h1, h2⟩ := hop
              exact hK' h1 h2
            | true =>
              simp only at hop ⊢
              split at hop
              · rename_i hc
                simp only [Option.bind_eq_some_iff] at hop
                obtain ⟨r, hr, hop⟩ := hop
                cases r with
                | ok fr3 σ3 =>
                  simp only [Option.some.injEq, Prod.mk.injEq] at hop
                  obtain ⟨_, h1, h2⟩ := hop
                  exact .inr ⟨hc, _, hr, hK' h1 h2⟩
                | pan t v fr3 σ3 => cases hop
              · rename_i hc
                simp only [Option.bind_eq_some_iff, Option.some.injEq, Prod.mk.injEq] at hop
                obtain ⟨⟨v, e⟩, hq, _, h1, h2⟩ := hop
                exact .inl ⟨(by rw [hc]; intro q; cases q), v, e, hq, hK' h1 h2⟩
              · rename_i hc1 hc2
                simp only [Option.bind_eq_some_iff, Option.some.injEq, Prod.mk.injEq] at hop
                obtain ⟨⟨v, e⟩, hq, _, h1, h2⟩ := hop
                exact .inl ⟨hc1, v, e, hq, hK' h1 h2⟩
        · rintro listed a1 w1 ⟨im1, μ1, I⟩
          exact hQ .normal a1 w1 im1 μ1 trivial I.after
        · exact ⟨im, μ, RegI.start (w' := { w with drawn := w.drawn + 1 }) A hF ops.size rfl rfl _⟩
      · cases h
end Go.Nv
