/- Calls that hand over a new row; calls that take their arguments' memory. -/
import Derived.Test.YteijcndjnohaoaaGreatDoorNvCalls
set_option linter.all false
set_option linter.unusedVariables false
set_option linter.unusedSimpArgs false
namespace Go.Nv
open Go
variable {P : Program} {C : Cfg} {ev : Evn} {im im' : IM} {fx : FX} {μ : Mu} {w w' : World} {σ : Heap} {lim : Nat → Bool}

theorem reach_noref : ∀ (d : Nat) {x : AV}, NoRef x → reach σ d x = []
  | 0, _, _ => rfl
  | d + 1, x, h => by
    have hl : ∀ l : List AV, (∀ v, v ∈ l → NoRef v) → l.flatMap (reach σ d) = [] := by
      intro l hl
      rw [List.flatMap_eq_nil_iff]
      exact fun v hv => reach_noref d (hl v hv)
    cases h <;> simp only [reach]
    case fn f a b ha hb => rw [hl a ha, hl b hb]; rfl
    case iface t v h => exact reach_noref d h
    case agg cs h => exact hl cs h
    case tup cs h => exact hl cs h

theorem mapO_length {α β : Type} {f : α → Option β} : ∀ {xs : List α} {ys : List β}, mapO f xs = some ys → ys.length = xs.length
  | [], ys, h => by simp only [mapO, Option.some.injEq] at h; subst h; rfl
  | x :: xs, ys, h => by
    simp only [mapO, Option.bind_eq_some_iff, Option.some.injEq] at h
    obtain ⟨_, _, ys', h', rfl⟩ := h
    simp [mapO_length h']

theorem noref_flat {xs : List AV} (h : ∀ v, v ∈ xs → NoRef v) : xs.flatMap (reach σ deep) = [] := by
  rw [List.flatMap_eq_nil_iff]
  exact fun v hv => reach_noref deep (h v hv)

/-- A row that the callee has made becomes the caller's block 'slot'. -/
theorem take_row {imS imc : IM} {fx0 : FX} {μc : Mu} {σc : Heap} {slot b o len sz cb base tot : Nat} {ty : TypeId} {u : Bool} {cs ys : List AV} {v' : Value} (H : WSim im fx μ w σ) (hslot : μ slot = none)
    (Hc : WSim imc fx0 μc w' σc) (hb : σc.get b = some (.cells ty u cs)) (hm : μc b = some (cb, base, tot)) (hnew : ¬ cb < w.heap.size) (hk : Keeps w w') (h1 : ∀ c, c < w.heap.size → imS c = im c) (h2 : ImOk imS w') (h3 : imS cb = none)
    (hlen : o + len * sz = cs.length) (hyl : ys.length = cs.length - o) (hys : ∀ zs, SimL imc μc (cs.drop o) zs → SimL imS (WSim.upd μ slot (cb, base + o, tot)) ys zs) (hv : SimV imc μc (.sref b o len sz) v') :
    ∃ μ', Le im imS μ μ' ∧ WSim imS fx μ' w' (σ.set slot (.cells ty false ys)) ∧ SimV imS μ' (.sref slot 0 len sz) v' ∧ (∀ c, fx c ≠ none → imS c = im c) ∧ ∀ b, b ≠ slot → μ' b = μ b := by
  obtain ⟨q1, q2, q3⟩ := H.carry h1 h2 hk
  have hl := H.lt_size
  have hle2 := WSim.le_upd (im := imS) (e := (cb, base + o, tot)) hslot
  refine ⟨WSim.upd μ slot (cb, base + o, tot), q2.trans hle2, ?_, ?_, q3, fun b hb => WSim.upd_ne hb⟩
  · obtain ⟨cb2, base2, tot2, arr, fr, r1, r2, r3, r4, r5, r6, r7, r8, r9⟩ := Hc.cells hb
    rw [hm] at r1
    cases r1
    have hname := q1.name (e := (cb, base + o, tot)) hslot
    refine hname.adopt (WSim.upd_same _ _ _) h3 ?_ ?_ r4 ⟨arr, fr, rfl, r5, by omega, fun h => (Bool.noConfusion h), r8, ?_⟩
    · cases hq : fx cb with
      | none => rfl
      | some oo => exact absurd (hl.2.1 _ _ hq) hnew
    · intro c x e hc he
      have hne : c ≠ slot := by
        rintro rfl
        obtain ⟨_, _, _, _, q, _⟩ := H.blk _ x hc
        rw [hslot] at q
        cases q
      rw [WSim.upd_ne hne] at he
      have := hl.2.2 c x e hc he
      omega
    · refine hys _ ?_
      have e : List.drop o (List.take cs.length (List.drop base arr.toList)) = List.take ys.length (List.drop (base + o) arr.toList) := by
        rw [List.drop_take, List.drop_drop, hyl]
      rw [← e]
      exact r9.drop o
  · obtain ⟨cb2, base2, tot2, cap, a, r1, r2, r3, rfl⟩ := hv.inv_sref
    rw [hm] at r1
    cases r1
    refine .sref _ _ _ _ cb (base + o) tot _ _ (WSim.upd_same _ _ _) r2 (r3.imp id fun h => ⟨by rw [h.1]; rfl, by simpa using h.2⟩)

def mkEff (slot : Nat) (blk : ABlk) : Mk → Option (Nat × ABlk)
  | .nil => none
  | _ => some (slot, blk)

def freshEnd (as : List AV) (σc : Heap) (r : CR) : Option (ABlk × Mk) := match r with
  | .ret (.sref b o len sz) => (match σc.get b with
    | some (.cells ty _ cs) => (match Nat.beq (o + len * sz) cs.length with
      | true => (mapO (freeze (σc.del b) (fun _ => true) deep) (cs.drop o)).bind fun ys => (match as.all (isPure deep) || ys.all (isScal deep) with
        | true => some (ABlk.cells ty false ys, Mk.sl len sz)
        | false => none)
      | false => none)
    | _ => none)
  | .ret .snil => some (.defs, .nil)
  | _ => none

theorem freshCall_ok (hC : CallOk P ev) (H : WSim im fx μ w σ) {slot f : Nat} (hslot : μ slot = none) {as xs : List AV} {args' : Array Value} (hs : SimL im μ as args'.toList) (hxs : mapO (freeze σ lim deep) as = some xs) {r : CR} {σc : Heap}
    (hcall : callF P ev f xs .empty = some (r, σc)) {blk : ABlk} {mk : Mk}
    (h : freshEnd as σc r = some (blk, mk)) (n : Nat) :
    CallsIn Fence.wide n P f args' w fun e w' => ∃ im' μ' v', e = .returned v' ∧ Le im im' μ μ' ∧ WSim im' fx μ' w' (eff σ (mkEff slot blk mk)) ∧ SimV im' μ' (mk.val slot) v' ∧
      (∀ c, fx c ≠ none → im' c = im c) ∧ ∀ b, b ≠ slot → μ' b = μ b := by
  have hold : ∀ {im' : IM}, (∀ c, c < w.heap.size → im' c = im c) → ∀ {w'}, Keeps w w' → ImOk im w' := fun _ _ hk c l hc => by
    obtain ⟨arr, ty, fr, g1, g2⟩ := H.imm c l hc
    exact ⟨arr, ty, fr, hk.1 _ _ g1, g2⟩
  by_cases hp : as.all (isPure deep) = true
  · -- arguments that name no block
    have hnr := pure_norefL deep hp hs
    obtain ⟨q1, q2, _⟩ := freezeL_ok (im2 := im) (μ2 := mu0) (R := reach σ deep) (ok := Cov im μ w σ) (fun x y v => freeze_ok H (fun _ _ h => h) deep x y v) hxs hs (fun b hb => by rw [noref_flat hnr] at hb; cases hb)
    refine (hC f xs .empty σc r hcall im _ mu0 args' w n (wsim_empty H.imOk) (fun _ _ => rfl) q1).mono ?_
    rintro e w' ⟨imc, μc, hE⟩
    have hans := hE.ans
    have hk := callEnd_keeps hE
    cases r with
    | pan t v => cases h
    | ret v0 =>
    cases v0
    case sref b o len sz =>
      cases e with
      | panicked chain => exact hans.elim
      | outgrown => exact hans.elim
      | returned v' =>
        simp only [freshEnd] at h
        split at h
        · rename_i ty u cs hg
          split at h
          · rename_i hlen
            have hlen' := Nat.eq_of_beq_eq_true hlen
            simp only [Option.bind_eq_some_iff] at h
            obtain ⟨ys, hys, h⟩ := h
            split at h
            · simp only [Option.some.injEq, Prod.mk.injEq] at h
              obtain ⟨rfl, rfl⟩ := h
              obtain ⟨cb, base, tot, oo, r1, r2, r3, r4, r5⟩ := hE.wld.blk b _ hg
              have hnew := callEnd_new hE hg r1
              let imS : IM := fun c => if c = cb then none else sealed im w.heap.size w' c
              have hS1 : ∀ c, c < w.heap.size → imS c = im c := fun c hc => by
                have hne : c ≠ cb := by omega
                simp only [imS, if_neg hne]
                exact sealed_lt hc
              have hS2 : ImOk imS w' := fun c l hc => by
                simp only [imS] at hc
                split at hc
                · cases hc
                · exact sealed_ok H.imOk hk c l hc
              have hS3 : imS cb = none := by simp [imS]
              have hSle : ∀ c l, imc c = some l → imS c = some l := fun c l hc => by
                have hne : c ≠ cb := by rintro rfl; rw [r2] at hc; cases hc
                simp only [imS, if_neg hne]
                exact sealed_le hE c l hc
              obtain ⟨v1, v2, v3, v4, v5⟩ := take_row (imS := imS) (o := o) (len := len) (sz := sz) (ys := ys) (v' := v') H hslot hE.wld hg r1 hnew hk hS1 hS2 hS3 hlen' (by
                  rw [mapO_length hys, List.length_drop]) (fun zs hzs => by
                  refine (freezeL_ok (im2 := imS) (μ2 := WSim.upd μ slot (cb, base + o, tot)) (R := reach (σc.del b) deep) (ok := Cov imS μc w' (σc.del b)) (fun x y v => freeze_ok (hE.wld.del b) hSle deep x y v) hys hzs ?_).1
                  intro b' _ x cb' base' tot' arr ty fr hg' hm' hc'
                  rw [Heap.get_del] at hg'
                  split at hg'
                  · cases hg'
                  · rename_i hne
                    have hcne : cb' ≠ cb := fun q => hne (hE.wld.inj b' b x _ _ _ hg' hg hm' r1 (by simpa using q))
                    simp only [imS, if_neg hcne]
                    exact sealed_cov hE b' x cb' base' tot' arr ty fr hg' hm' hc') hans
              exact ⟨imS, v1, v', rfl, v2, v3, v4, v5⟩
            · cases h
          · cases h
        · cases h
    case snil =>
      simp only [freshEnd, Option.some.injEq, Prod.mk.injEq] at h
      obtain ⟨rfl, rfl⟩ := h
      cases e with
      | panicked chain => exact hans.elim
      | outgrown => exact hans.elim
      | returned v' =>
        have hv : v' = .slice none 0 0 := SimV.inv_snil hans
        subst hv
        obtain ⟨g1, g2, g3⟩ := H.carry (im' := im) (fun _ _ => rfl) (hold (im' := im) (fun _ _ => rfl) hk) hk
        exact ⟨im, μ, _, rfl, g2, g1, .snil, g3, fun _ _ => rfl⟩
    all_goals cases h
  · -- what is handed over is plain
    obtain ⟨q1, q2, _⟩ := freezeL_ok (im2 := allIm w) (μ2 := mu0) (R := reach σ deep) (ok := Cov (allIm w) μ w σ) (fun x y v => freeze_ok H (allIm_le H.imOk) deep x y v) hxs hs (fun b _ => allIm_cov μ σ b)
    refine (hC f xs .empty σc r hcall (allIm w) _ mu0 args' w n (wsim_empty (allIm_ok w)) (fun _ _ => rfl) q1).mono ?_
    rintro e w' ⟨imc, μc, hE⟩
    have hans := hE.ans
    have hk := callEnd_keeps hE
    cases r with
    | pan t v => cases h
    | ret v0 =>
    cases v0
    case sref b o len sz =>
      cases e with
      | panicked chain => exact hans.elim
      | outgrown => exact hans.elim
      | returned v' =>
        simp only [freshEnd] at h
        split at h
        · rename_i ty u cs hg
          split at h
          · rename_i hlen
            have hlen' := Nat.eq_of_beq_eq_true hlen
            simp only [Option.bind_eq_some_iff] at h
            obtain ⟨ys, hys, h⟩ := h
            split at h
            · rename_i hsc
              simp only [Option.some.injEq, Prod.mk.injEq] at h
              obtain ⟨rfl, rfl⟩ := h
              have hsc' : ys.all (isScal deep) = true := by
                rw [Bool.or_eq_true] at hsc
                exact hsc.resolve_left hp
              obtain ⟨cb, base, tot, oo, r1, r2, r3, r4, r5⟩ := hE.wld.blk b _ hg
              have hnew := callEnd_new hE hg r1
              have hS3 : im cb = none := by
                cases hq : im cb with
                | none => rfl
                | some l => exact absurd (H.lt_size.1 _ _ hq) hnew
              obtain ⟨v1, v2, v3, v4, v5⟩ := take_row (imS := im) (o := o) (len := len) (sz := sz) (ys := ys) (v' := v') H hslot hE.wld hg r1 hnew hk (fun _ _ => rfl) (hold (im' := im) (fun _ _ => rfl) hk) hS3 hlen' (by
                  rw [mapO_length hys, List.length_drop]) (fun zs hzs => by
                  have := (freezeL_ok (im2 := sealed (allIm w) w.heap.size w') (μ2 := mu0) (R := reach (σc.del b) deep) (ok := Cov (sealed (allIm w) w.heap.size w') μc w' (σc.del b)) (fun x y v => freeze_ok (hE.wld.del b) (sealed_le hE) deep x y v) hys hzs (by
                    intro b' _ x cb' base' tot' arr ty fr hg' hm' hc'
                    rw [Heap.get_del] at hg'
                    split at hg'
                    · cases hg'
                    · exact sealed_cov hE b' x cb' base' tot' arr ty fr hg' hm' hc')).1
                  exact scal_simL hsc' this) hans
              exact ⟨im, v1, v', rfl, v2, v3, v4, v5⟩
            · cases h
          · cases h
        · cases h
    case snil =>
      simp only [freshEnd, Option.some.injEq, Prod.mk.injEq] at h
      obtain ⟨rfl, rfl⟩ := h
      cases e with
      | panicked chain => exact hans.elim
      | outgrown => exact hans.elim
      | returned v' =>
        have hv : v' = .slice none 0 0 := SimV.inv_snil hans
        subst hv
        obtain ⟨g1, g2, g3⟩ := H.carry (im' := im) (fun _ _ => rfl) (hold (im' := im) (fun _ _ => rfl) hk) hk
        exact ⟨im, μ, _, rfl, g2, g1, .snil, g3, fun _ _ => rfl⟩
    all_goals cases h

/-! ### The arguments' memory is taken -/
theorem dels_get : ∀ (bs : List Nat) (σ : Heap) (b : Nat), (σ.dels bs).get b = if b ∈ bs then none else σ.get b
  | [], σ, b => by simp [Heap.dels]
  | c :: bs, σ, b => by
    rw [Heap.dels, dels_get bs, Heap.get_del]
    by_cases h1 : b ∈ bs
    · simp [h1]
    · by_cases h2 : b = c
      · simp [h1, h2]
      · simp [h1, h2]
theorem dels_next : ∀ (bs : List Nat) (σ : Heap), (σ.dels bs).next = σ.next
  | [], _ => rfl
  | c :: bs, σ => by rw [Heap.dels, dels_next bs]; rfl

open Classical in
noncomputable def eaten (im : IM) (μ : Mu) (w : World) (σ : Heap) (bs : List Nat) : IM := fun c => match im c with
  | some l => some l
  | none => if ∃ b ∈ bs, ∃ x base tot, σ.get b = some x ∧ μ b = some (c, base, tot) then allIm w c else none

theorem eatCall_ok (hC : CallOk P ev) (hM : MemoOk P C) (H : WSim im fx μ w σ) {f : Nat} {as xs : List AV} {v : AV} {args' : Array Value} (hs : SimL im μ as args'.toList) (hxs : mapO (freeze σ lim deep) as = some xs) (hv : callPure P C ev f xs = some v) (n : Nat) :
    CallsIn Fence.wide n P f args' w fun e w' => ∃ im' v', e = .returned v' ∧ WSim im' fx μ w' (σ.dels (as.flatMap (reach σ deep))) ∧ Le im im' μ μ ∧ (∀ c, fx c ≠ none → im' c = im c) ∧ SimV im' μ v v' := by
  generalize hbs : as.flatMap (reach σ deep) = bs
  have hle : ∀ c l, im c = some l → eaten im μ w σ bs c = some l := fun c l hc => by simp only [eaten, hc]
  have hcov : ∀ b, b ∈ bs → Cov (eaten im μ w σ bs) μ w σ b := by
    intro b hb x cb base tot arr ty fr hg hm hc
    unfold eaten
    split
    · rename_i l hl
      obtain ⟨arr', ty', fr', q1, q2⟩ := H.imm _ _ hl
      rw [hc] at q1
      cases q1
      rw [q2]
    · rw [if_pos ⟨b, hb, x, base, tot, hg, hm⟩]
      simp only [allIm, hc]
  obtain ⟨q1, q2, _⟩ := freezeL_ok (im2 := eaten im μ w σ bs) (μ2 := mu0) (R := reach σ deep) (ok := Cov (eaten im μ w σ bs) μ w σ) (fun x y v => freeze_ok H hle deep x y v) hxs hs (fun b hb => hcov b (by rw [← hbs]; exact hb))
  have hI : ImOk (eaten im μ w σ bs) w := by
    intro c l hc
    unfold eaten at hc
    split at hc
    · rename_i l' hl
      simp only [Option.some.injEq] at hc
      subst hc
      exact H.imm _ _ hl
    · split at hc
      · exact allIm_ok w c l hc
      · cases hc
  have hW : WSim (eaten im μ w σ bs) fx μ w (σ.dels bs) := by
    have hmem : ∀ {b : Nat} {x : ABlk}, (σ.dels bs).get b = some x → b ∉ bs ∧ σ.get b = some x := fun {b x} hb => by
      rw [dels_get] at hb
      split at hb
      · cases hb
      · rename_i hn; exact ⟨hn, hb⟩
    refine ⟨hI, H.fix, fun b x hb => ?_, fun b b' x x' e e' h1 h2 => H.inj b b' x x' e e' (hmem h1).2 (hmem h2).2, H.os⟩
    obtain ⟨hn, hg⟩ := hmem hb
    obtain ⟨cb, base, tot, o, r1, r2, r3, r4, r5⟩ := H.blk b x hg
    refine ⟨cb, base, tot, o, r1, ?_, r3, r4, r5.mono ⟨hle, fun _ _ h => h⟩⟩
    simp only [eaten, r2]
    rw [if_neg]
    rintro ⟨b', hb', x', base', tot', hg', hm'⟩
    have := H.inj b b' x x' _ _ hg hg' r1 hm' rfl
    subst this
    exact hn hb'
  refine (callPure_ok hC hM hv _ w args' n hI q1).mono ?_
  rintro e w' ⟨im', v', rfl, h1, h2, h3, h4, h5⟩
  obtain ⟨g1, g2, g3⟩ := hW.carry h1 h2 h3
  refine ⟨im', v', rfl, g1, ⟨fun c l hc => g2.1 _ _ (hle c l hc), fun _ _ h => h⟩, fun c hc => (g3 c hc).trans ?_, h4.noref (fun _ _ h => h) h5⟩
  unfold eaten
  split
  · rename_i l hl; rw [hl]
  · rename_i hl
    rw [hl, if_neg]
    rintro ⟨b, _, x, base, tot, hg, hm⟩
    obtain ⟨cb, base2, tot2, o, r1, r2, r3, r4, r5⟩ := H.blk b x hg
    rw [hm] at r1
    cases r1
    exact hc r3
end Go.Nv
