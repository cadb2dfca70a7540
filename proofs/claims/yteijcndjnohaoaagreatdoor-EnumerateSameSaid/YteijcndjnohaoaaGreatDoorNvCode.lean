/- Code: calls, rounds, and every statement. -/
import Derived.Test.YteijcndjnohaoaaGreatDoorNvRegion
set_option linter.all false
set_option linter.unusedVariables false
set_option linter.unusedSimpArgs false
namespace Go.Nv
open Go
variable {P : Program} {C : Cfg} {ev : Evn}

/-! ### How a call begins -/
theorem initT_get : ∀ (args : List AV) (i : Nat) (t : PT AV) (k : Nat), (initT args i t).get k = if i ≤ k ∧ k < i + args.length then args[k - i]? else t.get k
  | [], i, t, k => by
    rw [initT, if_neg]
    simp only [List.length_nil]
    omega
  | v :: vs, i, t, k => by
    rw [initT, initT_get vs (i + 1), PT.get_set']
    by_cases h : k = i
    · subst h
      rw [if_neg (by omega), if_pos rfl, if_pos (by simp only [List.length_cons]; omega)]
      simp
    · rw [if_neg h]
      by_cases h1 : i + 1 ≤ k ∧ k < i + 1 + vs.length
      · rw [if_pos h1, if_pos (by simp only [List.length_cons]; omega)]
        rw [show k - i = (k - (i + 1)) + 1 by omega, List.getElem?_cons_succ]
      · rw [if_neg h1, if_neg (by simp only [List.length_cons]; omega)]

theorem init_sim {im : IM} {μ : Mu} {args : List AV} {args' : Array Value} (hs : SimL im μ args args'.toList) (n : Nat) : TSim im μ (initT args 0 .leaf) (args' ++ Array.replicate (n - args'.size) undef) := by
  intro t v hv
  rw [initT_get] at hv
  split at hv
  · rename_i h
    have hl := hs.length
    simp only [Array.length_toList] at hl
    rw [Nat.sub_zero] at hv
    obtain ⟨y, hy, hsy⟩ := hs.get? hv
    refine ⟨y, ?_, hsy⟩
    rw [Array.getElem?_append_left (by omega)]
    simpa using hy
  · cases hv

theorem frame_start {im : IM} {fx : FX} {μ : Mu} {w : World} {σ : Heap} {args : List AV} {args' : Array Value} {n : Nat} (H : WSim im fx μ w σ) (hs : SimL im μ args args'.toList) (hle : args.length ≤ n) :
    ASim im fx μ ⟨initT args 0 .leaf, n, [], none⟩ σ { tmps := args' ++ Array.replicate (n - args'.size) undef, defers := [] } w := by
  have hl := hs.length
  simp only [Array.length_toList] at hl
  refine ⟨H, init_sim hs n, ?_, .nil⟩
  simp only [Array.size_append, Array.size_replicate]
  omega

/-! ### What a call hands back -/
def resSem (tmps : Array Value) : ResultVar → Sem Value
  | .tmp t => pure (tmps.getD t undef)
  | .cell a t => do loadVar t (← asAddr (tmps.getD a undef))
theorem results_eq (fn : Func) (tmps : Array Value) : results fn tmps = (do
  let vs ← fn.results.mapM (resSem tmps)
  pure (if h : vs.size = 1 then vs[0] else .tuple vs)) := by
  have e : (fun r : ResultVar => (match r with
    | .tmp t => pure (tmps.getD t undef)
    | .cell a t => do loadVar t (← asAddr (tmps.getD a undef)) : Sem Value)) = resSem tmps := by
    funext r
    cases r <;> rfl
  rw [← e]
  rfl

theorem resOne_ok {im : IM} {fx : FX} {μ : Mu} {w : World} {σ : Heap} {tm : PT AV} {tmps : Array Value} {r : ResultVar} {v : AV} (H : WSim im fx μ w σ) (ht : TSim im μ tm tmps) (h : resOne P tm σ r = some v) :
    ∃ v', (resSem tmps r).run P w = .ok v' w ∧ SimV im μ v v' := by
  cases r with
  | tmp t =>
    obtain ⟨v', h1, h2⟩ := ht t v h
    refine ⟨v', ?_, h2⟩
    simp [resSem, Array.getD_eq_getD_getElem?, h1]
  | cell a t =>
    simp only [resOne, Option.bind_eq_some_iff] at h
    obtain ⟨p, hp, h⟩ := h
    cases p <;> simp only at h <;> try (cases h; done)
    rename_i b o
    split at h
    · rename_i ty u cs hg
      obtain ⟨p', h1, h2⟩ := ht a _ hp
      obtain ⟨cb, base, tot, hm, rfl⟩ := h2.inv_ptr
      obtain ⟨cb2, base2, tot2, arr, fr, q1, q2, q3, q4, q5, q6, q7, q8, q9⟩ := H.cells hg
      rw [hm] at q1
      cases q1
      obtain ⟨v', g1, g2⟩ := ld_ok (P := P) h q9 (row_of_block q4 base cs.length)
      refine ⟨v', ?_, g2⟩
      simp [resSem, Array.getD_eq_getD_getElem?, h1, asAddr, g1]
    · cases h

theorem resL_ok {im : IM} {fx : FX} {μ : Mu} {w : World} {σ : Heap} {tm : PT AV} {tmps : Array Value} (H : WSim im fx μ w σ) (ht : TSim im μ tm tmps) : ∀ {rs : List ResultVar} {vs : List AV}, mapO (resOne P tm σ) rs = some vs →
    ∃ vs', (rs.mapM (resSem tmps)).run P w = .ok vs' w ∧ SimL im μ vs vs'
  | [], vs, h => by
    simp only [mapO, Option.some.injEq] at h
    subst h
    exact ⟨[], by simp, .nil⟩
  | r :: rs, vs, h => by
    simp only [mapO, Option.bind_eq_some_iff, Option.some.injEq] at h
    obtain ⟨v, hv, vs1, hvs, rfl⟩ := h
    obtain ⟨v', h1, h2⟩ := resOne_ok H ht hv
    obtain ⟨vs', h3, h4⟩ := resL_ok H ht hvs
    refine ⟨v' :: vs', ?_, .cons _ _ _ _ h2 h4⟩
    rw [List.mapM_cons]
    simp only [Sem.run_bind, Result.andThen_ok, Sem.run_pure]
    rw [h1]
    simp only [Result.andThen_ok]
    rw [h3]
    rfl

theorem res_ok {im : IM} {fx : FX} {μ : Mu} {w : World} {σ : Heap} {tm : PT AV} {tmps : Array Value} {fn : Func} {v : AV} (H : WSim im fx μ w σ) (ht : TSim im μ tm tmps) (h : resA P fn.results.toList tm σ = some v) :
    ∃ v', (results fn tmps).run P w = .ok v' w ∧ SimV im μ v v' := by
  unfold resA at h
  simp only [Option.bind_eq_some_iff, Option.some.injEq] at h
  obtain ⟨vs, hvs, h⟩ := h
  obtain ⟨vs', h1, h2⟩ := resL_ok (P := P) H ht hvs
  have hm : (results fn tmps).run P w = .ok (if h : vs'.toArray.size = 1 then vs'.toArray[0] else .tuple vs'.toArray) w := by
    rw [results_eq, Array.mapM_eq_mapM_toList]
    simp only [Sem.run_bind, Sem.run_map]
    rw [h1]
    rfl
  refine ⟨_, hm, ?_⟩
  have hl := h2.length
  cases h2 with
  | nil =>
    simp only at h
    subst h
    exact .tup _ _ .nil
  | cons x y xs ys hx hxs =>
    cases hxs with
    | nil =>
      simp only at h
      subst h
      exact hx
    | cons x2 y2 xs2 ys2 hx2 hxs2 =>
      simp only at h
      subst h
      rw [dif_neg (by simp)]
      exact .tup _ _ (.cons _ _ _ _ hx (.cons _ _ _ _ hx2 hxs2))

theorem DSim.nil_inv {im : IM} {μ : Mu} {ys : List Deferred} (h : DSim im μ [] ys) : ys = [] := by cases h; rfl

/-! ### How a call is left -/
structure Acc (im : IM) (fx : FX) (μ : Mu) (σ : Heap) (im1 : IM) (μ1 : Mu) (σ1 : Heap) : Prop where
  le : Le im im1 μ μ1
  nxt : σ.next ≤ σ1.next
  fsh : Fresh μ1 σ1.next
  low : ∀ b, b < σ.next → μ1 b = μ b
  fxo : ∀ c, fx c ≠ none → im1 c = im c

theorem Acc.after {im im1 im2 : IM} {fx : FX} {μ μ1 μ2 : Mu} {σ σ1 σ2 : Heap} {fr2 : AF} {a2 : Act} {w2 : World} (h : Acc im fx μ σ im1 μ1 σ1) (h' : After im1 fx μ1 σ1 fr2 σ2 a2 w2 im2 μ2) : Acc im fx μ σ im2 μ2 σ2 :=
  ⟨h.le.trans h'.le, Nat.le_trans h.nxt h'.nxt, h'.fsh, fun b hb => (h'.low b (Nat.lt_of_lt_of_le hb h.nxt)).trans (h.low b hb), fun c hc => (h'.fxo c hc).trans (h.fxo c hc)⟩

def UMode (im : IM) (μ : Mu) (u : Option (Nat × AV)) (m : FrameMode) : Prop := match u, m with
  | none, .returning => True
  | some (t, v), .panicking chain => ∃ v', chain = [{ v := .iface t v', recovered := false }] ∧ SimV im μ v v'
  | _, _ => False

theorem UMode.ne {im : IM} {μ : Mu} {u : Option (Nat × AV)} {m : FrameMode} (h : UMode im μ u m) : m ≠ .run := by
  rintro rfl
  rcases u with _ | ⟨t, v⟩ <;> exact h

theorem run_takeDeferred {cb : Nat} {w : World} (h : w.heap[cb]? = some (.deferred (some []))) : (Instr.takeDeferred cb).run P w = .ok [] { w with heap := w.heap.setIfInBounds cb (.deferred none) } := by
  have hg := run_getObj_at (P := P) (w := w) h (fun c t f q => by cases q)
  simp only [Instr.takeDeferred, Sem.run_bind, hg, Result.andThen_ok]
  simp [setObj, Sem.run, h]

theorem leave_sound (S : EvSound P ev) (G : Good P C) {im : IM} {fx : FX} {μ : Mu} {σ σ' : Heap} {fn : Func} {tm : PT AV} {tmps : Array Value} {r : CR} (n : Nat) : ∀ (dfs : List Df) (u : Option (Nat × AV)) (defers : List Deferred) (m : FrameMode) (σ1 : Heap) (w1 : World) (im1 : IM) (μ1 : Mu),
    leaveA P ev fn.results.toList tm dfs u σ1 = some (r, σ') → DSim im1 μ1 dfs defers → UMode im1 μ1 u m → WSim im1 fx μ1 w1 σ1 → TSim im1 μ1 tm tmps → Acc im fx μ σ im1 μ1 σ1 →
      LeavesInM Fence.wide n P fn tmps (fun e w' => ∃ im' μ', CallEnd im fx μ σ r σ' e w' im' μ') defers m w1
  | [], u, defers, m, σ1, w1, im1, μ1, h, hd, hu, H, ht, A => by
    cases hd
    simp only [LeavesInM]
    rcases u with _ | ⟨t, v⟩
    · cases m <;> try exact hu.elim
      simp only [leaveA, Option.bind_eq_some_iff, Option.some.injEq, Prod.mk.injEq] at h
      obtain ⟨v, hv, rfl, rfl⟩ := h
      obtain ⟨v', h1, h2⟩ := res_ok (P := P) H ht hv
      exact ⟨v', h1, im1, μ1, A.le, H, A.nxt, A.fsh, A.low, A.fxo, h2⟩
    · cases m <;> try exact hu.elim
      simp only [leaveA, Option.some.injEq, Prod.mk.injEq] at h
      obtain ⟨rfl, rfl⟩ := h
      exact ⟨im1, μ1, A.le, H, A.nxt, A.fsh, A.low, A.fxo, hu⟩
  | .mark b :: ds, u, defers, m, σ1, w1, im1, μ1, h, hd, hu, H, ht, A => by
    cases hd with
    | cons _ d _ ds' hdf hds =>
      simp only [leaveA] at h
      split at h
      · rename_i hg
        obtain ⟨cb, base, tot, hm, rfl⟩ := hdf
        obtain ⟨cb2, base2, tot2, o, q1, q2, q3, q4, rfl⟩ := H.blk b _ hg
        rw [hm] at q1
        cases q1
        refine ⟨hu.ne, .inl ⟨cb, _, rfl, run_takeDeferred q4, ?_⟩⟩
        refine leave_sound S G n ds u ds' m (σ1.del b) _ im1 μ1 h hds hu ((H.del b).change q2 q3 (H.free_del hg hm) (fun c oo hc hh => ?_) rfl) ht ⟨A.le, A.nxt, A.fsh, A.low, A.fxo⟩
        simp only [Array.getElem?_setIfInBounds_ne (Ne.symm hc)]
        exact hh
      · cases h
  | .call f args :: ds, u, defers, m, σ1, w1, im1, μ1, h, hd, hu, H, ht, A => by
    cases hd with
    | cons _ d _ ds' hdf hds =>
      obtain ⟨caps, as, rfl, hs⟩ := hdf
      simp only [leaveA, Option.bind_eq_some_iff] at h
      obtain ⟨σ2, hrec, h⟩ := h
      unfold recA at hrec
      simp only [Option.bind_eq_some_iff] at hrec
      obtain ⟨fn2, hfn, c, hc, hrec⟩ := hrec
      split at hrec
      · rename_i id ops rest
        split at hrec
        · rename_i o hops
          split at hrec
          · rename_i rargs rts d hop hguard hdst
            split at hrec
            · rename_i hle hlt
              simp only [Option.bind_eq_some_iff] at hrec
              obtain ⟨⟨x, fr2, σ3⟩, hev, hrec⟩ := hrec
              have hle' := Nat.le_of_ble_eq_true hle
              have hlt' : d < fn2.ntmps := Nat.le_of_ble_eq_true hlt
              have hend : fr2.dfs = [] ∧ fn2.results = #[] ∧ σ3 = σ2 ∧ (x = .norm ∨ x = .ret) := by
                split at hrec
                · rename_i h1 h2 h3
                  simp only [Option.some.injEq] at hrec
                  exact ⟨h2, by simpa using h3, hrec, .inl h1⟩
                · rename_i h1 h2 h3
                  simp only [Option.some.injEq] at hrec
                  exact ⟨h2, by simpa using h3, hrec, .inr h1⟩
                · cases hrec
              obtain ⟨hfd, hres, rfl, hx⟩ := hend
              refine ⟨hu.ne, .inr ⟨fun h => (by cases h), .func f, caps, f, as ++ caps, rfl, run_callFunc G hfn hc _, fun _ _ => trivial, ?_⟩⟩
              refine callsDIn_of_wpSIn hfn hc trivial fun c₀ cs hmode => ?_
              have hopsE : ops = #[o] := list_one hops
              subst hopsE
              have A0 := frame_start (n := fn2.ntmps) H hs hle'
              have hrun : ∀ w : World, (execOp ({ tmps := as ++ caps ++ Array.replicate (fn2.ntmps - (as ++ caps).size) undef, defers := [] } : Act).eval o).run P w = .ok .recover w := by
                intro w
                simp [execOp, hop, resolve, invoke, builtin]
              have hwant : Region.wanted o (yielded #[o] (as ++ caps ++ Array.replicate (fn2.ntmps - (as ++ caps).size) undef)) = true := by simp [Region.wanted, hguard]
              -- what the rest of the text is walked with
              have go : ∀ (gotA : AV) (got : Value) (u' : FrameMode), SimV im1 μ1 gotA got → settle u' = .returning → ev rest ⟨(initT args 0 .leaf).set d (some gotA), fn2.ntmps, [], none⟩ σ1 = some (x, fr2, σ3) →
                  rest.wpSIn Fence.wide (n - 1) P (bodyPostS P fn2 c₀ cs fun
                    | .returned _, u', w' => LeavesInM Fence.wide n P fn tmps (fun e w' => ∃ im' μ', CallEnd im fx μ σ r σ' e w' im' μ') ds' (settle u') w'
                    | .panicked chain, u', w' => LeavesInM Fence.wide n P fn tmps (fun e w' => ∃ im' μ', CallEnd im fx μ σ r σ' e w' im' μ') ds' (raised u' chain) w'
                    | .outgrown, _, w' => ∃ im' μ', CallEnd im fx μ σ r σ' .outgrown w' im' μ')
                    (({ tmps := as ++ caps ++ Array.replicate (fn2.ntmps - (as ++ caps).size) undef, defers := [] } : Act).put (some d) got) ({ c₀ with mode := u' } :: cs) w1 := by
                intro gotA got u' hgot hset hev'
                refine wpSIn_of_wpIn rfl ?_
                have A1 : ASim im1 fx μ1 ⟨(initT args 0 .leaf).set d (some gotA), fn2.ntmps, [], none⟩ σ1 (({ tmps := as ++ caps ++ Array.replicate (fn2.ntmps - (as ++ caps).size) undef, defers := [] } : Act).put (some d) got) w1 := by
                  have hsz := A0.siz
                  simp only at hsz
                  exact ⟨H, A0.tmp.set (by rw [hsz]; exact hlt') hgot, by simp only [Act.put, Array.size_setIfInBounds]; exact hsz, .nil⟩
                refine (S _ _ _ _ _ _ hev').2 im1 fx μ1 _ w1 none (n - 1) _ A1 A.fsh trivial ?_
                intro X a' w' im2 μ2 hX hA
                have hdn : a'.defers = [] := by
                  have := hA.sim.dfs
                  rw [hfd] at this
                  exact this.nil_inv
                have hresr : (results fn2 a'.tmps).run P w' = .ok (.tuple #[]) w' := by
                  rw [results_eq, hres]
                  simp
                have hfin : LeavesInM Fence.wide n P fn tmps (fun e w' => ∃ im' μ', CallEnd im fx μ σ r σ' e w' im' μ') ds' (settle u') w' := by
                  rw [hset]
                  exact leave_sound S G n ds none ds' .returning σ3 w' im2 μ2 h (hds.mono hA.le) trivial hA.sim.wld (ht.mono hA.le) (A.after hA)
                rcases hx with rfl | rfl
                · cases X <;> try exact hX.elim
                  exact ⟨hdn, u', rfl, _, hresr, hfin⟩
                · cases X <;> try exact hX.elim
                  exact ⟨hdn, u', rfl, _, hresr, hfin⟩
              refine wpSIn_seq (wpSIn_region ?_)
              have hrange : List.range (#[o] : Array Oper).size = [0] := rfl
              rw [hrange]
              simp only [wpOpsSIn, List.getElem?_toArray, List.getElem?_cons_zero, hwant, if_true, hrun]
              refine ⟨fun _ _ => trivial, ?_⟩
              rcases u with _ | ⟨t, v⟩
              · cases m <;> try exact hu.elim
                have hrd : recoverD (c₀ :: cs) = none := by simp [recoverD, hmode]
                rw [hrd]
                have hc0 : c₀ = { c₀ with mode := .returning } := by rw [← hmode]
                have := go .nili .nilIface .returning .nili rfl hev
                rw [← hc0] at this
                rw [hdst]
                exact this
              · cases m <;> try exact hu.elim
                obtain ⟨v', rfl, hv⟩ := hu
                have hrd : recoverD (c₀ :: cs) = some (.iface t v', { c₀ with mode := .panicking [{ v := .iface t v', recovered := true }] } :: cs) := by simp [recoverD, hmode]
                rw [hrd]
                rw [hdst]
                exact go (.iface t v) (.iface t v') _ (.iface _ _ _ hv) rfl hev
            · cases hrec
          · cases hrec
        · cases hrec
      · cases hrec

theorem call_sound (S : EvSound P ev) (G : Good P C) : CallOk P ev := by
  intro f args σ σ' r h im fx μ args' w n H hF hs
  unfold callF at h
  simp only [Option.bind_eq_some_iff] at h
  obtain ⟨fn, hf, c, hc, h⟩ := h
  split at h
  · cases h
  · rename_i hle
    simp only [Option.bind_eq_some_iff] at h
    obtain ⟨⟨x, fr, σ1⟩, hev, h⟩ := h
    refine callsIn_of_wp_marks hf hc trivial ?_
    refine (S _ _ _ _ _ _ hev).2 im fx μ _ w none n _ (frame_start H hs (Nat.le_of_ble_eq_true hle)) hF trivial ?_
    intro X a' w' im1 μ1 hX hA
    have hacc : Acc im fx μ σ im1 μ1 σ1 := ⟨hA.le, hA.nxt, hA.fsh, hA.low, hA.fxo⟩
    cases x with
    | exit id => cases h
    | pan t v =>
      cases X <;> try exact hX.elim
      exact leave_sound S G n fr.dfs (some (t, v)) a'.defers _ σ1 w' im1 μ1 h hA.sim.dfs hX hA.sim.wld hA.sim.tmp hacc
    | norm =>
      cases X <;> try exact hX.elim
      exact leave_sound S G n fr.dfs none a'.defers .returning σ1 w' im1 μ1 h hA.sim.dfs trivial hA.sim.wld hA.sim.tmp hacc
    | ret =>
      cases X <;> try exact hX.elim
      exact leave_sound S G n fr.dfs none a'.defers .returning σ1 w' im1 μ1 h hA.sim.dfs trivial hA.sim.wld hA.sim.tmp hacc

/-! ### A round of a range over a function -/
theorem setParams_ok {im : IM} {μ : Mu} : ∀ {ps : List Nat} {vs : List AV} {vs' : List Value} {tm tm' : PT AV} {arr : Array Value} {sz : Nat}, setParams ps vs tm = some tm' → SimL im μ vs vs' → TSim im μ tm arr → arr.size = sz → (∀ p, p ∈ ps → p < sz) →
    ps.length = vs'.length ∧ TSim im μ tm' ((ps.zip vs').foldl (fun tmps x => tmps.setIfInBounds x.1 x.2) arr) ∧ ((ps.zip vs').foldl (fun tmps x => tmps.setIfInBounds x.1 x.2) arr).size = sz
  | [], [], vs', tm, tm', arr, sz, h, hs, ht, hsz, _ => by
    simp only [setParams, Option.some.injEq] at h
    subst h
    cases hs
    exact ⟨rfl, ht, hsz⟩
  | [], _ :: _, _, _, _, _, _, h, _, _, _, _ => by cases h
  | _ :: _, [], _, _, _, _, _, h, _, _, _, _ => by cases h
  | p :: ps, v :: vs, vs', tm, tm', arr, sz, h, hs, ht, hsz, hp => by
    cases hs with
    | cons _ y _ ys h1 h2 =>
      simp only [setParams] at h
      obtain ⟨q1, q2, q3⟩ := setParams_ok (arr := arr.setIfInBounds p y) (sz := sz) h h2 (ht.set (by rw [hsz]; exact hp p List.mem_cons_self) h1) (by simp [hsz]) (fun q hq => hp q (List.mem_cons_of_mem _ hq))
      exact ⟨by simp [q1], q2, q3⟩

theorem run_setLoop {cb : Nat} {L L2 : Loop} {w : World} (h : w.heap[cb]? = some (.loop L)) : (setObj cb (.loop L2)).run P w = .ok () { w with heap := w.heap.setIfInBounds cb (.loop L2) } := by
  simp [setObj, Sem.run, h]

theorem run_getLoop {cb : Nat} {L : Loop} {w : World} (h : w.heap[cb]? = some (.loop L)) : (Instr.getLoop cb).run P w = .ok L w := by
  have hg := run_getObj_at (P := P) (w := w) h (fun c t f q => by cases q)
  simp only [Instr.getLoop, Sem.run_bind, hg, Result.andThen_ok]
  rfl

theorem stOf_inj {s : LoopState} {n : Nat} (h : stOf s = n) : (n = 0 → s = .ready) ∧ (n ≠ 1 → s ≠ .busy) := by
  subst h
  cases s <;> simp [stOf]

/-- The record of a loop is turned. -/
theorem loop_turn {im : IM} {fx : FX} {μ : Mu} {w : World} {σ : Heap} {b cb base tot : Nat} {r r2 : LR} {L2 : Loop} (H : WSim im fx μ w σ) (hg : σ.get b = some (.loop r)) (hm : μ b = some (cb, base, tot)) (h2 : BlkSim im μ (.loop r2) base tot (.loop L2)) :
    WSim im fx μ { w with heap := w.heap.setIfInBounds cb (.loop L2) } (σ.set b (.loop r2)) := by
  obtain ⟨cb2, base2, tot2, o, q1, q2, q3, q4, q5⟩ := H.blk b _ hg
  rw [hm] at q1
  cases q1
  have hlt := (Array.getElem?_eq_some_iff.1 q4).1
  refine H.turn hg hm (fun c oo hc hh => ?_) rfl (o' := .loop L2) ?_ h2
  · simp only [Array.getElem?_setIfInBounds_ne (Ne.symm hc)]; exact hh
  · simp [hlt]

theorem WSim.loop {im : IM} {fx : FX} {μ : Mu} {w : World} {σ : Heap} {b cb base tot : Nat} {r : LR} (H : WSim im fx μ w σ) (hg : σ.get b = some (.loop r)) (hm : μ b = some (cb, base, tot)) :
    ∃ L, w.heap[cb]? = some (.loop L) ∧ TSim im μ r.tmps L.tmps ∧ L.tmps.size = r.sz ∧ L.params.toList = r.params ∧ L.assign = r.assign ∧ L.body = r.body ∧ stOf L.state = r.st ∧ L.pending = pendOf r.pend := by
  obtain ⟨cb2, base2, tot2, o, q1, q2, q3, q4, L, rfl, q5⟩ := H.blk b _ hg
  rw [hm] at q1
  cases q1
  exact ⟨L, q4, q5⟩

theorem round_sound (S : EvSound P ev) : RoundOk P ev := by
  intro b args σ σ' v h im fx μ args' w n cb base tot H hF hs hm
  unfold roundA at h
  split at h
  · rename_i r hg
    split at h
    · rename_i hst hall
      simp only [Option.bind_eq_some_iff] at h
      obtain ⟨tm, htm, ⟨x, fr1, σ1⟩, hev1, h⟩ := h
      simp only at h
      split at h
      · rename_i r1 hg1
        split at h
        · rename_i hst1
          simp only [Option.bind_eq_some_iff] at h
          obtain ⟨⟨y, fr2, σ2⟩, hev2, h⟩ := h
          simp only at h
          split at h
          · rename_i r2 hd2 hg2
            obtain ⟨L, hL, l1, l2, l3, l4, l5, l6, l7⟩ := H.loop hg hm
            have hps : ∀ p, p ∈ r.params → p < r.sz := fun p hp => Nat.le_of_ble_eq_true (List.all_eq_true.1 hall p hp)
            obtain ⟨p1, p2, p3⟩ := setParams_ok htm hs l1 l2 hps
            have hsz : args'.size = L.params.size := by
              have : L.params.toList.length = args'.toList.length := by rw [l3]; exact p1
              simpa using this.symm
            have hfold : (L.params.zip args').foldl (fun tmps (x : Nat × Value) => tmps.setIfInBounds x.1 x.2) L.tmps = (r.params.zip args'.toList).foldl (fun tmps x => tmps.setIfInBounds x.1 x.2) L.tmps := by
              rw [← Array.foldl_toList, Array.toList_zip, l3]
            refine ⟨L.fn, (r.params.zip args'.toList).foldl (fun tmps x => tmps.setIfInBounds x.1 x.2) L.tmps, L.assign, L.body, ?_, ?_⟩
            · rw [← hfold]
              simp only [Instr.yield, Sem.run_bind, run_getLoop hL, Result.andThen_ok, hsz, ne_eq, not_true_eq_false, if_false, Sem.run_pure]
            · refine roundIn_of_wpIn trivial ?_
              rw [l4]
              have hrd : RdOk μ (some b) (some cb) := ⟨base, tot, hm⟩
              obtain ⟨hk1, hS1⟩ := S _ _ _ _ _ _ hev1
              refine hS1 im fx μ _ w (some cb) n _ ⟨H, p2, p3, .nil⟩ hF hrd ?_
              intro X a1 w1 im1 μ1 hX hA1
              cases X <;> try exact hX.elim
              have hm1 := hA1.le.2 _ _ hm
              obtain ⟨L1, hL1, m1, m2, m3, m4, m5, m6, m7⟩ := hA1.sim.wld.loop hg1 hm1
              have hready : L1.state = .ready := (stOf_inj (m6.trans hst1)).1 rfl
              have hbegin : (Instr.beginRound cb).run P w1 = .ok () { w1 with heap := w1.heap.setIfInBounds cb (.loop { L1 with state := .busy }) } := by
                simp only [Instr.beginRound, Sem.run_bind, run_getLoop hL1, Result.andThen_ok, run_setLoop hL1, hready, Sem.run_pure]
              refine ⟨_, hbegin, ?_⟩
              have hW1 := loop_turn (r2 := { r1 with st := 1 }) (L2 := { L1 with state := .busy }) hA1.sim.wld hg1 hm1 ⟨_, rfl, m1, m2, m3, m4, m5, rfl, m7⟩
              rw [l5]
              have hfr1 : fr1.rd = some b := hk1
              obtain ⟨hk2, hS2⟩ := S _ _ _ _ _ _ hev2
              refine hS2 im1 fx μ1 a1 _ (some cb) n _ ⟨hW1, hA1.sim.tmp, hA1.sim.siz, hA1.sim.dfs⟩ (by rw [Heap.next_set]; exact hA1.fsh) (by rw [hfr1]; exact ⟨base, tot, hm1⟩) ?_
              intro Y a2 w2 im2 μ2 hY hA2
              have hm2 := hA2.le.2 _ _ hm1
              obtain ⟨L2, hL2, n1, n2, n3, n4, n5, n6, n7⟩ := hA2.sim.wld.loop hg2 hm2
              have hnx : σ.next ≤ σ2.next := Nat.le_trans hA1.nxt (by have := hA2.nxt; rw [Heap.next_set] at this; exact this)
              have hlow : ∀ b, b < σ.next → μ2 b = μ b := fun b hb => (hA2.low b (by rw [Heap.next_set]; exact Nat.lt_of_lt_of_le hb hA1.nxt)).trans (hA1.low b hb)
              have hend : ∀ (jump : Option Code), (Instr.endRound cb jump).run P w2 = .ok (.bool jump.isNone) { w2 with heap := w2.heap.setIfInBounds cb (.loop { L2 with state := if jump.isNone then .ready else .done, pending := jump }) } := by
                intro jump
                simp only [Instr.endRound, Sem.run_bind, run_getLoop hL2, Result.andThen_ok, run_setLoop hL2, Sem.run_pure]
              have fin : ∀ (jump : Option Code) (st : Nat) (pend : Option Jmp), stOf (if jump.isNone then .ready else .done) = st → jump = pendOf pend → CR.ret v = .ret (.bool jump.isNone) → σ' = σ2.set b (.loop { r2 with st := st, pend := pend }) →
                  ∃ v' w', (Instr.endRound cb jump).run P w2 = .ok v' w' ∧ ∃ im' μ', CallEnd im fx μ σ (.ret v) σ' (.returned v') w' im' μ' := by
                intro jump st pend hst hp hv hσ
                have hW2 := loop_turn (r2 := { r2 with st := st, pend := pend }) (L2 := { L2 with state := if jump.isNone then .ready else .done, pending := jump }) hA2.sim.wld hg2 hm2 ⟨_, rfl, n1, n2, n3, n4, n5, hst, hp⟩
                rw [← hσ] at hW2
                refine ⟨_, _, hend jump, im2, μ2, hA1.le.trans hA2.le, hW2, by rw [hσ, Heap.next_set]; exact hnx, by rw [hσ, Heap.next_set]; exact hA2.fsh, hlow, fun c hc => (hA2.fxo c hc).trans (hA1.fxo c hc), ?_⟩
                simp only [CR.ret.injEq] at hv
                subst hv
                exact .bool _
              split at h
              · simp only [Option.some.injEq, Prod.mk.injEq] at h
                obtain ⟨rfl, rfl⟩ := h
                cases Y <;> try exact hY.elim
                exact fin none 0 none rfl rfl rfl rfl
              · simp only [Option.some.injEq, Prod.mk.injEq] at h
                obtain ⟨rfl, rfl⟩ := h
                cases Y <;> try exact hY.elim
                exact fin (some .ret) 2 (some .ret) rfl rfl rfl rfl
              · rename_i id
                simp only [Option.some.injEq, Prod.mk.injEq] at h
                obtain ⟨rfl, rfl⟩ := h
                cases Y <;> try exact hY.elim
                have hid : id = _ := hY
                subst hid
                exact fin (some (.exit id)) 2 (some (.exit id)) rfl rfl rfl rfl
              · cases h
          · cases h
        · cases h
      · cases h
    · cases h
  · cases h
end Go.Nv
