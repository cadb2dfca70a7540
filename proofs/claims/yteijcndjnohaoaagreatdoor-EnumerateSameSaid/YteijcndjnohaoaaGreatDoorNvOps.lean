/- One operation: what the evaluator says of it is what the machine does. -/
import Derived.Test.YteijcndjnohaoaaGreatDoorNvCalls2
set_option linter.all false
set_option linter.unusedVariables false
set_option linter.unusedSimpArgs false
namespace Go.Nv
open Go
variable {P : Program} {C : Cfg} {ev : Evn} {im im' : IM} {fx : FX} {μ : Mu} {w w' : World} {σ : Heap} {lim : Nat → Bool}

def HasBody (P : Program) (f : Nat) : Prop := ∃ fn c, P.funcs[f]? = some fn ∧ fn.body = some c
def BodiesOk (P : Program) (C : Cfg) : Prop := ∀ f args v, C.memo f args = some v → HasBody P f

def RoundOk (P : Program) (ev : Evn) : Prop := ∀ (b : Nat) (args : List AV) (σ σ' : Heap) (v : AV), roundA ev b args σ = some (v, σ') →
  ∀ (im : IM) (fx : FX) (μ : Mu) (args' : Array Value) (w : World) (n cb base tot : Nat), WSim im fx μ w σ → Fresh μ σ.next → SimL im μ args args'.toList → μ b = some (cb, base, tot) →
    ∃ f tmps assign body, (Instr.yield cb args').run P w = .ok (.round cb f tmps assign body) w ∧ RoundIn Fence.wide n P cb f tmps assign body w fun e w' => ∃ im' μ', CallEnd im fx μ σ (.ret v) σ' e w' im' μ'

/-- All that is known of the calls that the evaluator makes. -/
structure EvCalls (P : Program) (C : Cfg) (ev : Evn) : Prop where
  good : Good P C
  glob : ∀ g, C.glob g = none
  memo : MemoOk P C
  body : BodiesOk P C
  call : CallOk P ev
  round : RoundOk P ev

theorem callPure_body (E : EvCalls P C ev) {f : Nat} {args : List AV} {v : AV} (h : callPure P C ev f args = some v) : HasBody P f := by
  unfold callPure at h
  split at h
  · rename_i v' hm; exact E.body _ _ _ hm
  · simp only [Option.bind_eq_some_iff] at h
    obtain ⟨⟨r, σ'⟩, hcall, _⟩ := h
    obtain ⟨fn, c, h1, h2⟩ := callF_body hcall
    exact ⟨fn, c, h1, h2⟩

theorem run_static (E : EvCalls P C ev) {f : Nat} (hb : HasBody P f) (a : Act) (args : Array Operand) (ts : Array TypeId) (dst : Option Tmp) (type : TypeId) (pos : String) (after : Array Edge) (guard : Option (Nat × Bool)) :
    (execOp a.eval ⟨dst, .call ⟨.value (.func f), args, ts⟩, type, pos, after, guard⟩).run P w = .ok (.enter f (args.map a.eval)) w := by
  obtain ⟨fn, c, h1, h2⟩ := hb
  simp [execOp, resolve, Deferred.ofValue, Act.eval, invoke, run_callFunc E.good h1 h2]

theorem run_dynamic (E : EvCalls P C ev) {f : Nat} (hb : HasBody P f) (a : Act) {g : Operand} {first caps : Array Value} (hg : a.eval g = .func (.func f) first caps) (args : Array Operand) (ts : Array TypeId) (dst : Option Tmp) (type : TypeId) (pos : String) (after : Array Edge) (guard : Option (Nat × Bool)) :
    (execOp a.eval ⟨dst, .call ⟨.value g, args, ts⟩, type, pos, after, guard⟩).run P w = .ok (.enter f (first ++ args.map a.eval ++ caps)) w := by
  obtain ⟨fn, c, h1, h2⟩ := hb
  simp [execOp, resolve, Deferred.ofValue, hg, invoke, run_callFunc E.good h1 h2]

/-- An operation that goes through. -/
theorem wpIn_value {o : Oper} {a : Act} {ro : Option Nat} {n : Nat} {next : Act → World → Prop} {Q : Exit → Act → World → Prop} {v : Value} (hd : ∀ c, o.op ≠ .defer c) (hr : (execOp a.eval o).run P w = .ok (.value v) w') (h : next (a.put o.dst v) w') :
    o.wpIn (fenceOf ro) n P a w next Q :=
  ⟨fun f _ => fenceOf_fn ro f, by rw [Oper.semAt_eq _ _ _ hd, hr, Oper.uponIn_value]; exact h⟩
theorem wpIn_skipped {o : Oper} {a : Act} {ro : Option Nat} {n : Nat} {next : Act → World → Prop} {Q : Exit → Act → World → Prop} (hd : ∀ c, o.op ≠ .defer c) (hr : (execOp a.eval o).run P w = .ok .skip w') (h : next (a.put o.dst undef) w') :
    o.wpIn (fenceOf ro) n P a w next Q :=
  ⟨fun f _ => fenceOf_fn ro f, by rw [Oper.semAt_eq _ _ _ hd, hr, Oper.uponIn_skip]; exact h⟩
theorem wpIn_enter {o : Oper} {a : Act} {ro : Option Nat} {n : Nat} {next : Act → World → Prop} {Q : Exit → Act → World → Prop} {f : FuncId} {args : Array Value} {R : Ending → World → Prop} (hd : ∀ c, o.op ≠ .defer c) (hr : (execOp a.eval o).run P w = .ok (.enter f args) w')
    (hc : CallsIn Fence.wide (n - 1) P f args w' R) (h : ∀ e w'', R e w'' → (match e with | .returned v => next (a.put o.dst v) w'' | .panicked chain => Q (.panic chain) a w'' | .outgrown => False)) :
    o.wpIn (fenceOf ro) n P a w next Q := by
  refine ⟨fun f _ => fenceOf_fn ro f, ?_⟩
  rw [Oper.semAt_eq _ _ _ hd, hr, Oper.uponIn_enter]
  refine ⟨fenceOf_depth ro, fenceOf_calls (hc.mono ?_)⟩
  intro e w'' hR
  have := h e w'' hR
  cases e with
  | returned v => exact this
  | panicked chain => exact this
  | outgrown => exact this.elim

theorem quiet_sound (E : EvCalls P C ev) {slot : Nat} {o : Oper} {ρ : Operand → Option AV} {v : AV} {e : Option (Nat × ABlk)} {a : Act} {ro : Option Nat} {n : Nat} {next : Act → World → Prop} {Q : Exit → Act → World → Prop}
    (hq : quietV P C ev slot lim ρ o σ = some (v, e)) (hρ : OSim im μ ρ a.eval) (H : WSim im fx μ w σ) (hslot : μ slot = none)
    (hn : ∀ v' w' im' μ', Le im im' μ μ' → WSim im' fx μ' w' (eff σ e) → SimV im' μ' v v' → (∀ c, fx c ≠ none → im' c = im c) → (∀ b, b ≠ slot → μ' b = μ b) → next (a.put o.dst v') w') :
    o.wpIn (fenceOf ro) n P a w next Q := by
  have hd : ∀ c, o.op ≠ .defer c := by
    intro c hop
    unfold quietV at hq
    have : clOf P C o = .loud := by simp only [clOf, hop]
    rw [this] at hq
    cases hq
  unfold quietV at hq
  split at hq
  · -- pure
    simp only [Option.bind_eq_some_iff, Option.some.injEq, Prod.mk.injEq] at hq
    obtain ⟨v0, hp, rfl, rfl⟩ := hq
    obtain ⟨v', h1, h2⟩ := pure_ok E.good hρ (fun f => rfl) hp w
    exact wpIn_value hd h1 (hn v' w im μ (Le.refl _ _) H h2 (fun _ _ => rfl) (fun _ _ => rfl))
  · -- read
    simp only [Option.bind_eq_some_iff, Option.some.injEq, Prod.mk.injEq] at hq
    obtain ⟨v0, hr, rfl, rfl⟩ := hq
    by_cases hst : ∃ c f, o.op = .call c ∧ c.callee = .value (.func f)
    · obtain ⟨c, f, hop, hcal⟩ := hst
      obtain ⟨dst, op, type, pos, after, guard⟩ := o
      obtain ⟨callee, args, ts⟩ := c
      simp only at hop hcal
      subst hop hcal
      simp only [readV, Option.bind_eq_some_iff] at hr
      obtain ⟨as, has, hr⟩ := hr
      have hs : SimL im μ as (args.map a.eval).toList := by simpa using mapO_sim hρ has
      have hb : HasBody P f := by
        unfold callRead at hr
        split at hr
        · exact callPure_body E hr
        · simp only [Option.bind_eq_some_iff] at hr
          obtain ⟨_, _, _, hv0, _⟩ := hr
          exact callPure_body E hv0
      refine wpIn_enter hd (run_static E hb a args ts dst type pos after guard) (callRead_ok E.call E.memo H hr hs (n - 1)) ?_
      rintro e w'' ⟨im', v', rfl, h1, h2, h3, h4⟩
      exact hn v' w'' im' μ h2 h1 h4 h3 (fun _ _ => rfl)
    · obtain ⟨v', h1, h2⟩ := read_ok (P := P) (C := C) H ev lim hρ hr (fun c f hop hcal => hst ⟨c, f, hop, hcal⟩)
      exact wpIn_value hd h1 (hn v' w im μ (Le.refl _ _) H h2 (fun _ _ => rfl) (fun _ _ => rfl))
  · -- alloc
    simp only [Option.bind_eq_some_iff] at hq
    obtain ⟨⟨blk, mk⟩, hal, hq⟩ := hq
    have hve : v = mk.val slot ∧ e = mkEff slot blk mk := by
      cases mk <;> simp only [Option.some.injEq, Prod.mk.injEq] at hq <;> exact ⟨hq.1.symm, hq.2.symm⟩
    obtain ⟨rfl, rfl⟩ := hve
    by_cases hcl : ∃ c, o.op = .call c
    · obtain ⟨c, hop⟩ := hcl
      obtain ⟨dst, op, type, pos, after, guard⟩ := o
      obtain ⟨callee, args, ts⟩ := c
      simp only at hop
      subst hop
      simp only [allocV] at hal
      split at hal
      · rename_i f hf
        have hcal : callee = .value (.func f) := by
          unfold staticF at hf
          split at hf
          · rename_i g hc
            simp only [Option.some.injEq] at hf
            subst hf
            exact hc
          · cases hf
        subst hcal
        simp only [Option.bind_eq_some_iff] at hal
        obtain ⟨as, has, xs, hxs, ⟨r, σc⟩, hcall, hend⟩ := hal
        have hs : SimL im μ as (args.map a.eval).toList := by simpa using mapO_sim hρ has
        obtain ⟨fn, c, hb1, hb2⟩ := callF_body hcall
        refine wpIn_enter hd (run_static E ⟨fn, c, hb1, hb2⟩ a args ts dst type pos after guard) (freshCall_ok E.call H hslot hs hxs hcall (blk := blk) (mk := mk) hend (n - 1)) ?_
        rintro e w'' ⟨im', μ', v', rfl, h1, h2, h3, h4, h5⟩
        exact hn v' w'' im' μ' h1 h2 h3 h4 h5
      · cases hal
    · obtain ⟨w', v', oo, tot, h1, h2, hos, h3, h4⟩ := alloc_ok (P := P) (im := im) (μ := μ) (w := w) (σ := σ) ev lim hρ hal (fun c hop => hcl ⟨c, hop⟩)
      have hp := H.push (b := slot) hslot h2 hos h3
      have hle := WSim.le_upd (im := im) (e := (w.heap.size, 0, tot)) hslot
      refine wpIn_value hd h1 (hn v' w' im (WSim.upd μ slot (w.heap.size, 0, tot)) hle ?_ (h4 _ _ (WSim.upd_same _ _ _)) (fun _ _ => rfl) (fun b hb => WSim.upd_ne hb))
      cases mk
      case nil =>
        have hg := (H.grow (w' := w') (fun c oo hc => by
          have := (Array.getElem?_eq_some_iff.1 hc).1
          rw [h2, Array.getElem?_push, if_neg (by omega)]
          exact hc) hos).name (e := (w.heap.size, 0, tot)) hslot
        exact hg
      all_goals exact hp
  · -- store
    simp only [Option.bind_eq_some_iff, Option.some.injEq, Prod.mk.injEq] at hq
    obtain ⟨⟨b, blk⟩, hs, rfl, rfl⟩ := hq
    obtain ⟨w', h1, h2⟩ := store_ok (P := P) H lim hρ hs
    exact wpIn_skipped hd h1 (hn undef w' im μ (Le.refl _ _) h2 undef_sim (fun _ _ => rfl) (fun _ _ => rfl))
  · cases hq

theorem after_of_calls {fr : AF} {a : Act} {o : Oper} {v : AV} {v' : Value} {σ' : Heap} {μ' : Mu} (A : ASim im fx μ fr σ a w) (hd : dstOk o fr.sz = true) (h1 : Le im im' μ μ') (h2 : WSim im' fx μ' w' σ') (h3 : σ.next ≤ σ'.next) (h4 : Fresh μ' σ'.next)
    (h5 : ∀ b, b < σ.next → μ' b = μ b) (h6 : ∀ c, fx c ≠ none → im' c = im c) (h7 : SimV im' μ' v v') : After im fx μ σ (fr.put o.dst v) σ' (a.put o.dst v') w' im' μ' :=
  ⟨h1, (A.world h1 h2).put hd h7, h3, h4, h5, h6⟩

theorem loud_sound (E : EvCalls P C ev) {o : Oper} {fr : AF} {a : Act} {ro : Option Nat} {n : Nat} {next : Act → World → Prop} {Q : Exit → Act → World → Prop} {r : OR} (hl : loudE P C ev o fr σ = some r) (hcl : clOf P C o = .loud) (A : ASim im fx μ fr σ a w) (hF : Fresh μ σ.next) (hrd : RdOk μ fr.rd ro)
    (hd : dstOk o fr.sz = true) (hn : match r with
      | .ok fr' σ' => ∀ a' w' im' μ', After im fx μ σ fr' σ' a' w' im' μ' → next a' w'
      | .pan t v fr' σ' => fr' = fr ∧ ∀ X w' im' μ', XSim im' μ' (.pan t v) X → After im fx μ σ fr σ' a w' im' μ' → Q X a w') :
    o.wpIn (fenceOf ro) n P a w next Q := by
  have hρ := A.osim (C := C) E.glob
  unfold loudE at hl
  split at hl
  · -- defer
    rename_i c hop hrn
    split at hl
    · rename_i g hc
      simp only [Option.bind_eq_some_iff] at hl
      obtain ⟨gv, hg, args, ha, hl⟩ := hl
      split at hl
      · rename_i f first caps
        simp only [Option.some.injEq] at hl
        subst hl
        rw [hrn] at hrd
        have hro : ro = none := by cases ro with
          | none => rfl
          | some l => exact hrd.elim
        subst hro
        obtain ⟨first', caps', hge, hs1, hs2⟩ := (hρ _ _ hg).inv_fn
        have hs : SimL im μ args (c.args.map a.eval).toList := by simpa using mapO_sim hρ ha
        refine ⟨fun f _ => fenceOf_fn _ f, ?_⟩
        have hrun : (Oper.semAt (fenceOf none).round a.eval o).run P w = .ok (.defer { target := .fn (.func f) caps', args := first' ++ c.args.map a.eval }) w := by
          rw [fenceOf_round, Oper.semAt_none]
          simp [execOp, hop, resolve, hc, Deferred.ofValue, hge]
        rw [hrun, Oper.uponIn_defer]
        simp only at hn
        refine hn _ _ im μ ⟨Le.refl _ _, ?_, Nat.le_refl _, hF, fun _ _ => rfl, fun _ _ => rfl⟩
        have hp := A.put hd undef_sim
        refine ⟨hp.wld, ?_, ?_, ?_⟩
        · have := hp.tmp
          cases hdst : o.dst <;> simp only [hdst, Act.put, AF.put] at this ⊢ <;> exact this
        · have := hp.siz
          cases hdst : o.dst <;> simp only [hdst, Act.put, AF.put] at this ⊢ <;> exact this
        · have e : ({ a with defers := { target := .fn (.func f) caps', args := first' ++ c.args.map a.eval } :: a.defers }.put o.dst undef : Act).defers = { target := .fn (.func f) caps', args := first' ++ c.args.map a.eval } :: a.defers := by cases o.dst <;> rfl
          rw [e]
          refine .cons _ _ _ _ ⟨caps', first' ++ c.args.map a.eval, rfl, ?_⟩ A.dfs
          simp only [Array.toList_append]
          exact (hs1.append hs).append hs2
      · cases hl
    · cases hl
  · rename_i hno
    have hdef : ∀ c, o.op ≠ .defer c := by
      intro c hop
      simp only [loudV, hop, Option.bind_none] at hl
      cases hl
    simp only [Option.bind_eq_some_iff] at hl
    obtain ⟨⟨cr, σ1⟩, hlv, hl⟩ := hl
    -- what the operation's end is to what follows
    have fin : ∀ {e : Ending} {w'' : World}, (∃ im' μ', CallEnd im fx μ σ cr σ1 e w'' im' μ') → (match e with | .returned v => next (a.put o.dst v) w'' | .panicked chain => Q (.panic chain) a w'' | .outgrown => False) := by
      rintro e w'' ⟨im', μ', hE⟩
      have hans := hE.ans
      cases cr with
      | ret v =>
        simp only [Option.some.injEq] at hl
        subst hl
        cases e with
        | returned v' => exact hn _ _ im' μ' (after_of_calls A hd hE.le hE.wld hE.nxt hE.fsh hE.low hE.fxo hans)
        | panicked chain => exact hans.elim
        | outgrown => exact hans.elim
      | pan t v =>
        simp only [Option.some.injEq] at hl
        subst hl
        cases e with
        | returned v' => exact hans.elim
        | panicked chain => exact hn.2 _ _ im' μ' hans ⟨hE.le, A.world hE.le hE.wld, hE.nxt, hE.fsh, hE.low, hE.fxo⟩
        | outgrown => exact hans.elim
    by_cases hst : ∃ c g, o.op = .call c ∧ c.callee = .value g
    · obtain ⟨c, g, hop, hcal⟩ := hst
      obtain ⟨dst, op, type, pos, after, guard⟩ := o
      obtain ⟨callee, args, ts⟩ := c
      simp only at hop hcal
      subst hop hcal
      simp only [loudV, Option.bind_eq_some_iff] at hlv
      obtain ⟨gv, hg, as, has, hcv⟩ := hlv
      have hs : SimL im μ as (args.map a.eval).toList := by simpa using mapO_sim hρ has
      unfold callV at hcv
      split at hcv
      · rename_i f first caps
        obtain ⟨first', caps', hge, hs1, hs2⟩ := (hρ _ _ hg).inv_fn
        have hsa : SimL im μ (first ++ as ++ caps) (first' ++ args.map a.eval ++ caps').toList := by
          simp only [Array.toList_append]
          exact (hs1.append hs).append hs2
        split at hcv
        · rename_i hm hp
          simp only [Option.bind_eq_some_iff, Option.some.injEq, Prod.mk.injEq] at hcv
          obtain ⟨v, hv, rfl, rfl⟩ := hcv
          refine wpIn_enter hdef (run_dynamic E (callPure_body E hv) a hge args ts dst type pos after guard) (callPure_ok E.call E.memo hv im w _ (n - 1) A.wld.imOk (hsa.noref (fun _ _ h => h) (pure_norefL deep hp hsa))) ?_
          rintro e w'' ⟨im', v', rfl, h1, h2, h3, h4, h5⟩
          obtain ⟨q1, q2, q3⟩ := A.wld.carry h1 h2 h3
          exact fin (e := .returned v') ⟨im', μ, q2, q1, Nat.le_refl _, hF, fun _ _ => rfl, q3, h4.noref (fun _ _ h => h) h5⟩
        · rename_i hm
          simp only [Option.bind_eq_some_iff, Option.some.injEq, Prod.mk.injEq] at hcv
          obtain ⟨xs, hxs, v, hv, rfl, rfl⟩ := hcv
          refine wpIn_enter hdef (run_dynamic E (callPure_body E hv) a hge args ts dst type pos after guard) (eatCall_ok E.call E.memo A.wld hsa hxs hv (n - 1)) ?_
          rintro e w'' ⟨im', v', rfl, q1, q2, q3, q4⟩
          exact fin (e := .returned v') ⟨im', μ, q2, q1, by rw [dels_next]; exact Nat.le_refl _, by rw [dels_next]; exact hF, fun _ _ => rfl, q3, q4⟩
        · obtain ⟨fn, c, hb1, hb2⟩ := callF_body hcv
          refine wpIn_enter hdef (run_dynamic E ⟨fn, c, hb1, hb2⟩ a hge args ts dst type pos after guard) (E.call f _ σ σ1 cr hcv im fx μ _ w (n - 1) A.wld hF hsa) ?_
          intro e w'' hR
          exact fin hR
      · rename_i b
        simp only [Option.bind_eq_some_iff, Option.some.injEq, Prod.mk.injEq] at hcv
        obtain ⟨⟨v, σ2⟩, hra, rfl, rfl⟩ := hcv
        obtain ⟨cb, base, tot, hm, hge⟩ := (hρ _ _ hg).inv_yld
        obtain ⟨f, tmps, assign, body, hy, hR⟩ := E.round b as σ σ2 v hra im fx μ (args.map a.eval) w (n - 1) cb base tot A.wld hF hs hm
        refine ⟨fun f _ => fenceOf_fn ro f, ?_⟩
        have hrun : (execOp a.eval ⟨dst, .call ⟨.value g, args, ts⟩, type, pos, after, guard⟩).run P w = .ok (.round cb f tmps assign body) w := by
          simp [execOp, resolve, Deferred.ofValue, hge, invoke, hy]
        rw [Oper.semAt_eq _ _ _ hdef, hrun, Oper.uponIn_round]
        refine ⟨fenceOf_depth ro, ?_⟩
        have hR' := hR.mono (fun e w'' h => fin h)
        have key : RoundIn (fenceOf ro) (n - 1) P cb f tmps assign body w (fun e w'' => (match e with | .returned v => next (a.put dst v) w'' | .panicked chain => Q (.panic chain) a w'' | .outgrown => False)) := by
          cases ro <;> exact hR'
        refine key.mono ?_
        intro e w'' h
        cases e with
        | returned v => exact h
        | panicked chain => exact h
        | outgrown => exact h.elim
      · cases hcv
    · obtain ⟨w', μ', hT, hD⟩ := loud_ok (P := P) (C := C) A.wld hF ev hρ hlv (fun c g hop hcal => hst ⟨c, g, hop, hcal⟩)
      obtain ⟨t1, t2, t3, t4, t5⟩ := hT
      refine ⟨fun f _ => fenceOf_fn ro f, ?_⟩
      rw [Oper.semAt_eq _ _ _ hdef]
      cases cr with
      | ret v =>
        obtain ⟨v', hv, hs⟩ := hD
        have := fin (e := .returned v') (w'' := w') ⟨im, μ', t1, t2, t3, t4, t5, fun _ _ => rfl, hs⟩
        rcases hv with hv | ⟨hv, rfl⟩
        · rw [hv, Oper.uponIn_value]; exact this
        · rw [hv, Oper.uponIn_skip]; exact this
      | pan t v =>
        obtain ⟨v', hv, hs⟩ := hD
        have := fin (e := .panicked [{ v := .iface t v', recovered := false }]) (w'' := w') ⟨im, μ', t1, t2, t3, t4, t5, fun _ _ => rfl, v', rfl, hs⟩
        rw [hv, Oper.uponIn_panic]
        exact this
end Go.Nv
