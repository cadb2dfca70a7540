/- The machine's activation and world stand for the evaluator's frame and memory. -/
import Derived.Test.YteijcndjnohaoaaGreatDoorNvOrder
import Derived.Test.YteijcndjnohaoaaGreatDoorNvLoud2
set_option linter.all false
set_option linter.unusedVariables false
set_option linter.unusedSimpArgs false
namespace Go.Nv
open Go
variable {P : Program} {C : Cfg} {im im' : IM} {fx : FX} {μ μ' : Mu} {w : World} {σ : Heap}

def DfSim (im : IM) (μ : Mu) : Df → Deferred → Prop
  | .mark b, d => ∃ cb base tot, μ b = some (cb, base, tot) ∧ d = { target := .collected cb, args := #[] }
  | .call f args, d => ∃ caps as, d = { target := .fn (.func f) caps, args := as } ∧ SimL im μ args (as ++ caps).toList
inductive DSim (im : IM) (μ : Mu) : List Df → List Deferred → Prop
  | nil : DSim im μ [] []
  | cons (x : Df) (y : Deferred) (xs : List Df) (ys : List Deferred) (h : DfSim im μ x y) (hs : DSim im μ xs ys) : DSim im μ (x :: xs) (y :: ys)

theorem DfSim.mono (hle : Le im im' μ μ') {x : Df} {y : Deferred} (h : DfSim im μ x y) : DfSim im' μ' x y := by
  cases x with
  | mark b => obtain ⟨cb, base, tot, h1, h2⟩ := h; exact ⟨cb, base, tot, hle.2 _ _ h1, h2⟩
  | call f args => obtain ⟨caps, as, h1, h2⟩ := h; exact ⟨caps, as, h1, h2.mono hle⟩
theorem DSim.mono (hle : Le im im' μ μ') : ∀ {xs : List Df} {ys : List Deferred}, DSim im μ xs ys → DSim im' μ' xs ys
  | _, _, .nil => .nil
  | _, _, .cons _ _ _ _ h hs => .cons _ _ _ _ (h.mono hle) (DSim.mono hle hs)
theorem DSim.append : ∀ {xs xs' : List Df} {ys ys' : List Deferred}, DSim im μ xs ys → DSim im μ xs' ys' → DSim im μ (xs ++ xs') (ys ++ ys')
  | _, _, _, _, .nil, h => h
  | _, _, _, _, .cons _ _ _ _ h hs, h' => .cons _ _ _ _ h (DSim.append hs h')

structure ASim (im : IM) (fx : FX) (μ : Mu) (fr : AF) (σ : Heap) (a : Act) (w : World) : Prop where
  wld : WSim im fx μ w σ
  tmp : TSim im μ fr.tmps a.tmps
  siz : a.tmps.size = fr.sz
  dfs : DSim im μ fr.dfs a.defers

theorem ASim.osim {fr : AF} {a : Act} (hg : ∀ g, C.glob g = none) (h : ASim im fx μ fr σ a w) : OSim im μ (fr.val C) a.eval := by
  intro x v hx
  cases x with
  | tmp t =>
    obtain ⟨v', h1, h2⟩ := h.tmp t v hx
    have : a.eval (.tmp t) = v' := by
      simp only [Act.eval, Array.getD_eq_getD_getElem?, h1, Option.getD_some]
    rw [this]
    exact h2
  | const c => exact ofConst_sim hx
  | global g => simp only [AF.val, hg] at hx; cases hx
  | func f =>
    simp only [AF.val, Option.some.injEq] at hx
    subst hx
    exact .fn f [] [] #[] #[] .nil .nil

theorem ASim.world {fr : AF} {a : Act} {w' : World} {σ' : Heap} (h : ASim im fx μ fr σ a w) (hle : Le im im' μ μ') (hw : WSim im' fx μ' w' σ') : ASim im' fx μ' fr σ' a w' :=
  ⟨hw, h.tmp.mono hle, h.siz, h.dfs.mono hle⟩

theorem ASim.put {fr : AF} {a : Act} {o : Oper} {v : AV} {v' : Value} (h : ASim im fx μ fr σ a w) (hd : dstOk o fr.sz = true) (hv : SimV im μ v v') : ASim im fx μ (fr.put o.dst v) σ (a.put o.dst v') w := by
  unfold dstOk at hd
  cases hdst : o.dst with
  | none => exact h
  | some d =>
    rw [hdst] at hd
    have hlt : d < a.tmps.size := by rw [h.siz]; exact Nat.le_of_ble_eq_true hd
    exact ⟨h.wld, h.tmp.set hlt hv, by simp [Act.put, AF.put, h.siz], h.dfs⟩

theorem undef_sim : SimV im μ undefA undef := .tup [] #[] .nil

def asB : Value → Option Bool
  | .bool b => some b
  | _ => none

theorem wanted_sim {ops : Array Oper} {o : Oper} {tm : PT AV} {arr : Array Value} {b : Bool} (h : TSim im μ tm arr) (hw : wantedA ops o tm = some b) : Region.wanted o (yielded ops arr) = b := by
  unfold wantedA at hw
  unfold Region.wanted
  cases hg : o.guard with
  | none => rw [hg] at hw; simp at hw; simpa using hw
  | some gw =>
    obtain ⟨j, want⟩ := gw
    rw [hg] at hw
    simp only [Option.bind_eq_some_iff, Option.some.injEq] at hw
    obtain ⟨v, hv, hw⟩ := hw
    unfold yieldedA at hv
    obtain ⟨t, ht, hv⟩ := Option.bind_eq_some_iff.1 hv
    obtain ⟨v', h1, h2⟩ := h t v hv
    have hy : yielded ops arr j = asB v' := by
      unfold yielded
      rw [ht]
      simp only [Option.bind_some, h1]
      cases v' <;> rfl
    simp only [hy]
    subst hw
    cases h2 <;> first
      | (rename_i b _; cases b <;> cases want <;> rfl)
      | rfl

/-! ### What is to be shown of each step -/
def fenceOf : Option Nat → Fence
  | none => Fence.wide
  | some l => Fence.wide.inRound l
theorem fenceOf_fn (ro : Option Nat) (f : FuncId) : (fenceOf ro).fn f := by cases ro <;> trivial
theorem fenceOf_depth (ro : Option Nat) {n : Nat} : (fenceOf ro).depth.isSome = true → 1 ≤ n := by cases ro <;> intro h <;> cases h
theorem fenceOf_round (ro : Option Nat) : (fenceOf ro).round = ro := by cases ro <;> rfl
theorem fenceOf_calls {ro : Option Nat} {n : Nat} {f : FuncId} {args : Array Value} {R : Ending → World → Prop} (h : CallsIn Fence.wide n P f args w R) : CallsIn (fenceOf ro) n P f args w R := by
  cases ro with
  | none => exact h
  | some l => exact h.inRound l

def RdOk (μ : Mu) (rd ro : Option Nat) : Prop := match rd, ro with
  | none, none => True
  | some b, some l => ∃ base tot, μ b = some (l, base, tot)
  | _, _ => False
theorem RdOk.mono {rd ro : Option Nat} (hle : Le im im' μ μ') (h : RdOk μ rd ro) : RdOk μ' rd ro := by
  cases rd <;> cases ro <;> try exact h
  obtain ⟨base, tot, h⟩ := h
  exact ⟨base, tot, hle.2 _ _ h⟩

def XSim (im : IM) (μ : Mu) : AX → Exit → Prop
  | .norm, .normal => True
  | .exit i, .exit j => i = j
  | .ret, .ret => True
  | .pan t v, .panic chain => ∃ v', chain = [{ v := .iface t v', recovered := false }] ∧ SimV im μ v v'
  | _, _ => False

structure After (im : IM) (fx : FX) (μ : Mu) (σ : Heap) (fr' : AF) (σ' : Heap) (a' : Act) (w' : World) (im' : IM) (μ' : Mu) : Prop where
  le : Le im im' μ μ'
  sim : ASim im' fx μ' fr' σ' a' w'
  nxt : σ.next ≤ σ'.next
  fsh : Fresh μ' σ'.next
  low : ∀ b, b < σ.next → μ' b = μ b
  fxo : ∀ c, fx c ≠ none → im' c = im c

def EvSound (P : Program) (ev : Evn) : Prop := ∀ (c : Code) (fr fr' : AF) (σ σ' : Heap) (x : AX), ev c fr σ = some (x, fr', σ') →
  fr'.rd = fr.rd ∧ ∀ (im : IM) (fx : FX) (μ : Mu) (a : Act) (w : World) (ro : Option Nat) (n : Nat) (Q : Exit → Act → World → Prop), ASim im fx μ fr σ a w → Fresh μ σ.next → RdOk μ fr.rd ro →
    (∀ X a' w' im' μ', XSim im' μ' x X → After im fx μ σ fr' σ' a' w' im' μ' → Q X a' w') → c.wpIn (fenceOf ro) n P Q a w

theorem After.refl {fr : AF} {a : Act} (h : ASim im fx μ fr σ a w) (hF : Fresh μ σ.next) : After im fx μ σ fr σ a w im μ := ⟨Le.refl _ _, h, Nat.le_refl _, hF, fun _ _ => rfl, fun _ _ => rfl⟩
theorem After.trans {fr1 fr2 : AF} {σ1 σ2 : Heap} {a1 a2 : Act} {w1 w2 : World} {im1 im2 : IM} {μ1 μ2 : Mu} (h : After im fx μ σ fr1 σ1 a1 w1 im1 μ1) (h' : After im1 fx μ1 σ1 fr2 σ2 a2 w2 im2 μ2) :
    After im fx μ σ fr2 σ2 a2 w2 im2 μ2 :=
  ⟨h.le.trans h'.le, h'.sim, Nat.le_trans h.nxt h'.nxt, h'.fsh, fun b hb => (h'.low b (Nat.lt_of_lt_of_le hb h.nxt)).trans (h.low b hb), fun c hc => (h'.fxo c hc).trans (h.fxo c hc)⟩

/-- What a call's end is to the evaluator's answer. -/
structure CallEnd (im : IM) (fx : FX) (μ : Mu) (σ : Heap) (r : CR) (σ' : Heap) (e : Ending) (w' : World) (im' : IM) (μ' : Mu) : Prop where
  le : Le im im' μ μ'
  wld : WSim im' fx μ' w' σ'
  nxt : σ.next ≤ σ'.next
  fsh : Fresh μ' σ'.next
  low : ∀ b, b < σ.next → μ' b = μ b
  fxo : ∀ c, fx c ≠ none → im' c = im c
  ans : match r, e with
    | .ret v, .returned v' => SimV im' μ' v v'
    | .pan t v, .panicked chain => ∃ v', chain = [{ v := .iface t v', recovered := false }] ∧ SimV im' μ' v v'
    | _, _ => False

def CallOk (P : Program) (ev : Evn) : Prop := ∀ (f : Nat) (args : List AV) (σ σ' : Heap) (r : CR), callF P ev f args σ = some (r, σ') →
  ∀ (im : IM) (fx : FX) (μ : Mu) (args' : Array Value) (w : World) (n : Nat), WSim im fx μ w σ → Fresh μ σ.next → SimL im μ args args'.toList →
    CallsIn Fence.wide n P f args' w fun e w' => ∃ im' μ', CallEnd im fx μ σ r σ' e w' im' μ'

/-- A function that may be called. -/
theorem callF_body {ev : Evn} {f : Nat} {args : List AV} {σ σ' : Heap} {r : CR} (h : callF P ev f args σ = some (r, σ')) : ∃ fn c, P.funcs[f]? = some fn ∧ fn.body = some c := by
  unfold callF at h
  simp only [Option.bind_eq_some_iff] at h
  obtain ⟨fn, hf, c, hc, _⟩ := h
  exact ⟨fn, c, hf, hc⟩

theorem run_callFunc {f : Nat} {fn : Func} {c : Code} (G : Good P C) (hf : P.funcs[f]? = some fn) (hb : fn.body = some c) (args : Array Value) : (callFunc f args).run P w = .ok (.enter f args) w := by
  have hn := G.names f fn hf
  unfold callFunc
  simp [hf, hb, hn]
end Go.Nv
