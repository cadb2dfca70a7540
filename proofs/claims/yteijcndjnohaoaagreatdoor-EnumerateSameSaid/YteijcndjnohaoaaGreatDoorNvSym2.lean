/- The evaluator's steps as equations: calls, closures, stores, loops, regions that draw their order. -/
import Derived.Test.YteijcndjnohaoaaGreatDoorNvSym
set_option linter.all false
set_option linter.unusedVariables false
set_option linter.unusedSimpArgs false
namespace Go.Nv
open Go
variable {P : Program} {C : Cfg} {ev : Evn} {Q : AX → AF → Heap → Prop} {R : OR → Prop}

/-- All calls over a memory of their own. -/
def cfgP (m : Nat → List AV → Option AV) : Cfg := { mode := fun _ => .pure, memo := m, glob := fun _ => none }
theorem cfgP_mode {m : Nat → List AV → Option AV} {f : Nat} : (cfgP m).mode f = .pure := rfl
theorem cfgP_memo {m : Nat → List AV → Option AV} {f : Nat} {as : List AV} : (cfgP m).memo f as = m f as := rfl

def consO : Option AV → Option (List AV) → Option (List AV)
  | some a, some l => some (a :: l)
  | _, _ => none
theorem mapO_nil {α : Type} {f : α → Option AV} : mapO f [] = some [] := rfl
theorem mapO_consO {α : Type} {f : α → Option AV} {x : α} {xs : List α} : mapO f (x :: xs) = consO (f x) (mapO f xs) := by
  simp only [mapO]
  cases f x with
  | none => rfl
  | some a => cases mapO f xs <;> rfl
theorem consO_some {a : AV} {l : List AV} : consO (some a) (some l) = some (a :: l) := rfl

section ops
variable {slot ty : Nat} {lim : Nat → Bool} {ρ : Operand → Option AV} {σ : Heap} {d : Option Tmp} {p : String} {af : Array Edge} {g : Option (Nat × Bool)} {x y : Operand} {t f : Nat}
/-! calls of functions -/
def clM : Mode → Cl
  | .heap | .eat => .loud
  | .same => .pure
  | .pure => .read
  | .fresh => .alloc
theorem cl_call {as : Array Operand} {ts : Array TypeId} : clOf P C ⟨d, .call { callee := .value (.func f), args := as, argTypes := ts }, ty, p, af, g⟩ = clM (C.mode f) := by
  simp only [clOf, clM]
  cases C.mode f <;> rfl
theorem clM_pure : clM .pure = .read := rfl
theorem cl_calltmp {as : Array Operand} {ts : Array TypeId} {u : Tmp} : clOf P C ⟨d, .call { callee := .value (.tmp u), args := as, argTypes := ts }, ty, p, af, g⟩ = .loud := rfl
def callR (P : Program) (C : Cfg) (ev : Evn) (f : Nat) (σ : Heap) (lim : Nat → Bool) : Option (List AV) → Option AV
  | some args => callRead P C ev f args σ lim
  | none => none
theorem callR_some {args : List AV} : callR P C ev f σ lim (some args) = callRead P C ev f args σ lim := rfl
theorem q_call {as : Array Operand} {ts : Array TypeId} (hm : C.mode f = .pure) : quietV P C ev slot lim ρ ⟨d, .call { callee := .value (.func f), args := as, argTypes := ts }, ty, p, af, g⟩ σ = pv (callR P C ev f σ lim (mapO ρ as.toList)) := by
  unfold quietV
  simp only [cl_call, hm, clM, readV]
  cases mapO ρ as.toList with
  | none => rfl
  | some l => simp only [Option.bind_some, callR]; cases callRead P C ev f l σ lim <;> rfl
def crd (P : Program) (C : Cfg) (ev : Evn) (f : Nat) (σ : Heap) (lim : Nat → Bool) (args : List AV) : Bool → Option AV
  | true => callPure P C ev f args
  | false => (mapO (freeze σ lim deep) args).bind fun xs => (callPure P C ev f xs).bind fun v => match isScal deep v with
    | true => some v
    | false => none
def scalO : Option AV → Option AV
  | some v => if isScal deep v = true then some v else none
  | none => none
def frd (P : Program) (C : Cfg) (ev : Evn) (f : Nat) : Option (List AV) → Option AV
  | some xs => scalO (callPure P C ev f xs)
  | none => none
theorem callRead_eq {args : List AV} : callRead P C ev f args σ lim = crd P C ev f σ lim args (args.all (isPure deep)) := by
  unfold callRead crd
  cases args.all (isPure deep) <;> rfl
theorem crd_true {args : List AV} : crd P C ev f σ lim args true = callPure P C ev f args := rfl
theorem crd_false {args : List AV} : crd P C ev f σ lim args false = frd P C ev f (mapO (freeze σ lim deep) args) := by
  simp only [crd]
  cases mapO (freeze σ lim deep) args with
  | none => rfl
  | some xs =>
    simp only [Option.bind_some, frd, scalO]
    cases callPure P C ev f xs with
    | none => rfl
    | some v => simp only [Option.bind_some]; cases isScal deep v <;> rfl
theorem frd_some {xs : List AV} : frd P C ev f (some xs) = scalO (callPure P C ev f xs) := rfl
theorem scalO_bool {b : Bool} : scalO (some (.bool b)) = some (.bool b) := rfl
theorem scalO_int {k : IntKind} {n : Int} : scalO (some (.int k n)) = some (.int k n) := rfl
/-! len -/
def lenOk : Option TypeDesc → Bool
  | some (.slice _) => true
  | some .string => true
  | _ => false
theorem lenOk_s {e : TypeId} : lenOk (some (.slice e)) = true := rfl
theorem lenOk_t : lenOk (some .string) = true := rfl
theorem cl_lenS (hu : lenOk (P.underlying t) = true) : clOf P C ⟨d, .call { callee := .builtin .len, args := #[x], argTypes := #[t] }, ty, p, af, g⟩ = .pure := by
  simp only [clOf]
  cases hq : P.underlying t with
  | none => simp
  | some k =>
    rw [hq] at hu
    cases k <;> first | rfl | cases hu
theorem q_lenS (hu : lenOk (P.underlying t) = true) : quietV P C ev slot lim ρ ⟨d, .call { callee := .builtin .len, args := #[x], argTypes := #[t] }, ty, p, af, g⟩ σ = pv (b1 (lenV P t) (ρ x)) := q_len (cl_lenS hu)
/-! calls of function values -/
def callO (P : Program) (C : Cfg) (ev : Evn) (σ : Heap) : Option AV → Option (List AV) → Option (CR × Heap)
  | some gv, some args => callV P C ev gv args σ
  | _, _ => none
def lO (fr : AF) (d : Option Tmp) : Option (CR × Heap) → Option OR
  | some (.ret v, σ') => some (.ok (fr.put d v) σ')
  | some (.pan t v, σ') => some (.pan t v fr σ')
  | none => none
theorem loud_call {as : Array Operand} {ts : Array TypeId} {u : Tmp} {fr : AF} : loudE P C ev ⟨d, .call { callee := .value (.tmp u), args := as, argTypes := ts }, ty, p, af, g⟩ fr σ = lO fr d (callO P C ev σ (fr.val C (.tmp u)) (mapO (fr.val C) as.toList)) := by
  unfold loudE
  simp only [loudV]
  cases fr.val C (.tmp u) with
  | none => rfl
  | some gv =>
    cases mapO (fr.val C) as.toList with
    | none => rfl
    | some args =>
      simp only [Option.bind_some, callO]
      cases callV P C ev gv args σ with
      | none => rfl
      | some r => obtain ⟨r, σ'⟩ := r; cases r <;> rfl
theorem callO_some {gv : AV} {args : List AV} : callO P C ev σ (some gv) (some args) = callV P C ev gv args σ := rfl
theorem lO_ret {fr : AF} {v : AV} : lO fr d (some (.ret v, σ)) = some (.ok (fr.put d v) σ) := rfl
def cvp (P : Program) (C : Cfg) (ev : Evn) (f : Nat) (σ : Heap) (as : List AV) : Mode → Bool → Option (CR × Heap)
  | .pure, true => (callPure P C ev f as).bind fun v => some (.ret v, σ)
  | .eat, _ => (mapO (freeze σ (fun _ => true) deep) as).bind fun xs => (callPure P C ev f xs).bind fun v => some (.ret v, σ.dels (as.flatMap (reach σ deep)))
  | _, _ => callF P ev f as σ
def retP (σ : Heap) : Option AV → Option (CR × Heap)
  | some v => some (.ret v, σ)
  | none => none
theorem callV_fn {first caps args : List AV} : callV P C ev (.fn f first caps) args σ = cvp P C ev f σ (first ++ args ++ caps) (C.mode f) ((first ++ args ++ caps).all (isPure deep)) := by
  simp only [callV, cvp]
  cases C.mode f <;> cases (first ++ args ++ caps).all (isPure deep) <;> rfl
theorem cvp_pure {as : List AV} : cvp P C ev f σ as .pure true = retP σ (callPure P C ev f as) := by
  simp only [cvp, retP]
  cases callPure P C ev f as <;> rfl
theorem retP_some {v : AV} : retP σ (some v) = some (.ret v, σ) := rfl
/-! closures -/
def mkF (f : Nat) : Option (List AV) → Option (List AV) → Option AV
  | some a, some b => some (.fn f a b)
  | _, _ => none
theorem mkF_some {a b : List AV} : mkF f (some a) (some b) = some (.fn f a b) := rfl
theorem cl_makeFunc {first caps : Array Operand} : clOf P C ⟨d, .makeFunc (.func f) first caps, ty, p, af, g⟩ = .pure := rfl
theorem q_makeFunc {first caps : Array Operand} : quietV P C ev slot lim ρ ⟨d, .makeFunc (.func f) first caps, ty, p, af, g⟩ σ = pv (mkF f (mapO ρ first.toList) (mapO ρ caps.toList)) := by
  unfold quietV; simp only [cl_makeFunc, pureV]
  cases mapO ρ first.toList with
  | none => rfl
  | some a => cases mapO ρ caps.toList <;> rfl
/-! not -/
def notA : AV → Option AV
  | .bool b => some (.bool (!b))
  | _ => none
theorem notA_b {b : Bool} : notA (.bool b) = some (.bool (!b)) := rfl
theorem cl_not : clOf P C ⟨d, .unOp .not t x, ty, p, af, g⟩ = .pure := rfl
theorem q_not : quietV P C ev slot lim ρ ⟨d, .unOp .not t x, ty, p, af, g⟩ σ = pv (b1 notA (ρ x)) := by
  unfold quietV; simp only [cl_not, pureV]
  cases ρ x with
  | none => rfl
  | some v =>
    cases v <;> first | rfl | (rename_i b; cases b <;> rfl)
/-! stores -/
def stB (b o : Nat) (v : AV) (n : Nat) : Option ABlk → Option (AV × Option (Nat × ABlk))
  | some (.cells ty u cs) => if v.cells.length = n ∧ o + n ≤ cs.length ∧ v.cells.all AV.oneC = true then some (undefA, some (b, .cells ty u (setSeg cs o v.cells))) else none
  | _ => none
def st3 (lim : Nat → Bool) (σ : Heap) : Option AV → Option AV → Option Nat → Option (AV × Option (Nat × ABlk))
  | some (.ptr b o), some v, some n => stB b o v n (getLim σ lim b)
  | _, _, _ => none
theorem st3_some {b o n : Nat} {v : AV} : st3 lim σ (some (.ptr b o)) (some v) (some n) = stB b o v n (getLim σ lim b) := rfl
theorem stB_some {b o n : Nat} {v : AV} {e : Nat} {u : Bool} {cs : List AV} : stB b o v n (some (.cells e u cs)) = if v.cells.length = n ∧ o + n ≤ cs.length ∧ v.cells.all AV.oneC = true then some (undefA, some (b, .cells e u (setSeg cs o v.cells))) else none := rfl
theorem cl_store : clOf P C ⟨d, .store t x y, ty, p, af, g⟩ = .st := rfl
theorem q_store : quietV P C ev slot lim ρ ⟨d, .store t x y, ty, p, af, g⟩ σ = st3 lim σ (ρ x) (ρ y) (tSize P t) := by
  unfold quietV; simp only [cl_store, storeV]
  cases ρ x with
  | none => cases ρ y <;> cases tSize P t <;> rfl
  | some a =>
    cases ρ y with
    | none => cases a <;> cases tSize P t <;> rfl
    | some v =>
      cases tSize P t with
      | none => cases a <;> rfl
      | some n =>
        cases a <;> try rfl
        rename_i b o
        simp only [Option.bind_some, st3]
        unfold stB
        cases getLim σ lim b with
        | none => rfl
        | some k =>
          cases k <;> try rfl
          rename_i e u cs
          simp only
          cases h1 : Nat.beq v.cells.length n
          · rw [if_neg (fun h => by rw [h.1, Nat.beq_refl] at h1; cases h1)]; rfl
          · cases h2 : Nat.ble (o + n) cs.length
            · rw [if_neg (fun h => by rw [Nat.ble_eq_true_of_le h.2.1] at h2; cases h2)]; rfl
            · cases h3 : v.cells.all AV.oneC
              · rw [if_neg (fun h => by cases h.2.2)]; rfl
              · rw [if_pos ⟨Nat.eq_of_beq_eq_true h1, Nat.le_of_ble_eq_true h2, rfl⟩]; rfl
theorem oneC_int {k : IntKind} {n : Int} : AV.oneC (.int k n) = true := rfl
theorem oneC_bool {b : Bool} : AV.oneC (.bool b) = true := rfl
theorem oneC_str {s : List UInt8} : AV.oneC (.str s) = true := rfl
theorem oneC_fn {a b : List AV} : AV.oneC (.fn f a b) = true := rfl
theorem Sl.oneC {sz : Nat} {a : AV} {L : List (List AV)} (h : Sl sz a L) : AV.oneC a = true := by cases h <;> rfl
theorem Sl.cells {sz : Nat} {a : AV} {L : List (List AV)} (h : Sl sz a L) : AV.cells a = [a] := by cases h <;> rfl
theorem setSeg_eq {l : List AV} {o : Nat} {vs : List AV} : setSeg l o vs = l.take o ++ (vs ++ l.drop (o + vs.length)) := rfl
end ops

/-! ### What is immutable; what is made so -/
section pure
variable {dd f : Nat} {σ : Heap} {lim : Nat → Bool}
theorem deep_eq : deep = 12 := rfl
theorem isPure_agg {cs : List AV} : isPure (dd + 1) (.agg cs) = cs.all (isPure dd) := rfl
theorem isPure_int {k : IntKind} {n : Int} : isPure (dd + 1) (.int k n) = true := rfl
theorem isPure_bool {b : Bool} : isPure (dd + 1) (.bool b) = true := rfl
theorem isPure_str {s : List UInt8} : isPure (dd + 1) (.str s) = true := rfl
theorem isPure_pptr {cs : List AV} : isPure (dd + 1) (.pptr cs) = true := rfl
theorem isPure_snil : isPure (dd + 1) .snil = true := rfl
theorem isPure_psl {n s : Nat} {cs : List AV} : isPure (dd + 1) (.psl n s cs) = true := rfl
theorem isPure_ptr {b o : Nat} : isPure (dd + 1) (.ptr b o) = false := rfl
theorem isPure_sref {b o n s : Nat} : isPure (dd + 1) (.sref b o n s) = false := rfl
theorem isPure_fn {a b : List AV} : isPure (dd + 1) (.fn f a b) = (a.all (isPure dd) && b.all (isPure dd)) := rfl
def pptrO : Option (List AV) → Option AV
  | some xs => some (.pptr xs)
  | none => none
def frzB (σ : Heap) (lim : Nat → Bool) (d o : Nat) : Bool → Option ABlk → Option AV
  | true, some (.cells _ _ cs) => if o ≤ cs.length then pptrO (mapO (freeze σ lim d) (cs.drop o)) else none
  | _, _ => none
theorem freeze_ptr {b o : Nat} : freeze σ lim (dd + 1) (.ptr b o) = frzB σ lim dd o (lim b) (σ.get b) := by
  simp only [freeze, frzB]
  cases lim b with
  | false => cases σ.get b <;> rfl
  | true =>
    cases σ.get b with
    | none => rfl
    | some k =>
      cases k <;> try rfl
      rename_i e u cs
      simp only
      cases h : Nat.ble o cs.length
      · rw [if_neg (fun h' => by rw [Nat.ble_eq_true_of_le h'] at h; cases h)]
      · rw [if_pos (Nat.le_of_ble_eq_true h)]
        cases mapO (freeze σ lim dd) (cs.drop o) <;> rfl
theorem frzB_some {o e : Nat} {u : Bool} {cs : List AV} : frzB σ lim dd o true (some (.cells e u cs)) = if o ≤ cs.length then pptrO (mapO (freeze σ lim dd) (cs.drop o)) else none := rfl
theorem pptrO_some {xs : List AV} : pptrO (some xs) = some (.pptr xs) := rfl
theorem freeze_int {k : IntKind} {n : Int} : freeze σ lim (dd + 1) (.int k n) = some (.int k n) := rfl
theorem freeze_bool {b : Bool} : freeze σ lim (dd + 1) (.bool b) = some (.bool b) := rfl
theorem freeze_str {s : List UInt8} : freeze σ lim (dd + 1) (.str s) = some (.str s) := rfl
theorem freeze_pptr {cs : List AV} : freeze σ lim (dd + 1) (.pptr cs) = some (.pptr cs) := rfl
theorem freeze_snil : freeze σ lim (dd + 1) .snil = some .snil := rfl
theorem freeze_psl {n s : Nat} {cs : List AV} : freeze σ lim (dd + 1) (.psl n s cs) = some (.psl n s cs) := rfl
def aggO : Option (List AV) → Option AV
  | some xs => some (.agg xs)
  | none => none
theorem aggO_some {xs : List AV} : aggO (some xs) = some (.agg xs) := rfl
theorem freeze_agg {cs : List AV} : freeze σ lim (dd + 1) (.agg cs) = aggO (mapO (freeze σ lim dd) cs) := by
  simp only [freeze]
  cases mapO (freeze σ lim dd) cs <;> rfl
def tupO : Option (List AV) → Option AV
  | some xs => some (.tup xs)
  | none => none
theorem tupO_some {xs : List AV} : tupO (some xs) = some (.tup xs) := rfl
theorem freeze_tup {cs : List AV} : freeze σ lim (dd + 1) (.tup cs) = tupO (mapO (freeze σ lim dd) cs) := by
  simp only [freeze]
  cases mapO (freeze σ lim dd) cs <;> rfl
theorem freeze_fn {a b : List AV} : freeze σ lim (dd + 1) (.fn f a b) = mkF f (mapO (freeze σ lim dd) a) (mapO (freeze σ lim dd) b) := by
  simp only [freeze]
  cases mapO (freeze σ lim dd) a with
  | none => rfl
  | some x => cases mapO (freeze σ lim dd) b <;> rfl
theorem Sl.freeze {sz : Nat} {a : AV} {L : List (List AV)} (h : Sl sz a L) : Nv.freeze σ lim (dd + 1) a = some a := by cases h <;> rfl
end pure

/-! ### A call over a memory of its own -/
theorem callPure_of {n f : Nat} {args : List AV} {v : AV} (hm : C.memo f args = none) (h : CQ P C n f args .empty fun r σ => ∃ u, r = .ret u ∧ freeze σ (fun _ => true) deep u = some v) : callPure P C (run P C n) f args = some v := by
  obtain ⟨r, σ', h1, u, rfl, h2⟩ := h.out
  simp only [callPure, hm, h1, Option.bind_some]
  exact h2

/-! ### Loops -/
def loopQ (I : Nat → AF → Heap → Prop) (j : Nat) (Q : AX → AF → Heap → Prop) : AX → AF → Heap → Prop := fun x fr σ => match x with
  | .norm => ∃ i, i < j ∧ I i fr σ
  | x => Q x fr σ
theorem loopQ_norm {I : Nat → AF → Heap → Prop} {j : Nat} {fr : AF} {σ : Heap} : loopQ I j Q .norm fr σ = ∃ i, i < j ∧ I i fr σ := rfl
theorem loop_next {I : Nat → AF → Heap → Prop} {j : Nat} {fr : AF} {σ : Heap} (i : Nat) (hi : i < j) (h : I i fr σ) : loopQ I j Q .norm fr σ := ⟨i, hi, h⟩
theorem loopQ_ret {I : Nat → AF → Heap → Prop} {j : Nat} {fr : AF} {σ : Heap} : loopQ I j Q .ret fr σ = Q .ret fr σ := rfl
theorem loopQ_exit {I : Nat → AF → Heap → Prop} {j k : Nat} {fr : AF} {σ : Heap} : loopQ I j Q (.exit k) fr σ = Q (.exit k) fr σ := rfl
theorem loopQ_pan {I : Nat → AF → Heap → Prop} {j t : Nat} {v : AV} {fr : AF} {σ : Heap} : loopQ I j Q (.pan t v) fr σ = Q (.pan t v) fr σ := rfl
theorem W_loop {n k : Nat} {b : Code} {fr : AF} {σ : Heap} (I : Nat → AF → Heap → Prop) (hk : k < n) (h0 : I k fr σ) (hs : ∀ j fr σ, I j fr σ → W P C n b fr σ (loopQ I j Q)) : W P C (n + 1) (.loop b) fr σ Q := by
  have key : ∀ (m j : Nat) (fr : AF) (σ : Heap), j < m → I j fr σ → Out Q (loopA (run P C n) b m fr σ) := by
    intro m
    induction m with
    | zero => intro j fr σ h _; exact absurd h (Nat.not_lt_zero _)
    | succ m ih =>
      intro j fr σ hj hI
      obtain ⟨x, fr', σ', h1, h2⟩ := (hs j fr σ hI).out
      simp only [loopA, h1, Option.bind_some]
      cases x with
      | norm =>
        obtain ⟨i, hi, hI'⟩ := h2
        exact ih i fr' σ' (by omega) hI'
      | _ => exact h2
  exact key n k fr σ hk h0

/-! ### Regions that draw their order -/
def WD (P : Program) (C : Cfg) (ev : Evn) (ops : Array Oper) (base : Nat) (ps : List (Nat × Nat)) (log : List Foot) (i : Nat) (l : List Oper) (fr : AF) (σ : Heap) (Q : AX → AF → Heap → Prop) : Prop :=
  match aopsD P C ev ops base i l fr σ with
  | some (l', fr', σ') => pairsOk (log.reverse ++ l') ps = true ∧ Q .norm fr' σ'
  | none => False
def WDX (P : Program) (C : Cfg) (ev : Evn) (ops : Array Oper) (base : Nat) (ps : List (Nat × Nat)) (log : List Foot) (i : Nat) (l : List Oper) (Q : AX → AF → Heap → Prop) : Option (Foot × AF × Heap) → Prop
  | some (f, fr, σ) => WD P C ev ops base ps (f :: log) i l fr σ Q
  | none => False
section draw
variable {ops : Array Oper} {base i : Nat} {ps : List (Nat × Nat)} {log : List Foot} {l : List Oper} {fr : AF} {σ : Heap} {o : Oper}
theorem WD_nil : WD P C ev ops base ps log i [] fr σ Q = (pairsOk log.reverse ps = true ∧ Q .norm fr σ) := by
  simp [WD, aopsD]
theorem WD_cons : WD P C ev ops base ps log i (o :: l) fr σ Q = WDX P C ev ops base ps log (i + 1) l Q (aopD P C ev ops base i o fr σ) := by
  unfold WDX WD
  simp only [aopsD]
  cases aopD P C ev ops base i o fr σ with
  | none => rfl
  | some r =>
    obtain ⟨f, fr', σ'⟩ := r
    simp only [Option.bind_some]
    cases aopsD P C ev ops base (i + 1) l fr' σ' with
    | none => rfl
    | some q => obtain ⟨l', fr2, σ2⟩ := q; simp
theorem WDX_some {f : Foot} : WDX P C ev ops base ps log i l Q (some (f, fr, σ)) = WD P C ev ops base ps (f :: log) i l fr σ Q := rfl
theorem pairsOk_nil {log : List Foot} : pairsOk log [] = true := rfl
theorem W_draw {n id : Nat} (ps : List (Nat × Nat)) (hb : backs 0 ops.toList = true) (hp : openPairs P C ops = some ps) (h : WD P C (run P C n) ops σ.next ps [] 0 ops.toList fr (σ.bump ops.size) Q) : W P C (n + 1) (.region id ops true) fr σ Q := by
  unfold WD at h
  unfold W
  simp only [run, step, regionA, hb, hp, Option.bind_some]
  cases ha : aopsD P C (run P C n) ops σ.next 0 ops.toList fr (σ.bump ops.size) with
  | none => rw [ha] at h; exact h.elim
  | some r =>
    obtain ⟨l', fr', σ'⟩ := r
    rw [ha] at h
    simp only [List.reverse_nil, List.nil_append] at h
    simp only [Option.bind_some, h.1]
    exact h.2
def okD (f : Foot) (fr : AF) (d : Option Tmp) (σ : Heap) : Option (AV × Option (Nat × ABlk)) → Option (Foot × AF × Heap)
  | some (v, e) => some (f, fr.put d v, eff σ e)
  | none => none
theorem okD_some {f : Foot} {d : Option Tmp} {v : AV} {e : Option (Nat × ABlk)} : okD f fr d σ (some (v, e)) = some (f, fr.put d v, eff σ e) := rfl
def aopDC (P : Program) (C : Cfg) (ev : Evn) (slot : Nat) (lim : Nat → Bool) (o : Oper) (fr : AF) (σ : Heap) : Cl → Option (Foot × AF × Heap)
  | .loud => (loudE P C ev o fr σ).bind fun r => (match r with
        | .ok fr' σ' => some (.chg σ σ', fr', σ')
        | .pan _ _ _ _ => none)
  | .pure => okD .nil fr o.dst σ (quietV P C ev slot lim (fr.val C) o σ)
  | _ => okD (footA lim (fr.val C) o σ) fr o.dst σ (quietV P C ev slot lim (fr.val C) o σ)
def aopDG (P : Program) (C : Cfg) (ev : Evn) (slot : Nat) (lim : Nat → Bool) (o : Oper) (fr : AF) (σ : Heap) : Bool → Option Bool → Option (Foot × AF × Heap)
  | true, some true => aopDC P C ev slot lim o fr σ (clOf P C o)
  | true, some false => some (.nil, fr.put o.dst undefA, σ)
  | _, _ => none
theorem aopD_eq : aopD P C ev ops base i o fr σ = aopDG P C ev (base + i) (limD ops base i) o fr σ (dstOk o fr.sz) (wantedA ops o fr.tmps) := by
  unfold aopD aopDG
  cases dstOk o fr.sz with
  | false => cases wantedA ops o fr.tmps <;> rfl
  | true =>
    cases wantedA ops o fr.tmps with
    | none => rfl
    | some w =>
      cases w with
      | false => rfl
      | true =>
        simp only [Option.bind_some]
        unfold aopDC
        cases clOf P C o <;> try rfl
        all_goals (cases quietV P C ev (base + i) (limD ops base i) (fr.val C) o σ <;> rfl)
variable {slot : Nat} {lim : Nat → Bool}
theorem aopDG_true : aopDG P C ev slot lim o fr σ true (some true) = aopDC P C ev slot lim o fr σ (clOf P C o) := rfl
theorem aopDG_false : aopDG P C ev slot lim o fr σ true (some false) = some (.nil, fr.put o.dst undefA, σ) := rfl
theorem WDX_split {b : Bool} (h1 : b = true → WDX P C ev ops base ps log i l Q (aopDG P C ev slot lim o fr σ true (some true))) (h2 : b = false → WDX P C ev ops base ps log i l Q (aopDG P C ev slot lim o fr σ true (some false))) :
    WDX P C ev ops base ps log i l Q (aopDG P C ev slot lim o fr σ true (some b)) := by
  cases b
  · exact h2 rfl
  · exact h1 rfl
theorem aopDC_pure : aopDC P C ev slot lim o fr σ .pure = okD .nil fr o.dst σ (quietV P C ev slot lim (fr.val C) o σ) := rfl
theorem aopDC_read : aopDC P C ev slot lim o fr σ .read = okD (footA lim (fr.val C) o σ) fr o.dst σ (quietV P C ev slot lim (fr.val C) o σ) := rfl
theorem aopDC_alloc : aopDC P C ev slot lim o fr σ .alloc = okD (footA lim (fr.val C) o σ) fr o.dst σ (quietV P C ev slot lim (fr.val C) o σ) := rfl
theorem aopDC_st : aopDC P C ev slot lim o fr σ .st = okD (footA lim (fr.val C) o σ) fr o.dst σ (quietV P C ev slot lim (fr.val C) o σ) := rfl
theorem limD_old {b : Nat} (h : b < base) : limD ops base i b = true := by
  have : Nat.blt b base = true := by unfold Nat.blt; exact Nat.ble_eq_true_of_le h
  simp [limD, this]
theorem getLim_old {b : Nat} (h : b < base) : getLim σ (limD ops base i) b = σ.get b := by simp [getLim, limD_old h]
end draw

/-- The steps, all in one. -/
theorem nvS : type_of% @q_call ∧ type_of% @cl_lenS ∧ type_of% @lenOk_s ∧ type_of% @q_lenS ∧ type_of% @lenOk_t ∧ type_of% @cfgP_mode ∧ type_of% @cfgP_memo ∧ type_of% @consO_some ∧ type_of% @cl_call ∧ type_of% @clM_pure ∧ type_of% @cl_calltmp ∧ type_of% @callR_some ∧ type_of% @callRead_eq ∧ type_of% @crd_true ∧ type_of% @crd_false ∧ type_of% @frd_some ∧ type_of% @scalO_bool ∧ type_of% @scalO_int ∧
  type_of% @loud_call ∧ type_of% @callO_some ∧ type_of% @lO_ret ∧ type_of% @callV_fn ∧ type_of% @cvp_pure ∧ type_of% @retP_some ∧ type_of% @mkF_some ∧ type_of% @cl_makeFunc ∧ type_of% @q_makeFunc ∧ type_of% @notA_b ∧ type_of% @cl_not ∧ type_of% @q_not ∧ type_of% @st3_some ∧ type_of% @stB_some ∧ type_of% @cl_store ∧ type_of% @q_store ∧
  type_of% @oneC_int ∧ type_of% @oneC_bool ∧ type_of% @oneC_str ∧ type_of% @oneC_fn ∧ type_of% @setSeg_eq ∧ type_of% @deep_eq ∧ type_of% @isPure_agg ∧ type_of% @isPure_int ∧ type_of% @isPure_bool ∧ type_of% @isPure_str ∧ type_of% @isPure_pptr ∧ type_of% @isPure_snil ∧ type_of% @isPure_psl ∧ type_of% @isPure_ptr ∧ type_of% @isPure_sref ∧ type_of% @isPure_fn ∧
  type_of% @freeze_ptr ∧ type_of% @frzB_some ∧ type_of% @pptrO_some ∧ type_of% @freeze_int ∧ type_of% @freeze_bool ∧ type_of% @freeze_str ∧ type_of% @freeze_pptr ∧ type_of% @freeze_snil ∧ type_of% @freeze_psl ∧ type_of% @aggO_some ∧ type_of% @freeze_agg ∧ type_of% @tupO_some ∧ type_of% @freeze_tup ∧ type_of% @freeze_fn ∧
  type_of% @loopQ_ret ∧ type_of% @loopQ_exit ∧ type_of% @loopQ_pan ∧ type_of% @WD_nil ∧ type_of% @WD_cons ∧ type_of% @WDX_some ∧ type_of% @pairsOk_nil ∧ type_of% @okD_some ∧ type_of% @aopD_eq ∧ type_of% @aopDG_true ∧ type_of% @aopDG_false ∧ type_of% @aopDC_pure ∧ type_of% @aopDC_read ∧ type_of% @aopDC_alloc ∧ type_of% @aopDC_st :=
  ⟨@q_call, @cl_lenS, @lenOk_s, @q_lenS, @lenOk_t, @cfgP_mode, @cfgP_memo, @consO_some, @cl_call, @clM_pure, @cl_calltmp, @callR_some, @callRead_eq, @crd_true, @crd_false, @frd_some, @scalO_bool, @scalO_int,
  @loud_call, @callO_some, @lO_ret, @callV_fn, @cvp_pure, @retP_some, @mkF_some, @cl_makeFunc, @q_makeFunc, @notA_b, @cl_not, @q_not, @st3_some, @stB_some, @cl_store, @q_store,
  @oneC_int, @oneC_bool, @oneC_str, @oneC_fn, @setSeg_eq, @deep_eq, @isPure_agg, @isPure_int, @isPure_bool, @isPure_str, @isPure_pptr, @isPure_snil, @isPure_psl, @isPure_ptr, @isPure_sref, @isPure_fn,
  @freeze_ptr, @frzB_some, @pptrO_some, @freeze_int, @freeze_bool, @freeze_str, @freeze_pptr, @freeze_snil, @freeze_psl, @aggO_some, @freeze_agg, @tupO_some, @freeze_tup, @freeze_fn,
  @loopQ_ret, @loopQ_exit, @loopQ_pan, @WD_nil, @WD_cons, @WDX_some, @pairsOk_nil, @okD_some, @aopD_eq, @aopDG_true, @aopDG_false, @aopDC_pure, @aopDC_read, @aopDC_alloc, @aopDC_st⟩
/-- Plain lists. -/
theorem nvL : (∀ l : List AV, l.drop 0 = l) ∧ (∀ (x : AV) l n, (x :: l).drop (n + 1) = l.drop n) ∧ (∀ n, ([] : List AV).drop n = []) ∧ (∀ l : List AV, l.take 0 = []) ∧ (∀ (x : AV) l n, (x :: l).take (n + 1) = x :: l.take n) ∧ (∀ n, ([] : List AV).take n = []) ∧
  (∀ (x : AV) l, (x :: l).head? = some x) ∧ (∀ (x : AV) l, (x :: l).length = l.length + 1) ∧ ([] : List AV).length = 0 ∧ (∀ l : List AV, l ++ [] = l) ∧ (∀ l : List AV, [] ++ l = l) ∧ (∀ (x : AV) l m, (x :: l) ++ m = x :: (l ++ m)) ∧ (∀ q, ([] : List AV).all q = true) ∧ (∀ (x : AV) l q, (x :: l).all q = (q x && l.all q)) ∧
  (∀ (x : AV) l q, mapO q (x :: l) = consO (q x) (mapO q l)) ∧ (∀ q : AV → Option AV, mapO q [] = some []) ∧ (∀ (x : Operand) l q, mapO q (x :: l) = consO (q x) (mapO q l)) ∧ (∀ q : Operand → Option AV, mapO q [] = some []) ∧
  (∀ (l : List Oper) (n : Nat), l.toArray[n]? = l[n]?) ∧ (∀ (x : Oper) (l : List Oper) (n : Nat), (x :: l)[n + 1]? = l[n]?) ∧ (∀ (x : Oper) (l : List Oper), (x :: l)[0]? = some x) ∧ (∀ l : List Oper, l.toArray.size = l.length) ∧ (∀ (x : Oper) l, (x :: l).length = l.length + 1) ∧ ([] : List Oper).length = 0 ∧
  (∀ (q : Oper → Option Tmp) x, Option.map q (some x) = some (q x)) ∧ (∀ b : Bool, (b == true) = b) ∧ (∀ b : Bool, (b == false) = !b) ∧ (∀ n : Nat, n + 0 = n) ∧ (∀ n : Nat, 0 + n = n) ∧ (!true) = false ∧ (!false) = true ∧ (∀ b, (true && b) = b) ∧ (∀ b, (false && b) = false) ∧ (∀ b, (b && true) = b) ∧ (∀ b, (b && false) = false) :=
  ⟨fun _ => rfl, fun _ _ _ => rfl, fun n => by cases n <;> rfl, fun _ => rfl, fun _ _ _ => rfl, fun n => by cases n <;> rfl, fun _ _ => rfl, fun _ _ => rfl, rfl, fun _ => by simp, fun _ => rfl, fun _ _ _ => rfl, fun _ => rfl, fun _ _ _ => rfl,
   fun _ _ _ => mapO_consO, fun _ => rfl, fun _ _ _ => mapO_consO, fun _ => rfl, fun _ _ => by simp, fun _ _ _ => by simp, fun _ _ => by simp, fun _ => by simp, fun _ _ => rfl, rfl, fun _ _ => rfl, fun b => by cases b <;> rfl, fun b => by cases b <;> rfl, fun _ => rfl, fun n => Nat.zero_add n, rfl, rfl, fun _ => rfl, fun _ => rfl, fun b => by cases b <;> rfl, fun b => by cases b <;> rfl⟩
end Go.Nv
