/- The evaluator on arguments that are not constants: its steps as equations for 'simp', whatever the program. -/
import Derived.Test.YteijcndjnohaoaaGreatDoorNvMemo
set_option linter.all false
set_option linter.unusedVariables false
set_option linter.unusedSimpArgs false
namespace Go.Nv
open Go
variable {P : Program} {C : Cfg} {ev : Evn} {Q : AX → AF → Heap → Prop} {R : OR → Prop}

/-- A run ends, and so. -/
def Out (Q : AX → AF → Heap → Prop) : Option (AX × AF × Heap) → Prop
  | some (x, fr, σ) => Q x fr σ
  | none => False
def W (P : Program) (C : Cfg) (n : Nat) (c : Code) (fr : AF) (σ : Heap) (Q : AX → AF → Heap → Prop) : Prop := Out Q (run P C n c fr σ)
def OutR (R : OR → Prop) : Option OR → Prop
  | some r => R r
  | none => False
theorem W.out {n : Nat} {c : Code} {fr : AF} {σ : Heap} {Q : AX → AF → Heap → Prop} (h : W P C n c fr σ Q) : ∃ x fr' σ', run P C n c fr σ = some (x, fr', σ') ∧ Q x fr' σ' := by
  unfold W at h
  cases hr : run P C n c fr σ with
  | none => rw [hr] at h; exact h.elim
  | some r => obtain ⟨x, fr', σ'⟩ := r; rw [hr] at h; exact ⟨x, fr', σ', rfl, h⟩
theorem W.of {n : Nat} {c : Code} {fr : AF} {σ : Heap} {Q : AX → AF → Heap → Prop} {x : AX} {fr' : AF} {σ' : Heap} (h : run P C n c fr σ = some (x, fr', σ')) (hq : Q x fr' σ') : W P C n c fr σ Q := by
  unfold W; rw [h]; exact hq
/-- Operations end, and so. -/
def WO (P : Program) (C : Cfg) (ev : Evn) (ops : Array Oper) (base i : Nat) (l : List Oper) (fr : AF) (σ : Heap) (R : OR → Prop) : Prop := OutR R (aops P C ev ops base i l fr σ)
def WX (P : Program) (C : Cfg) (ev : Evn) (ops : Array Oper) (base i : Nat) (l : List Oper) (R : OR → Prop) (r : Option OR) : Prop := match r with
  | some (.ok fr σ) => WO P C ev ops base i l fr σ R
  | some (.pan t v fr σ) => R (.pan t v fr σ)
  | none => False

theorem W.mono {n : Nat} {c : Code} {fr : AF} {σ : Heap} {Q Q' : AX → AF → Heap → Prop} (h : W P C n c fr σ Q) (hq : ∀ x fr' σ', Q x fr' σ' → Q' x fr' σ') : W P C n c fr σ Q' :=
  let ⟨_, _, _, h1, h2⟩ := h.out; W.of h1 (hq _ _ _ h2)

theorem WO_nil {ops : Array Oper} {base i : Nat} {fr : AF} {σ : Heap} : WO P C ev ops base i [] fr σ R = R (.ok fr σ) := rfl
theorem WO_cons {ops : Array Oper} {base i : Nat} {o : Oper} {l : List Oper} {fr : AF} {σ : Heap} : WO P C ev ops base i (o :: l) fr σ R = WX P C ev ops base (i + 1) l R (aop P C ev ops base i o fr σ) := by
  unfold WO WX
  simp only [aops]
  cases aop P C ev ops base i o fr σ with
  | none => rfl
  | some r => cases r <;> rfl
theorem WX_ok {ops : Array Oper} {base i : Nat} {l : List Oper} {fr : AF} {σ : Heap} : WX P C ev ops base i l R (some (.ok fr σ)) = WO P C ev ops base i l fr σ R := rfl
theorem WX_pan {ops : Array Oper} {base i : Nat} {l : List Oper} {t : Nat} {v : AV} {fr : AF} {σ : Heap} : WX P C ev ops base i l R (some (.pan t v fr σ)) = R (.pan t v fr σ) := rfl

def regQ (Q : AX → AF → Heap → Prop) : OR → Prop
  | .ok fr σ => Q .norm fr σ
  | .pan t v fr σ => Q (.pan t v) fr σ
def seqQ (P : Program) (C : Cfg) (n : Nat) (b : Code) (Q : AX → AF → Heap → Prop) : AX → AF → Heap → Prop := fun x fr σ => match x with
  | .norm => W P C n b fr σ Q
  | x => Q x fr σ
def blkQ (id : Nat) (Q : AX → AF → Heap → Prop) : AX → AF → Heap → Prop := fun x fr σ => match x with
  | .exit k => (match Nat.beq k id with | true => Q .norm fr σ | false => Q (.exit k) fr σ)
  | x => Q x fr σ
theorem regQ_ok {fr : AF} {σ : Heap} : regQ Q (.ok fr σ) = Q .norm fr σ := rfl
theorem regQ_pan {t : Nat} {v : AV} {fr : AF} {σ : Heap} : regQ Q (.pan t v fr σ) = Q (.pan t v) fr σ := rfl
theorem seqQ_norm {n : Nat} {b : Code} {fr : AF} {σ : Heap} : seqQ P C n b Q .norm fr σ = W P C n b fr σ Q := rfl
theorem seqQ_ret {n : Nat} {b : Code} {fr : AF} {σ : Heap} : seqQ P C n b Q .ret fr σ = Q .ret fr σ := rfl
theorem seqQ_exit {n k : Nat} {b : Code} {fr : AF} {σ : Heap} : seqQ P C n b Q (.exit k) fr σ = Q (.exit k) fr σ := rfl
theorem seqQ_pan {n t : Nat} {v : AV} {b : Code} {fr : AF} {σ : Heap} : seqQ P C n b Q (.pan t v) fr σ = Q (.pan t v) fr σ := rfl
theorem blkQ_norm {id : Nat} {fr : AF} {σ : Heap} : blkQ id Q .norm fr σ = Q .norm fr σ := rfl
theorem blkQ_ret {id : Nat} {fr : AF} {σ : Heap} : blkQ id Q .ret fr σ = Q .ret fr σ := rfl
theorem blkQ_pan {id t : Nat} {v : AV} {fr : AF} {σ : Heap} : blkQ id Q (.pan t v) fr σ = Q (.pan t v) fr σ := rfl
theorem blkQ_exit {id k : Nat} {fr : AF} {σ : Heap} : blkQ id Q (.exit k) fr σ = if k = id then Q .norm fr σ else Q (.exit k) fr σ := by
  unfold blkQ
  by_cases h : k = id
  · subst h; simp
  · have : Nat.beq k id = false := by
      cases hb : Nat.beq k id
      · rfl
      · exact absurd (Nat.eq_of_beq_eq_true hb) h
    simp [this, h]

theorem W_skip {n : Nat} {fr : AF} {σ : Heap} : W P C (n + 1) .skip fr σ Q = Q .norm fr σ := rfl
theorem W_exit {n id : Nat} {fr : AF} {σ : Heap} : W P C (n + 1) (.exit id) fr σ Q = Q (.exit id) fr σ := rfl
theorem W_ret {n : Nat} {fr : AF} {σ : Heap} : W P C (n + 1) .ret fr σ Q = Q .ret fr σ := rfl
theorem W_region {n id : Nat} {ops : Array Oper} {fr : AF} {σ : Heap} : W P C (n + 1) (.region id ops false) fr σ Q = WO P C (run P C n) ops σ.next 0 ops.toList fr (σ.bump ops.size) (regQ Q) := by
  unfold W WO
  simp only [run, step, regionA]
  cases aops P C (run P C n) ops σ.next 0 ops.toList fr (σ.bump ops.size) with
  | none => rfl
  | some r => cases r <;> rfl
theorem W_seq {n : Nat} {a b : Code} {fr : AF} {σ : Heap} : W P C (n + 1) (.seq a b) fr σ Q = W P C n a fr σ (seqQ P C n b Q) := by
  unfold W
  simp only [run, step]
  cases run P C n a fr σ with
  | none => rfl
  | some r =>
    obtain ⟨x, fr1, σ1⟩ := r
    cases x <;> rfl
theorem W_block {n id : Nat} {b : Code} {fr : AF} {σ : Heap} : W P C (n + 1) (.block id b) fr σ Q = W P C n b fr σ (blkQ id Q) := by
  unfold W
  simp only [run, step]
  cases run P C n b fr σ with
  | none => rfl
  | some r =>
    obtain ⟨x, fr1, σ1⟩ := r
    cases x with
    | exit k =>
      simp only [Option.bind_some, Out, blkQ]
      cases hk : Nat.beq k id <;> rfl
    | _ => rfl
def condW (P : Program) (C : Cfg) (n : Nat) (a b : Code) (fr : AF) (σ : Heap) (Q : AX → AF → Heap → Prop) : Option AV → Prop
  | some (.bool true) => W P C n a fr σ Q
  | some (.bool false) => W P C n b fr σ Q
  | _ => False
theorem W_cond {n : Nat} {c : Operand} {a b : Code} {fr : AF} {σ : Heap} : W P C (n + 1) (.cond c a b) fr σ Q = condW P C n a b fr σ Q (fr.val C c) := by
  unfold W condW
  simp only [run, step]
  cases fr.val C c with
  | none => rfl
  | some v =>
    cases v <;> try rfl
    rename_i b
    cases b <;> rfl
theorem condW_true {n : Nat} {a b : Code} {fr : AF} {σ : Heap} : condW P C n a b fr σ Q (some (.bool true)) = W P C n a fr σ Q := rfl
theorem condW_false {n : Nat} {a b : Code} {fr : AF} {σ : Heap} : condW P C n a b fr σ Q (some (.bool false)) = W P C n b fr σ Q := rfl

/-! ### One operation -/
def okO (fr : AF) (d : Option Tmp) (σ : Heap) : Option (AV × Option (Nat × ABlk)) → Option OR
  | some (v, e) => some (.ok (fr.put d v) (eff σ e))
  | none => none
def aopC (P : Program) (C : Cfg) (ev : Evn) (slot : Nat) (o : Oper) (fr : AF) (σ : Heap) : Cl → Option OR
  | .loud => loudE P C ev o fr σ
  | _ => okO fr o.dst σ (quietV P C ev slot (fun _ => true) (fr.val C) o σ)
def aopG (P : Program) (C : Cfg) (ev : Evn) (slot : Nat) (o : Oper) (fr : AF) (σ : Heap) : Bool → Option Bool → Option OR
  | true, some true => aopC P C ev slot o fr σ (clOf P C o)
  | true, some false => some (.ok (fr.put o.dst undefA) σ)
  | _, _ => none
theorem aop_eq {ops : Array Oper} {base i : Nat} {o : Oper} {fr : AF} {σ : Heap} : aop P C ev ops base i o fr σ = aopG P C ev (base + i) o fr σ (dstOk o fr.sz) (wantedA ops o fr.tmps) := by
  unfold aop aopG
  cases dstOk o fr.sz with
  | false => cases wantedA ops o fr.tmps <;> rfl
  | true =>
    cases wantedA ops o fr.tmps with
    | none => rfl
    | some w =>
      cases w with
      | false => rfl
      | true =>
        simp only [Option.bind_some]
        unfold aopC
        cases clOf P C o <;> try rfl
        all_goals (cases quietV P C ev (base + i) (fun _ => true) (fr.val C) o σ <;> rfl)
theorem aopG_false {slot : Nat} {o : Oper} {fr : AF} {σ : Heap} : aopG P C ev slot o fr σ true (some false) = some (.ok (fr.put o.dst undefA) σ) := rfl
theorem aopG_true {slot : Nat} {o : Oper} {fr : AF} {σ : Heap} : aopG P C ev slot o fr σ true (some true) = aopC P C ev slot o fr σ (clOf P C o) := rfl
theorem WX_split {ops : Array Oper} {base i slot : Nat} {l : List Oper} {o : Oper} {fr : AF} {σ : Heap} {b : Bool}
    (h1 : b = true → WX P C ev ops base i l R (aopG P C ev slot o fr σ true (some true))) (h2 : b = false → WX P C ev ops base i l R (aopG P C ev slot o fr σ true (some false))) :
    WX P C ev ops base i l R (aopG P C ev slot o fr σ true (some b)) := by
  cases b
  · exact h2 rfl
  · exact h1 rfl
theorem condW_split {n : Nat} {a b : Code} {fr : AF} {σ : Heap} {t : Bool} (h1 : t = true → W P C n a fr σ Q) (h2 : t = false → W P C n b fr σ Q) : condW P C n a b fr σ Q (some (.bool t)) := by
  cases t
  · exact h2 rfl
  · exact h1 rfl
theorem dstOk_some {d sz ty : Nat} {op : Op} {p : String} {af : Array Edge} {g : Option (Nat × Bool)} : dstOk ⟨some d, op, ty, p, af, g⟩ sz = decide (d < sz) := by
  unfold dstOk
  simp only [Nat.blt]
  cases h : Nat.ble (d + 1) sz
  · have := mt Nat.ble_eq_true_of_le (by rw [h]; simp : ¬ Nat.ble (d + 1) sz = true)
    simp; omega
  · have := Nat.le_of_ble_eq_true h
    simp; omega
theorem dstOk_none {sz ty : Nat} {op : Op} {p : String} {af : Array Edge} {g : Option (Nat × Bool)} : dstOk ⟨none, op, ty, p, af, g⟩ sz = true := rfl
theorem wantedA_none {ops : Array Oper} {d : Option Tmp} {ty : Nat} {op : Op} {p : String} {af : Array Edge} {tm : PT AV} : wantedA ops ⟨d, op, ty, p, af, none⟩ tm = some true := rfl
def wantV (w : Bool) : Option AV → Option Bool
  | some (.bool b) => some (b == w)
  | some _ => some false
  | none => none
def yT (tm : PT AV) : Option (Option Tmp) → Option AV
  | some (some t) => tm.get t
  | _ => none
theorem wantedA_some {ops : Array Oper} {d : Option Tmp} {ty j : Nat} {w : Bool} {op : Op} {p : String} {af : Array Edge} {tm : PT AV} : wantedA ops ⟨d, op, ty, p, af, some (j, w)⟩ tm = wantV w (yT tm (ops[j]?.map Oper.dst)) := by
  simp only [wantedA, yieldedA, yT]
  cases ops[j]? with
  | none => rfl
  | some o =>
    simp only [Option.bind_some, Option.map_some]
    cases o.dst with
    | none => rfl
    | some t =>
      simp only [Option.bind_some]
      cases tm.get t with
      | none => rfl
      | some v =>
        cases v <;> try rfl
        rename_i b
        cases b <;> cases w <;> rfl
theorem wantV_b {w b : Bool} : wantV w (some (.bool b)) = some (b == w) := rfl
theorem yT_some {tm : PT AV} {t : Tmp} : yT tm (some (some t)) = tm.get t := rfl
theorem put_some {tm : PT AV} {sz : Nat} {dfs : List Df} {rd : Option Nat} {d : Tmp} {v : AV} : AF.put ⟨tm, sz, dfs, rd⟩ (some d) v = ⟨tm.set d (some v), sz, dfs, rd⟩ := rfl
theorem put_none {fr : AF} {v : AV} : AF.put fr none v = fr := rfl
theorem aopC_pure {slot : Nat} {o : Oper} {fr : AF} {σ : Heap} : aopC P C ev slot o fr σ .pure = okO fr o.dst σ (quietV P C ev slot (fun _ => true) (fr.val C) o σ) := rfl
theorem aopC_read {slot : Nat} {o : Oper} {fr : AF} {σ : Heap} : aopC P C ev slot o fr σ .read = okO fr o.dst σ (quietV P C ev slot (fun _ => true) (fr.val C) o σ) := rfl
theorem aopC_alloc {slot : Nat} {o : Oper} {fr : AF} {σ : Heap} : aopC P C ev slot o fr σ .alloc = okO fr o.dst σ (quietV P C ev slot (fun _ => true) (fr.val C) o σ) := rfl
theorem aopC_st {slot : Nat} {o : Oper} {fr : AF} {σ : Heap} : aopC P C ev slot o fr σ .st = okO fr o.dst σ (quietV P C ev slot (fun _ => true) (fr.val C) o σ) := rfl
theorem aopC_loud {slot : Nat} {o : Oper} {fr : AF} {σ : Heap} : aopC P C ev slot o fr σ .loud = loudE P C ev o fr σ := rfl
theorem okO_some {fr : AF} {d : Option Tmp} {σ : Heap} {v : AV} {e : Option (Nat × ABlk)} : okO fr d σ (some (v, e)) = some (.ok (fr.put d v) (eff σ e)) := rfl
theorem eff_none {σ : Heap} : eff σ none = σ := rfl
theorem eff_some {σ : Heap} {b : Nat} {x : ABlk} : eff σ (some (b, x)) = σ.set b x := rfl
theorem val_tmp {fr : AF} {t : Tmp} : fr.val C (.tmp t) = fr.tmps.get t := rfl
theorem val_const {fr : AF} {v : Value} : fr.val C (.const v) = ofConst v := rfl
theorem val_func {fr : AF} {f : Nat} : fr.val C (.func f) = some (.fn f [] []) := rfl
theorem oc_int {k : IntKind} {n : Int} : ofConst (.int k n) = some (.int k n) := rfl
theorem oc_bool {b : Bool} : ofConst (.bool b) = some (.bool b) := rfl
theorem oc_str {s : ByteArray} : ofConst (.string s) = some (.str s.data.toList) := rfl
theorem oc_nilp : ofConst (.pointer none) = some .nilp := rfl
theorem oc_nils : ofConst (.slice none 0 0) = some .snil := rfl

def b1 (f : AV → Option AV) : Option AV → Option AV
  | some a => f a
  | none => none
def b2 (f : AV → AV → Option AV) : Option AV → Option AV → Option AV
  | some a, some b => f a b
  | _, _ => none
theorem b1_some {f : AV → Option AV} {a : AV} : b1 f (some a) = f a := rfl
theorem b2_some {f : AV → AV → Option AV} {a b : AV} : b2 f (some a) (some b) = f a b := rfl
def pv : Option AV → Option (AV × Option (Nat × ABlk))
  | some v => some (v, none)
  | none => none
theorem pv_some {v : AV} : pv (some v) = some (v, none) := rfl
def pickA : Option AV → Option AV → Option AV → Option AV
  | some (.bool true), a, _ => a
  | some (.bool false), _, b => b
  | _, _, _ => none
theorem pickA_t {a b : Option AV} : pickA (some (.bool true)) a b = a := rfl
theorem pickA_f {a b : Option AV} : pickA (some (.bool false)) a b = b := rfl
section ops
variable {slot ty : Nat} {lim : Nat → Bool} {ρ : Operand → Option AV} {σ : Heap} {d : Option Tmp} {p : String} {af : Array Edge} {g : Option (Nat × Bool)} {x y c a b : Operand} {t : Nat}
theorem cl_move : clOf P C ⟨d, .move x, ty, p, af, g⟩ = .pure := rfl
theorem q_move : quietV P C ev slot lim ρ ⟨d, .move x, ty, p, af, g⟩ σ = pv (ρ x) := by unfold quietV; simp only [cl_move, pureV]; cases ρ x <;> rfl
theorem cl_assign : clOf P C ⟨d, .assign x, ty, p, af, g⟩ = .pure := rfl
theorem q_assign : quietV P C ev slot lim ρ ⟨d, .assign x, ty, p, af, g⟩ σ = pv (ρ x) := by unfold quietV; simp only [cl_assign, pureV]; cases ρ x <;> rfl
theorem cl_pick : clOf P C ⟨d, .pick c a b, ty, p, af, g⟩ = .pure := rfl
theorem q_pick : quietV P C ev slot lim ρ ⟨d, .pick c a b, ty, p, af, g⟩ σ = pv (pickA (ρ c) (ρ a) (ρ b)) := by
  unfold quietV; simp only [cl_pick, pureV]
  cases ρ c with
  | none => rfl
  | some v =>
    cases v <;> try rfl
    rename_i u
    cases u
    · cases ρ b <;> rfl
    · cases ρ a <;> rfl
theorem cl_bin {op : BinOp} {r : TypeId} : clOf P C ⟨d, .binOp op t x y r, ty, p, af, g⟩ = .pure := rfl
theorem q_bin {op : BinOp} {r : TypeId} : quietV P C ev slot lim ρ ⟨d, .binOp op t x y r, ty, p, af, g⟩ σ = pv (b2 (binA P op t) (ρ x) (ρ y)) := by
  unfold quietV; simp only [cl_bin, pureV]
  cases ρ x with
  | none => rfl
  | some v => cases ρ y with
    | none => rfl
    | some u => simp only [Option.bind_some, b2]; cases binA P op t v u <;> rfl
theorem cl_fieldAddr {f : Nat} : clOf P C ⟨d, .fieldAddr t x f, ty, p, af, g⟩ = .pure := rfl
theorem q_fieldAddr {f : Nat} : quietV P C ev slot lim ρ ⟨d, .fieldAddr t x f, ty, p, af, g⟩ σ = pv (b1 (fun a => fieldAddrV P t a f) (ρ x)) := by
  unfold quietV; simp only [cl_fieldAddr, pureV]
  cases ρ x with
  | none => rfl
  | some v => simp only [Option.bind_some, b1]; cases fieldAddrV P t v f <;> rfl
theorem cl_field {f : Nat} : clOf P C ⟨d, .field t x f, ty, p, af, g⟩ = .pure := rfl
theorem q_field {f : Nat} : quietV P C ev slot lim ρ ⟨d, .field t x f, ty, p, af, g⟩ σ = pv (b1 (fun a => fieldV P t a f) (ρ x)) := by
  unfold quietV; simp only [cl_field, pureV]
  cases ρ x with
  | none => rfl
  | some v => simp only [Option.bind_some, b1]; cases fieldV P t v f <;> rfl
theorem cl_indexAddr : clOf P C ⟨d, .indexAddr t x y, ty, p, af, g⟩ = .pure := rfl
theorem q_indexAddr : quietV P C ev slot lim ρ ⟨d, .indexAddr t x y, ty, p, af, g⟩ σ = pv (b2 (indexAddrV P t) (ρ x) (ρ y)) := by
  unfold quietV; simp only [cl_indexAddr, pureV]
  cases ρ x with
  | none => rfl
  | some v => cases ρ y with
    | none => rfl
    | some u => simp only [Option.bind_some, b2]; cases indexAddrV P t v u <;> rfl
theorem cl_index : clOf P C ⟨d, .index t x y, ty, p, af, g⟩ = .pure := rfl
theorem q_index : quietV P C ev slot lim ρ ⟨d, .index t x y, ty, p, af, g⟩ σ = pv (b2 (indexV P t) (ρ x) (ρ y)) := by
  unfold quietV; simp only [cl_index, pureV]
  cases ρ x with
  | none => rfl
  | some v => cases ρ y with
    | none => rfl
    | some u => simp only [Option.bind_some, b2]; cases indexV P t v u <;> rfl
theorem cl_nilCheck : clOf P C ⟨d, .nilCheck x, ty, p, af, g⟩ = .pure := rfl
def nilC : AV → Option AV
  | .ptr b o => some (.ptr b o)
  | .pptr cs => some (.pptr cs)
  | .fn f a b => some (.fn f a b)
  | _ => none
theorem q_nilCheck : quietV P C ev slot lim ρ ⟨d, .nilCheck x, ty, p, af, g⟩ σ = pv (b1 nilC (ρ x)) := by
  unfold quietV; simp only [cl_nilCheck, pureV]
  cases ρ x with
  | none => rfl
  | some v => cases v <;> rfl
/-! len -/
theorem cl_len {at_ : TypeId} {de : TypeDesc} (hu : P.underlying at_ = some de) (hm : (match de with | .map _ _ => false | _ => true) = true) {c : Call} (h1 : c.callee = .builtin .len) (h3 : c.argTypes = #[at_]) : clOf P C ⟨d, .call c, ty, p, af, g⟩ = .pure := by
  simp only [clOf, h1, h3, hu]
  cases de <;> first | rfl | cases hm
theorem q_len {at_ : TypeId} (hc : clOf P C ⟨d, .call { callee := .builtin .len, args := #[x], argTypes := #[at_] }, ty, p, af, g⟩ = .pure) : quietV P C ev slot lim ρ ⟨d, .call { callee := .builtin .len, args := #[x], argTypes := #[at_] }, ty, p, af, g⟩ σ = pv (b1 (lenV P at_) (ρ x)) := by
  unfold quietV; simp only [hc, pureV]
  cases ρ x with
  | none => rfl
  | some v => simp only [Option.bind_some, b1]; cases lenV P at_ v <;> rfl
/-! memory -/
def ldB (P : Program) (t o : Nat) : Option ABlk → Option AV
  | some (.cells _ _ cs) => ldCells P t cs o
  | _ => none
def loadA (P : Program) (lim : Nat → Bool) (σ : Heap) (t : Nat) : AV → Option AV
  | .ptr b o => ldB P t o (getLim σ lim b)
  | .pptr cs => ldCells P t cs 0
  | _ => none
theorem loadA_ptr {b o : Nat} : loadA P lim σ t (.ptr b o) = ldB P t o (getLim σ lim b) := rfl
theorem loadA_pptr {cs : List AV} : loadA P lim σ t (.pptr cs) = ldCells P t cs 0 := rfl
theorem ldB_some {o e : Nat} {u : Bool} {cs : List AV} : ldB P t o (some (.cells e u cs)) = ldCells P t cs o := rfl
theorem getLim_true {b : Nat} : getLim σ (fun _ => true) b = σ.get b := rfl
def ldC (l : List AV) (o : Nat) : Option Bool → Option Nat → Option AV
  | some false, _ => (l.drop o).head?
  | some true, some n => if o + n ≤ l.length then some (.agg ((l.drop o).take n)) else none
  | _, _ => none
theorem ldCells_eq {l : List AV} {o : Nat} : ldCells P t l o = ldC l o (tAgg P t) (tSize P t) := by
  unfold ldCells ldC
  cases tAgg P t with
  | none => rfl
  | some a =>
    cases a with
    | false => rfl
    | true =>
      cases tSize P t with
      | none => rfl
      | some n =>
        simp only [Option.bind_some]
        cases h : Nat.ble (o + n) l.length
        · rw [if_neg]
          intro h'
          rw [Nat.ble_eq_true_of_le h'] at h
          cases h
        · rw [if_pos (Nat.le_of_ble_eq_true h)]
theorem ldC_f {l : List AV} {o : Nat} {s : Option Nat} : ldC l o (some false) s = (l.drop o).head? := rfl
theorem ldC_t {l : List AV} {o n : Nat} : ldC l o (some true) (some n) = if o + n ≤ l.length then some (.agg ((l.drop o).take n)) else none := rfl
theorem cl_load : clOf P C ⟨d, .load t x, ty, p, af, g⟩ = .read := rfl
theorem q_load : quietV P C ev slot lim ρ ⟨d, .load t x, ty, p, af, g⟩ σ = pv (b1 (loadA P lim σ t) (ρ x)) := by
  unfold quietV; simp only [cl_load, readV]
  cases ρ x with
  | none => rfl
  | some v =>
    simp only [Option.bind_some, b1]
    cases v <;> simp only [loadA] <;> try rfl
    · rename_i b o
      unfold ldB
      cases getLim σ lim b with
      | none => rfl
      | some k =>
        cases k <;> try rfl
        rename_i e u cs
        simp only
        cases ldCells P t cs o <;> rfl
    · rename_i cs
      cases ldCells P t cs 0 <;> rfl
theorem cl_box : clOf P C ⟨d, .box t x, ty, p, af, g⟩ = .alloc := rfl
def bx (slot t : Nat) : Option AV → Option (AV × Option (Nat × ABlk))
  | some v => some (.ptr slot 0, some (slot, .cells t true v.cells))
  | none => none
theorem bx_some {v : AV} : bx slot t (some v) = some (.ptr slot 0, some (slot, .cells t true v.cells)) := rfl
theorem q_box : quietV P C ev slot lim ρ ⟨d, .box t x, ty, p, af, g⟩ σ = bx slot t (ρ x) := by
  unfold quietV; simp only [cl_box, allocV]
  cases ρ x <;> rfl
theorem cl_alloc : clOf P C ⟨d, .alloc t, ty, p, af, g⟩ = .alloc := rfl
theorem q_alloc : quietV P C ev slot lim ρ ⟨d, .alloc t, ty, p, af, g⟩ σ = bx slot t (tZero P t) := by
  unfold quietV; simp only [cl_alloc, allocV]
  cases tZero P t <;> rfl
theorem cells_agg {cs : List AV} : AV.cells (.agg cs) = cs := rfl
theorem cells_int {k : IntKind} {n : Int} : AV.cells (.int k n) = [.int k n] := rfl
theorem cells_bool {b : Bool} : AV.cells (.bool b) = [.bool b] := rfl
theorem cells_str {s : List UInt8} : AV.cells (.str s) = [.str s] := rfl
theorem cells_fn {f : Nat} {a b : List AV} : AV.cells (.fn f a b) = [.fn f a b] := rfl
end ops
/-! ### Calls -/
def CQ (P : Program) (C : Cfg) (n f : Nat) (args : List AV) (σ : Heap) (K : CR → Heap → Prop) : Prop := match callF P (run P C n) f args σ with
  | some (r, σ') => K r σ'
  | none => False
def outC (K : CR → Heap → Prop) : Option (CR × Heap) → Prop
  | some (r, σ') => K r σ'
  | none => False
def leaveQ (P : Program) (C : Cfg) (n : Nat) (rs : List ResultVar) (K : CR → Heap → Prop) : AX → AF → Heap → Prop := fun x fr σ => match x with
  | .exit _ => False
  | .pan t v => outC K (leaveA P (run P C n) rs fr.tmps fr.dfs (some (t, v)) σ)
  | _ => outC K (leaveA P (run P C n) rs fr.tmps fr.dfs none σ)
theorem CQ.of {n f : Nat} {args : List AV} {σ : Heap} {K : CR → Heap → Prop} {fn : Func} {c : Code} (hf : P.funcs[f]? = some fn) (hb : fn.body = some c) (hl : args.length ≤ fn.ntmps)
    (h : W P C n c ⟨initT args 0 .leaf, fn.ntmps, [], none⟩ σ (leaveQ P C n fn.results.toList K)) : CQ P C n f args σ K := by
  have hl' := Nat.ble_eq_true_of_le hl
  obtain ⟨x, fr', σ', h1, h2⟩ := h.out
  simp only [CQ, callF, hf, hb, Option.bind_some, hl', h1]
  cases x with
  | exit k => exact h2.elim
  | _ =>
    simp only [leaveQ, outC] at h2
    simp only
    split
    · rename_i r σ2 he
      rw [he] at h2
      exact h2
    · rename_i he
      rw [he] at h2
      exact h2
theorem CQ.out {n f : Nat} {args : List AV} {σ : Heap} {K : CR → Heap → Prop} (h : CQ P C n f args σ K) : ∃ r σ', callF P (run P C n) f args σ = some (r, σ') ∧ K r σ' := by
  unfold CQ at h
  split at h
  · rename_i r σ' he
    exact ⟨r, σ', he, h⟩
  · exact h.elim
def retK (K : CR → Heap → Prop) (σ : Heap) : Option AV → Prop
  | some v => K (.ret v) σ
  | none => False
theorem retK_some {K : CR → Heap → Prop} {σ : Heap} {v : AV} : retK K σ (some v) = K (.ret v) σ := rfl
theorem leaveQ_ret {n : Nat} {rs : List ResultVar} {K : CR → Heap → Prop} {tm : PT AV} {sz : Nat} {rd : Option Nat} {σ : Heap} : leaveQ P C n rs K .ret ⟨tm, sz, [], rd⟩ σ = retK K σ (resA P rs tm σ) := by
  simp only [leaveQ, leaveA]
  cases resA P rs tm σ <;> rfl
theorem leaveQ_norm {n : Nat} {rs : List ResultVar} {K : CR → Heap → Prop} {tm : PT AV} {sz : Nat} {rd : Option Nat} {σ : Heap} : leaveQ P C n rs K .norm ⟨tm, sz, [], rd⟩ σ = retK K σ (resA P rs tm σ) := by
  simp only [leaveQ, leaveA]
  cases resA P rs tm σ <;> rfl
def tup2 : Option AV → Option AV → Option AV
  | some a, some b => some (.tup [a, b])
  | _, _ => none
def cellR (P : Program) (σ : Heap) (t : Nat) : Option AV → Option AV
  | some (.ptr b o) => ldB P t o (σ.get b)
  | _ => none
theorem cellR_ptr {σ : Heap} {t b o : Nat} : cellR P σ t (some (.ptr b o)) = ldB P t o (σ.get b) := rfl
theorem tup2_some {a b : AV} : tup2 (some a) (some b) = some (.tup [a, b]) := rfl
theorem resOne_tmp {tm : PT AV} {σ : Heap} {t : Nat} : resOne P tm σ (.tmp t) = tm.get t := rfl
theorem resOne_cell {tm : PT AV} {σ : Heap} {a t : Nat} : resOne P tm σ (.cell a t) = cellR P σ t (tm.get a) := by
  simp only [resOne]
  cases tm.get a with
  | none => rfl
  | some v => cases v <;> rfl
theorem resA_one {r : ResultVar} {tm : PT AV} {σ : Heap} : resA P [r] tm σ = resOne P tm σ r := by
  simp only [resA, mapO]
  cases resOne P tm σ r <;> rfl
theorem resA_two {r s : ResultVar} {tm : PT AV} {σ : Heap} : resA P [r, s] tm σ = tup2 (resOne P tm σ r) (resOne P tm σ s) := by
  simp only [resA, mapO]
  cases resOne P tm σ r <;> cases resOne P tm σ s <;> rfl
theorem resA_nil {tm : PT AV} {σ : Heap} : resA P [] tm σ = some (.tup []) := rfl
theorem initT_nil {i : Nat} {t : PT AV} : initT [] i t = t := rfl
theorem initT_cons {i : Nat} {v : AV} {vs : List AV} {t : PT AV} : initT (v :: vs) i t = initT vs (i + 1) (t.set i (some v)) := rfl
theorem next_empty : Heap.empty.next = 0 := rfl
theorem tget_set {t : PT AV} {n m : Nat} {x : Option AV} : (t.set n x).get m = if m = n then x else t.get m := PT.get_set t n m x

/-! ### Values -/
theorem kEq_refl (k : IntKind) : kEq k k = true := by cases k <;> rfl
theorem natBeq_dec (a b : Nat) : Nat.beq a b = decide (a = b) := by
  cases h : Nat.beq a b
  · have : ¬ a = b := by rintro rfl; rw [Nat.beq_refl] at h; cases h
    simp [this]
  · simp [Nat.eq_of_beq_eq_true h]
theorem natBle_dec (a b : Nat) : Nat.ble a b = decide (a ≤ b) := by
  cases h : Nat.ble a b
  · have : ¬ a ≤ b := fun h' => by rw [Nat.ble_eq_true_of_le h'] at h; cases h
    simp [this]
  · simp [Nat.le_of_ble_eq_true h]
theorem iEq_dec (a b : Int) : iEq a b = decide (a = b) := by
  cases a <;> cases b <;> simp [iEq, natBeq_dec] <;> omega
theorem iLe_dec (a b : Int) : iLe a b = decide (a ≤ b) := by
  cases a <;> cases b <;> simp [iLe, natBle_dec] <;> omega
section bin
variable {t : Nat} {k : IntKind} {a b : Int}
theorem bin_add : binA P .add t (.int k a) (.int k b) = some (.int k (wrapF k (a + b))) := by simp [binA, kEq_refl, intBin]
theorem bin_sub : binA P .sub t (.int k a) (.int k b) = some (.int k (wrapF k (a - b))) := by simp [binA, kEq_refl, intBin]
theorem bin_mul : binA P .mul t (.int k a) (.int k b) = some (.int k (wrapF k (a * b))) := by simp [binA, kEq_refl, intBin]
theorem bin_eql : binA P .eql t (.int k a) (.int k b) = some (.bool (decide (a = b))) := by simp [binA, kEq_refl, intBin, iEq_dec]
theorem bin_neq : binA P .neq t (.int k a) (.int k b) = some (.bool (!decide (a = b))) := by simp [binA, kEq_refl, intBin, iEq_dec]
theorem bin_lss : binA P .lss t (.int k a) (.int k b) = some (.bool (decide (a < b))) := by
  simp only [binA, kEq_refl, intBin, iLe_dec, Option.some.injEq, AV.bool.injEq]
  rw [Bool.eq_iff_iff]; simp
theorem bin_leq : binA P .leq t (.int k a) (.int k b) = some (.bool (decide (a ≤ b))) := by simp [binA, kEq_refl, intBin, iLe_dec]
theorem bin_gtr : binA P .gtr t (.int k a) (.int k b) = some (.bool (decide (b < a))) := by
  simp only [binA, kEq_refl, intBin, iLe_dec, Option.some.injEq, AV.bool.injEq]
  rw [Bool.eq_iff_iff]; simp
theorem bin_geq : binA P .geq t (.int k a) (.int k b) = some (.bool (decide (b ≤ a))) := by simp [binA, kEq_refl, intBin, iLe_dec]
theorem bytesEq_dec : ∀ (a b : List UInt8), bytesEq a b = decide (a = b)
  | [], [] => by simp [bytesEq]
  | [], _ :: _ => by simp [bytesEq]
  | _ :: _, [] => by simp [bytesEq]
  | x :: a, y :: b => by
    simp only [bytesEq, bytesEq_dec a b]
    cases h : Nat.beq x.toNat y.toNat
    · have : ¬ x = y := by rintro rfl; simp at h
      simp [this]
    · have : x = y := UInt8.toNat_inj.1 (Nat.eq_of_beq_eq_true h)
      simp [this]
theorem bin_seq {a b : List UInt8} : binA P .eql t (.str a) (.str b) = some (.bool (decide (a = b))) := by simp [binA, strBin, bytesEq_dec]
theorem bin_sne {a b : List UInt8} : binA P .neq t (.str a) (.str b) = some (.bool (!decide (a = b))) := by simp [binA, strBin, bytesEq_dec]
theorem bin_beq {a b : Bool} (h : P.underlying t = some .bool) : binA P .eql t (.bool a) (.bool b) = some (.bool (a == b)) := by
  simp only [binA, eqA, h, cellEq]
  cases a <;> cases b <;> rfl
theorem bin_bne {a b : Bool} (h : P.underlying t = some .bool) : binA P .neq t (.bool a) (.bool b) = some (.bool (a != b)) := by
  simp only [binA, eqA, h, cellEq]
  cases a <;> cases b <;> rfl
theorem wrapF_id {n : Int} (h1 : -9223372036854775808 ≤ n) (h2 : n ≤ 9223372036854775807) : wrapF .i64 n = n := by
  unfold wrapF
  have hs : small = 9223372036854775807 := rfl
  cases n with
  | ofNat m =>
    have hm : Nat.ble m small = true := Nat.ble_eq_true_of_le (by rw [hs]; simp at h2; omega)
    simp [hm]
  | negSucc m =>
    have hm : Nat.ble m small = true := Nat.ble_eq_true_of_le (by rw [hs]; omega)
    simp [hm]
end bin
theorem lenV_str {t : Nat} {s : List UInt8} (h : P.underlying t = some .string) : lenV P t (.str s) = some (.int .i64 s.length) := by simp [lenV, h]

/-! ### Slices in immutable memory -/
/-- a is a slice of elements of sz cells, L the elements' cells. -/
inductive Sl (sz : Nat) : AV → List (List AV) → Prop
  | nil : Sl sz .snil []
  | psl (L : List (List AV)) (h : ∀ x, x ∈ L → x.length = sz) : Sl sz (.psl L.length sz L.flatten) L
theorem Sl.len {sz t e : Nat} {a : AV} {L : List (List AV)} (h : Sl sz a L) (hu : P.underlying t = some (.slice e)) : lenV P t a = some (.int .i64 L.length) := by
  cases h <;> simp [lenV, hu]
theorem Sl.pure {sz d : Nat} {a : AV} {L : List (List AV)} (h : Sl sz a L) : isPure (d + 1) a = true := by cases h <;> rfl
theorem drop_flatten {sz : Nat} : ∀ (L : List (List AV)) (k : Nat), (∀ x, x ∈ L → x.length = sz) → (L.flatten.drop (k * sz)) = (L.drop k).flatten
  | L, 0, _ => by simp
  | [], k + 1, _ => by simp
  | x :: L, k + 1, h => by
    have hx := h x (by simp)
    have ih := drop_flatten L k fun y hy => h y (by simp [hy])
    simp only [List.flatten_cons, List.drop_succ_cons]
    rw [← ih, Nat.succ_mul, Nat.add_comm, ← List.drop_drop, List.drop_left' hx]
theorem Sl.idx {sz t e k : Nat} {a : AV} {L : List (List AV)} (h : Sl sz a L) (hu : P.underlying t = some (.slice e)) (hs : tSize P e = some sz) (hk : k < L.length) : indexAddrV P t a (.int .i64 (k : Int)) = some (.pptr L[k]) := by
  cases h with
  | nil => simp at hk
  | psl L hl =>
    have hb : Nat.blt k L.length = true := by unfold Nat.blt; exact Nat.ble_eq_true_of_le hk
    have hd := drop_flatten L k hl
    have hx := hl L[k] (List.getElem_mem hk)
    simp only [indexAddrV, hu, hs, Option.bind_some, Nat.beq_refl, idxIn, natOf]
    simp only [hb, Option.bind_some, Option.some.injEq, AV.pptr.injEq]
    rw [hd, List.drop_eq_getElem_cons hk, List.flatten_cons, List.take_left' hx]
/-- The steps, all in one. -/
theorem nvR : type_of% @W_region ∧
  type_of% @W_seq ∧
  type_of% @W_ret ∧
  type_of% @W_skip ∧
  type_of% @W_exit ∧
  type_of% @W_block ∧
  type_of% @W_cond ∧
  type_of% @condW_true ∧
  type_of% @condW_false ∧
  type_of% @WO_cons ∧
  type_of% @WO_nil ∧
  type_of% @WX_ok ∧
  type_of% @WX_pan ∧
  type_of% @regQ_ok ∧
  type_of% @regQ_pan ∧
  type_of% @seqQ_norm ∧
  type_of% @seqQ_ret ∧
  type_of% @seqQ_exit ∧
  type_of% @seqQ_pan ∧
  type_of% @blkQ_norm ∧
  type_of% @blkQ_ret ∧
  type_of% @blkQ_pan ∧
  type_of% @blkQ_exit ∧
  type_of% @initT_cons ∧
  type_of% @initT_nil ∧
  type_of% @aop_eq ∧
  type_of% @dstOk_some ∧
  type_of% @dstOk_none ∧
  type_of% @wantedA_none ∧
  type_of% @wantedA_some ∧
  type_of% @wantV_b ∧
  type_of% @yT_some ∧
  type_of% @aopG_true ∧
  type_of% @aopG_false ∧
  type_of% @aopC_alloc ∧
  type_of% @aopC_pure ∧
  type_of% @aopC_read ∧
  type_of% @aopC_st ∧
  type_of% @aopC_loud ∧
  type_of% @okO_some ∧
  type_of% @eff_some ∧
  type_of% @eff_none ∧
  type_of% @val_tmp ∧
  type_of% @val_const ∧
  type_of% @val_func ∧
  type_of% @oc_int ∧
  type_of% @oc_bool ∧
  type_of% @oc_str ∧
  type_of% @oc_nilp ∧
  type_of% @oc_nils ∧
  type_of% @tget_set ∧
  type_of% @put_some ∧
  type_of% @put_none ∧
  type_of% @cl_box ∧
  type_of% @q_box ∧
  type_of% @cl_alloc ∧
  type_of% @q_alloc ∧
  type_of% @bx_some ∧
  type_of% @cl_assign ∧
  type_of% @q_assign ∧
  type_of% @cl_move ∧
  type_of% @q_move ∧
  type_of% @cl_pick ∧
  type_of% @q_pick ∧
  type_of% @cl_bin ∧
  type_of% @q_bin ∧
  type_of% @cl_fieldAddr ∧
  type_of% @q_fieldAddr ∧
  type_of% @cl_field ∧
  type_of% @q_field ∧
  type_of% @cl_indexAddr ∧
  type_of% @q_indexAddr ∧
  type_of% @cl_index ∧
  type_of% @q_index ∧
  type_of% @cl_nilCheck ∧
  type_of% @q_nilCheck ∧
  type_of% @cl_load ∧
  type_of% @q_load ∧
  type_of% @pv_some ∧
  type_of% @b1_some ∧
  type_of% @b2_some ∧
  type_of% @loadA_ptr ∧
  type_of% @loadA_pptr ∧
  type_of% @ldB_some ∧
  type_of% @getLim_true ∧
  type_of% @ldCells_eq ∧
  type_of% @ldC_f ∧
  type_of% @ldC_t ∧
  type_of% @bin_add ∧
  type_of% @bin_sub ∧
  type_of% @bin_mul ∧
  type_of% @bin_eql ∧
  type_of% @bin_neq ∧
  type_of% @bin_lss ∧
  type_of% @bin_leq ∧
  type_of% @bin_gtr ∧
  type_of% @bin_geq ∧
  type_of% @bin_seq ∧
  type_of% @bin_sne ∧
  type_of% @Heap.get_set ∧
  type_of% @Heap.get_del ∧
  type_of% @Heap.get_bump ∧
  type_of% @Heap.next_set ∧
  type_of% @Heap.next_bump ∧
  type_of% @Heap.next_del ∧
  type_of% @next_empty ∧
  type_of% @cells_agg ∧
  type_of% @cells_int ∧
  type_of% @cells_bool ∧
  type_of% @cells_str ∧
  type_of% @cells_fn ∧
  type_of% @pickA_t ∧
  type_of% @pickA_f ∧
  type_of% @leaveQ_ret ∧
  type_of% @leaveQ_norm ∧
  type_of% @retK_some ∧
  type_of% @resA_one ∧
  type_of% @resA_two ∧
  type_of% @resA_nil ∧
  type_of% @resOne_tmp ∧
  type_of% @resOne_cell ∧
  type_of% @cellR_ptr ∧
  type_of% @tup2_some :=
  ⟨@W_region, @W_seq, @W_ret, @W_skip, @W_exit, @W_block, @W_cond, @condW_true, @condW_false, @WO_cons, @WO_nil, @WX_ok, @WX_pan, @regQ_ok, @regQ_pan, @seqQ_norm, @seqQ_ret, @seqQ_exit, @seqQ_pan, @blkQ_norm, @blkQ_ret, @blkQ_pan, @blkQ_exit, @initT_cons, @initT_nil, @aop_eq, @dstOk_some, @dstOk_none, @wantedA_none, @wantedA_some, @wantV_b, @yT_some, @aopG_true, @aopG_false, @aopC_alloc, @aopC_pure, @aopC_read, @aopC_st, @aopC_loud, @okO_some, @eff_some, @eff_none, @val_tmp, @val_const, @val_func, @oc_int, @oc_bool, @oc_str, @oc_nilp, @oc_nils, @tget_set, @put_some, @put_none, @cl_box, @q_box, @cl_alloc, @q_alloc, @bx_some, @cl_assign, @q_assign, @cl_move, @q_move, @cl_pick, @q_pick, @cl_bin, @q_bin, @cl_fieldAddr, @q_fieldAddr, @cl_field, @q_field, @cl_indexAddr, @q_indexAddr, @cl_index, @q_index, @cl_nilCheck, @q_nilCheck, @cl_load, @q_load, @pv_some, @b1_some, @b2_some, @loadA_ptr, @loadA_pptr, @ldB_some, @getLim_true, @ldCells_eq, @ldC_f, @ldC_t, @bin_add, @bin_sub, @bin_mul, @bin_eql, @bin_neq, @bin_lss, @bin_leq, @bin_gtr, @bin_geq, @bin_seq, @bin_sne, @Heap.get_set, @Heap.get_del, @Heap.get_bump, @Heap.next_set, @Heap.next_bump, @Heap.next_del, @next_empty, @cells_agg, @cells_int, @cells_bool, @cells_str, @cells_fn, @pickA_t, @pickA_f, @leaveQ_ret, @leaveQ_norm, @retK_some, @resA_one, @resA_two, @resA_nil, @resOne_tmp, @resOne_cell, @cellR_ptr, @tup2_some⟩
end Go.Nv
