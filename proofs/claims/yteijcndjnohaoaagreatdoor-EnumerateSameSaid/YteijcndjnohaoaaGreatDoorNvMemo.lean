/- What has been evaluated once is known from then on. -/
import Derived.Test.YteijcndjnohaoaaGreatDoorNvRun
set_option linter.all false
set_option linter.unusedVariables false
set_option linter.unusedSimpArgs false
namespace Go.Nv
open Go

structure Ent where
  f : Nat
  args : List AV
  v : AV

def look (f : Nat) (args : List AV) : List Ent → Option AV
  | [] => none
  | e :: r => (match Nat.beq e.f f with
    | true => (match sameL (sameV deep) e.args args with
      | true => some e.v
      | false => look f args r)
    | false => look f args r)

def cfgM (tab : PT Mode) (l : List Ent) : Cfg := { mode := fun n => (tab.get n).getD .pure, memo := fun f args => look f args l, glob := fun _ => none }

def sameO (x : Option AV) (v : AV) : Bool := match x with
  | some y => sameV deep y v
  | none => false

/-- Each entry is what the evaluator says, the entries m being known. -/
def good (P : Program) (tab : PT Mode) (n : Nat) (m : List Ent) : List Ent → Bool
  | [] => true
  | e :: r => (match sameO (callPure P (cfgM tab m) (run P (cfgM tab m) n) e.f e.args) e.v with
    | true => good P tab n m r
    | false => false)

def AllOk (P : Program) (l : List Ent) : Prop := ∀ e, e ∈ l → HasBody P e.f ∧ PureOk P e.f e.args e.v

theorem AllOk.nil {P : Program} : AllOk P [] := fun _ h => by cases h
theorem AllOk.append {P : Program} {l m : List Ent} (h : AllOk P l) (h' : AllOk P m) : AllOk P (l ++ m) := fun e he => (List.mem_append.1 he).elim (h e) (h' e)

theorem look_mem {f : Nat} {args : List AV} {v : AV} : ∀ {l : List Ent}, look f args l = some v → ∃ e, e ∈ l ∧ e.f = f ∧ e.args = args ∧ e.v = v
  | [], h => by cases h
  | e :: r, h => by
    simp only [look] at h
    split at h
    · rename_i hf
      split at h
      · rename_i ha
        simp only [Option.some.injEq] at h
        exact ⟨e, List.mem_cons_self, Nat.eq_of_beq_eq_true hf, sameL_true (sameV_true deep) ha, h⟩
      · obtain ⟨e', h1, h2⟩ := look_mem h
        exact ⟨e', List.mem_cons_of_mem _ h1, h2⟩
    · obtain ⟨e', h1, h2⟩ := look_mem h
      exact ⟨e', List.mem_cons_of_mem _ h1, h2⟩

/-- What is asked of a program, whatever is known. -/
structure GoodP (P : Program) (tab : PT Mode) : Prop where
  mixed : P.follows .mixedOrders = true
  names : ∀ (f : Nat) (fn : Func), P.funcs[f]? = some fn → fn.name ≠ "runtime.NumGoroutine"
  same : ∀ f, (tab.get f).getD .pure = .same → ∀ (v : Value) (w : World), (callFunc f #[v]).run P w = .ok (.value v) w

theorem allOk_of_good {P : Program} {tab : PT Mode} (G : GoodP P tab) {n : Nat} {m : List Ent} (hm : AllOk P m) : ∀ {l : List Ent}, good P tab n m l = true → AllOk P l
  | [], _ => AllOk.nil
  | e :: r, h => by
    have G' : Good P (cfgM tab m) := ⟨G.mixed, G.names, G.same⟩
    have hM : MemoOk P (cfgM tab m) := fun f args v hl => by
      obtain ⟨e, he, rfl, rfl, rfl⟩ := look_mem (l := m) hl
      exact (hm e he).2
    have hB : BodiesOk P (cfgM tab m) := fun f args v hl => by
      obtain ⟨e, he, rfl, rfl, rfl⟩ := look_mem (l := m) hl
      exact (hm e he).1
    simp only [good] at h
    split at h
    · rename_i hs
      have hr := allOk_of_good G hm h
      intro x hx
      cases hx with
      | head =>
        unfold sameO at hs
        split at hs
        · rename_i y hy
          have := sameV_true deep _ _ hs
          subst this
          exact ⟨hasBody_of_run G' (fun _ => rfl) hM hB hy, pureOk_of_run G' (fun _ => rfl) hM hB hy⟩
        · cases hs
      | tail _ hx => exact hr x hx
    · cases h
end Go.Nv
