/- awake37 is true, in every world. -/
import Derived.Test.YteijcndjnohaoaaGreatDoorNkA
import Derived.Test.YteijcndjnohaoaaGreatDoorNkB
import Derived.Test.YteijcndjnohaoaaGreatDoorNkC
import Derived.Test.YteijcndjnohaoaaGreatDoorNkD
import Derived.Test.YteijcndjnohaoaaGreatDoorNkE
import Derived.Test.YteijcndjnohaoaaGreatDoorNkT
set_option linter.all false
set_option linter.unusedVariables false
set_option linter.unusedSimpArgs false
namespace Go.Nv
open Go Go.Proofs
set_option maxRecDepth 1000000
theorem AllOk.piece {P : Program} {l : List Ent} {i k : Nat} (h : AllOk P ((l.drop i).take k)) (h' : AllOk P (l.drop (i + k))) : AllOk P (l.drop i) := by
  have e : l.drop i = (l.drop i).take k ++ l.drop (i + k) := by rw [← List.drop_drop, List.take_append_drop]
  rw [e]
  exact h.append h'
theorem AllOk.over {P : Program} {l : List Ent} {i : Nat} (h : l.drop i = []) : AllOk P (l.drop i) := by rw [h]; exact AllOk.nil
theorem namesB_spec : ∀ {l : List Func} {i : Nat} {fn : Func}, (l.all fun f => f.name != "runtime.NumGoroutine") = true → l[i]? = some fn → fn.name ≠ "runtime.NumGoroutine" := by
  intro l i fn h hi
  have := List.all_eq_true.1 h fn (List.mem_of_getElem? hi)
  simpa using this
/-- Each key with what stands there. -/
def allB {α : Type} (q : Nat → α → Bool) : (Nat → Nat) → PT α → Bool
  | _, .leaf => true
  | enc, .node v l r => (match v with | some x => q (enc 0) x | none => true) && (allB q (fun k => enc (2 * k + 1)) l && allB q (fun k => enc (2 * k + 2)) r)
theorem allB_get {α : Type} {q : Nat → α → Bool} : ∀ (t : PT α) (enc : Nat → Nat), allB q enc t = true → ∀ (n : Nat) (x : α), t.get n = some x → q (enc n) x = true
  | .leaf, _, _, n, x, h => by simp [PT.get] at h
  | .node v l r, enc, h, n, x, hx => by
    simp only [allB, Bool.and_eq_true] at h
    cases n with
    | zero =>
      simp only [PT.get] at hx
      subst hx
      exact h.1
    | succ m =>
      simp only [PT.get] at hx
      split at hx
      · rename_i hm
        have := allB_get l _ h.2.1 _ _ hx
        simpa [show 2 * (m / 2) + 1 = m + 1 by omega] using this
      · rename_i hm
        have hm' : ¬ m % 2 = 0 := hm
        have := allB_get r _ h.2.2 _ _ hx
        simpa [show 2 * (m / 2) + 2 = m + 1 by omega] using this
theorem same510 (v : Value) (w : World) : (callFunc 510 #[v]).run Tryz.prog w = .ok (.value v) w := by kernel_rfl
theorem goodT : GoodP Tryz.prog tab := by
  refine ⟨by kernel_rfl, fun f fn hf => namesB_spec (l := Tryz.prog.funcs.toList) (i := f) (by kernel_rfl) (by simpa using hf), ?_⟩
  intro f hf v w
  have hall : allB (fun n (x : Mode) => match x with | .same => Nat.beq n 510 | _ => true) id tab = true := by kernel_rfl
  cases hg : tab.get f with
  | none => rw [hg] at hf; cases hf
  | some x =>
    rw [hg] at hf
    simp only [Option.getD_some] at hf
    subst hf
    have := allB_get tab id hall f _ hg
    have hf := Nat.eq_of_beq_eq_true this
    simp only [id] at hf
    subst hf
    exact same510 v w
theorem ok_nB : AllOk Tryz.prog nB := by
  have h := (AllOk.piece (i := 0) (k := 2) (allOk_of_good goodT AllOk.nil kB_0) (AllOk.over (i := 2) rfl))
  simpa only [List.drop_zero] using h
theorem ok_n100 : AllOk Tryz.prog n100 := by
  have h := (AllOk.piece (i := 0) (k := 7) (allOk_of_good goodT ok_nB k100p0) (AllOk.over (i := 7) rfl))
  simpa only [List.drop_zero] using h
theorem ok_n264 : AllOk Tryz.prog n264 := by
  have h := (AllOk.piece (i := 0) (k := 6) (allOk_of_good goodT ok_nB k264p0) (AllOk.piece (i := 6) (k := 6) (allOk_of_good goodT ok_nB k264p1) (AllOk.over (i := 12) rfl)))
  simpa only [List.drop_zero] using h
theorem ok_mA : AllOk Tryz.prog mA := ok_nB.append (ok_n100.append ok_n264)
theorem ok_n50 : AllOk Tryz.prog n50 := by
  have h := (AllOk.piece (i := 0) (k := 6) (allOk_of_good goodT ok_mA k50p0) (AllOk.piece (i := 6) (k := 6) (allOk_of_good goodT ok_mA k50p1) (AllOk.piece (i := 12) (k := 6) (allOk_of_good goodT ok_mA k50p2) (AllOk.piece (i := 18) (k := 6) (allOk_of_good goodT ok_mA k50p3) (AllOk.over (i := 24) rfl)))))
  simpa only [List.drop_zero] using h
theorem ok_mB : AllOk Tryz.prog mB := ok_mA.append ok_n50
theorem ok_n52 : AllOk Tryz.prog n52 := by
  have h := (AllOk.piece (i := 0) (k := 6) (allOk_of_good goodT ok_mB k52p0) (AllOk.piece (i := 6) (k := 6) (allOk_of_good goodT ok_mB k52p1) (AllOk.piece (i := 12) (k := 6) (allOk_of_good goodT ok_mB k52p2) (AllOk.piece (i := 18) (k := 6) (allOk_of_good goodT ok_mB k52p3) (AllOk.over (i := 24) rfl)))))
  simpa only [List.drop_zero] using h
theorem ok_n79 : AllOk Tryz.prog n79 := by
  have h := (AllOk.piece (i := 0) (k := 6) (allOk_of_good goodT ok_mB k79p0) (AllOk.piece (i := 6) (k := 6) (allOk_of_good goodT ok_mB k79p1) (AllOk.piece (i := 12) (k := 6) (allOk_of_good goodT ok_mB k79p2) (AllOk.piece (i := 18) (k := 6) (allOk_of_good goodT ok_mB k79p3) (AllOk.over (i := 24) rfl)))))
  simpa only [List.drop_zero] using h
theorem ok_n37 : AllOk Tryz.prog n37 := by
  have h := (AllOk.piece (i := 0) (k := 6) (allOk_of_good goodT ok_mB k37p0) (AllOk.piece (i := 6) (k := 6) (allOk_of_good goodT ok_mB k37p1) (AllOk.piece (i := 12) (k := 6) (allOk_of_good goodT ok_mB k37p2) (AllOk.piece (i := 18) (k := 6) (allOk_of_good goodT ok_mB k37p3) (AllOk.over (i := 24) rfl)))))
  simpa only [List.drop_zero] using h
theorem ok_mC : AllOk Tryz.prog mC := ok_mB.append (ok_n52.append (ok_n79.append ok_n37))
theorem ok_n47 : AllOk Tryz.prog n47 := by
  have h := (AllOk.piece (i := 0) (k := 6) (allOk_of_good goodT ok_mC k47p0) (AllOk.piece (i := 6) (k := 6) (allOk_of_good goodT ok_mC k47p1) (AllOk.piece (i := 12) (k := 6) (allOk_of_good goodT ok_mC k47p2) (AllOk.piece (i := 18) (k := 6) (allOk_of_good goodT ok_mC k47p3) (AllOk.over (i := 24) rfl)))))
  simpa only [List.drop_zero] using h
theorem ok_n48 : AllOk Tryz.prog n48 := by
  have h := (AllOk.piece (i := 0) (k := 3) (allOk_of_good goodT ok_mC k48p0) (AllOk.piece (i := 3) (k := 3) (allOk_of_good goodT ok_mC k48p1) (AllOk.piece (i := 6) (k := 3) (allOk_of_good goodT ok_mC k48p2) (AllOk.piece (i := 9) (k := 3) (allOk_of_good goodT ok_mC k48p3) (AllOk.piece (i := 12) (k := 3) (allOk_of_good goodT ok_mC k48p4) (AllOk.piece (i := 15) (k := 3) (allOk_of_good goodT ok_mC k48p5) (AllOk.piece (i := 18) (k := 3) (allOk_of_good goodT ok_mC k48p6) (AllOk.piece (i := 21) (k := 3) (allOk_of_good goodT ok_mC k48p7) (AllOk.over (i := 24) rfl)))))))))
  simpa only [List.drop_zero] using h
theorem ok_n22 : AllOk Tryz.prog n22 := by
  have h := (AllOk.piece (i := 0) (k := 6) (allOk_of_good goodT ok_mC k22p0) (AllOk.piece (i := 6) (k := 6) (allOk_of_good goodT ok_mC k22p1) (AllOk.piece (i := 12) (k := 6) (allOk_of_good goodT ok_mC k22p2) (AllOk.piece (i := 18) (k := 6) (allOk_of_good goodT ok_mC k22p3) (AllOk.piece (i := 24) (k := 6) (allOk_of_good goodT ok_mC k22p4) (AllOk.over (i := 30) rfl))))))
  simpa only [List.drop_zero] using h
theorem ok_n25 : AllOk Tryz.prog n25 := by
  have h := (AllOk.piece (i := 0) (k := 5) (allOk_of_good goodT ok_mC k25p0) (AllOk.over (i := 5) rfl))
  simpa only [List.drop_zero] using h
theorem ok_n33 : AllOk Tryz.prog n33 := by
  have h := (AllOk.piece (i := 0) (k := 1) (allOk_of_good goodT ok_mC k33p0) (AllOk.over (i := 1) rfl))
  simpa only [List.drop_zero] using h
theorem ok_mT : AllOk Tryz.prog mT := ok_mC.append (ok_n47.append (ok_n48.append (ok_n22.append (ok_n25.append ok_n33))))
theorem awake_ok : HasBody Tryz.prog 5 ∧ PureOk Tryz.prog 5 [] (.bool true) := allOk_of_good goodT ok_mT k5 ⟨5, [], .bool true⟩ (by simp)
end Go.Nv
