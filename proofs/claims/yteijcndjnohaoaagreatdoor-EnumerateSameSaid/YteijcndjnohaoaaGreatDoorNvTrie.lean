/- Two entries of a trie may be set in either order. -/
import Derived.Test.YteijcndjnohaoaaGreatDoorNvEv
set_option linter.all false
set_option linter.unusedVariables false
set_option linter.unusedSimpArgs false
namespace Go.Nv.PT
variable {α : Type}

theorem setF_comm : ∀ (f g : Nat) (t : PT α) (n m : Nat) (x y : Option α), n ≠ m → n < f → m < g → setF g (setF f t n x) m y = setF f (setF g t m y) n x
  | 0, _, _, _, _, _, _, _, h, _ => absurd h (Nat.not_lt_zero _)
  | _ + 1, 0, _, _, _, _, _, _, _, h => absurd h (Nat.not_lt_zero _)
  | f + 1, g + 1, t, n, m, x, y, hne, hf, hg => by
    cases t with
    | leaf =>
      cases n with
      | zero =>
        cases m with
        | zero => exact absurd rfl hne
        | succ m => rcases Nat.mod_two_eq_zero_or_one m with hn | hn <;> simp only [setF, hn]
      | succ n =>
        cases m with
        | zero => rcases Nat.mod_two_eq_zero_or_one n with hn | hn <;> simp only [setF, hn]
        | succ m =>
          have ih := fun (h : n / 2 ≠ m / 2) => setF_comm f g leaf (n / 2) (m / 2) x y h (by omega) (by omega)
          rcases Nat.mod_two_eq_zero_or_one n with hn | hn <;> rcases Nat.mod_two_eq_zero_or_one m with hm | hm <;> simp only [setF, hn, hm]
          · rw [ih (by omega)]
          · rw [ih (by omega)]
    | node v l r =>
      cases n with
      | zero =>
        cases m with
        | zero => exact absurd rfl hne
        | succ m => rcases Nat.mod_two_eq_zero_or_one m with hn | hn <;> simp only [setF, hn]
      | succ n =>
        cases m with
        | zero => rcases Nat.mod_two_eq_zero_or_one n with hn | hn <;> simp only [setF, hn]
        | succ m =>
          have ihl := fun (h : n / 2 ≠ m / 2) => setF_comm f g l (n / 2) (m / 2) x y h (by omega) (by omega)
          have ihr := fun (h : n / 2 ≠ m / 2) => setF_comm f g r (n / 2) (m / 2) x y h (by omega) (by omega)
          rcases Nat.mod_two_eq_zero_or_one n with hn | hn <;> rcases Nat.mod_two_eq_zero_or_one m with hm | hm <;> simp only [setF, hn, hm]
          · rw [ihl (by omega)]
          · rw [ihr (by omega)]

theorem set_comm (t : PT α) {n m : Nat} (x y : Option α) (h : n ≠ m) : (t.set n x).set m y = (t.set m y).set n x :=
  setF_comm (n + 1) (m + 1) t n m x y h (Nat.lt_succ_self _) (Nat.lt_succ_self _)
end Go.Nv.PT
