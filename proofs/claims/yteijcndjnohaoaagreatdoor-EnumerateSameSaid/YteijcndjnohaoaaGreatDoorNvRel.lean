/- What it means that an abstract state stands for a machine's world; the plain laws of it. -/
import Derived.Test.YteijcndjnohaoaaGreatDoorNvEv
import Derived.RangeFuncLeaves
import Derived.RangeFuncCalls
import Derived.RecoverIn
import Derived.OrdersIn
import Derived.Laws.Rows
import Derived.Laws.StructEq
import Derived.Laws.IdiomCopy
import Derived.Laws.Slices
set_option linter.all false
set_option linter.unusedVariables false
set_option linter.unusedSimpArgs false
namespace Go.Nv
open Go

/-! ### The trie -/
namespace PT
variable {α : Type}
theorem get_leaf (n : Nat) : (PT.leaf : PT α).get n = none := rfl

theorem getF_setF : ∀ (f : Nat) (t : PT α) (n m : Nat) (x : Option α), n < f → (setF f t n x).get m = if m = n then x else t.get m
  | 0, _, _, _, _, h => absurd h (Nat.not_lt_zero _)
  | f + 1, t, n, m, x, h => by
    have ih := fun (t : PT α) (n m : Nat) (x : Option α) (h : n < f) => getF_setF f t n m x h
    cases t with
    | leaf =>
      cases n with
      | zero =>
        cases m with
        | zero => simp [setF, get]
        | succ m =>
          simp only [setF, get]
          split <;> simp [get]
      | succ n =>
        simp only [setF]
        split
        · rename_i he
          cases m with
          | zero => simp [get]
          | succ m =>
            simp only [get]
            split
            · rename_i hm
              rw [ih _ _ _ _ (by omega)]
              try simp only [get_leaf]
              by_cases e : m = n
              · subst e; simp
              · rw [if_neg (by omega), if_neg (by omega)]
            · rename_i hm
              try simp only [get_leaf]
              rw [if_neg]
              intro e
              have : m = n := by omega
              subst this
              exact hm he
        · rename_i he
          cases m with
          | zero => simp [get]
          | succ m =>
            simp only [get]
            split
            · rename_i hm
              try simp only [get_leaf]
              rw [if_neg]
              intro e
              have : m = n := by omega
              subst this
              exact he hm
            · rename_i hm
              rw [ih _ _ _ _ (by omega)]
              try simp only [get_leaf]
              have h1 : n % 2 = 1 := by have := Nat.mod_two_eq_zero_or_one n; rcases this with h | h; exact absurd h he; exact h
              have h2 : m % 2 = 1 := by have := Nat.mod_two_eq_zero_or_one m; rcases this with h | h; exact absurd h hm; exact h
              by_cases e : m = n
              · subst e; simp
              · rw [if_neg (by omega), if_neg (by omega)]
    | node v l r =>
      cases n with
      | zero =>
        cases m with
        | zero => simp [setF, get]
        | succ m => simp only [setF, get]; simp
      | succ n =>
        simp only [setF]
        split
        · rename_i he
          cases m with
          | zero => simp [get]
          | succ m =>
            simp only [get]
            split
            · rename_i hm
              rw [ih _ _ _ _ (by omega)]
              by_cases e : m = n
              · subst e; simp
              · rw [if_neg (by omega), if_neg (by omega)]
            · rename_i hm
              rw [if_neg]
              intro e
              have : m = n := by omega
              subst this
              exact hm he
        · rename_i he
          cases m with
          | zero => simp [get]
          | succ m =>
            simp only [get]
            split
            · rename_i hm
              rw [if_neg]
              intro e
              have : m = n := by omega
              subst this
              exact he hm
            · rename_i hm
              rw [ih _ _ _ _ (by omega)]
              have h1 : n % 2 = 1 := by have := Nat.mod_two_eq_zero_or_one n; rcases this with h | h; exact absurd h he; exact h
              have h2 : m % 2 = 1 := by have := Nat.mod_two_eq_zero_or_one m; rcases this with h | h; exact absurd h hm; exact h
              by_cases e : m = n
              · subst e; simp
              · rw [if_neg (by omega), if_neg (by omega)]

theorem get_set (t : PT α) (n m : Nat) (x : Option α) : (t.set n x).get m = if m = n then x else t.get m := getF_setF (n + 1) t n m x (Nat.lt_succ_self n)
end PT

/-! ### Memory -/
/-- Blocks whose cells never change again. -/
abbrev IM := Nat → Option (List Value)
/-- Where a symbolic block lies: the block, the cell where it begins, the number of the block's cells. -/
abbrev Mu := Nat → Option (Nat × Nat × Nat)

/-- A value that names no block. -/
inductive NoRef : AV → Prop
  | bool (b : Bool) : NoRef (.bool b)
  | int (k : IntKind) (n : Int) : NoRef (.int k n)
  | str (s : List UInt8) : NoRef (.str s)
  | nilp : NoRef .nilp
  | pptr (cs : List AV) (h : ∀ x, x ∈ cs → NoRef x) : NoRef (.pptr cs)
  | snil : NoRef .snil
  | psl (len sz : Nat) (cs : List AV) (h : ∀ x, x ∈ cs → NoRef x) : NoRef (.psl len sz cs)
  | nilm : NoRef .nilm
  | nilf : NoRef .nilf
  | fn (f : Nat) (a b : List AV) (ha : ∀ x, x ∈ a → NoRef x) (hb : ∀ x, x ∈ b → NoRef x) : NoRef (.fn f a b)
  | nili : NoRef .nili
  | iface (t : Nat) (v : AV) (h : NoRef v) : NoRef (.iface t v)
  | agg (cs : List AV) (h : ∀ x, x ∈ cs → NoRef x) : NoRef (.agg cs)
  | tup (cs : List AV) (h : ∀ x, x ∈ cs → NoRef x) : NoRef (.tup cs)

mutual
inductive SimV (im : IM) (μ : Mu) : AV → Value → Prop
  | bool (b : Bool) : SimV im μ (.bool b) (.bool b)
  | int (k : IntKind) (n : Int) : SimV im μ (.int k n) (.int k n)
  | str (s : List UInt8) : SimV im μ (.str s) (.string ⟨s.toArray⟩)
  | nilp : SimV im μ .nilp (.pointer none)
  | ptr (b o cb base tot : Nat) (h : μ b = some (cb, base, tot)) : SimV im μ (.ptr b o) (.pointer (some ⟨cb, base + o, none⟩))
  | pptr (cs : List AV) (hx : ∀ x, x ∈ cs → NoRef x) (cb off : Nat) (l : List Value) (h : im cb = some l) (hb : off + cs.length ≤ l.length) (hs : SimL im μ cs ((l.drop off).take cs.length)) : SimV im μ (.pptr cs) (.pointer (some ⟨cb, off, none⟩))
  | snil : SimV im μ .snil (.slice none 0 0)
  | sref (b o len sz cb base tot cap : Nat) (a : Addr) (h : μ b = some (cb, base, tot)) (hl : len ≤ cap) (ha : cap = 0 ∨ (a = ⟨cb, base + o, none⟩ ∧ base + o + cap * sz ≤ tot)) : SimV im μ (.sref b o len sz) (.slice (some a) len cap)
  | psl0 (sz cap : Nat) (a : Addr) : SimV im μ (.psl 0 sz []) (.slice (some a) 0 cap)
  | psl (len sz : Nat) (cs : List AV) (hx : ∀ x, x ∈ cs → NoRef x) (cap cb off : Nat) (l : List Value) (hn : cs.length = len * sz) (hl : len ≤ cap) (h : im cb = some l) (hb : off + cs.length ≤ l.length) (hs : SimL im μ cs ((l.drop off).take cs.length)) : SimV im μ (.psl len sz cs) (.slice (some ⟨cb, off, none⟩) len cap)
  | nilm : SimV im μ .nilm (.map none)
  | mref (b cb base tot : Nat) (h : μ b = some (cb, base, tot)) : SimV im μ (.mref b) (.map (some cb))
  | nilf : SimV im μ .nilf .nilFunc
  | fn (f : Nat) (first caps : List AV) (first' caps' : Array Value) (h1 : SimL im μ first first'.toList) (h2 : SimL im μ caps caps'.toList) : SimV im μ (.fn f first caps) (.func (.func f) first' caps')
  | yld (b cb base tot : Nat) (h : μ b = some (cb, base, tot)) : SimV im μ (.yld b) (.func (.yield cb) #[] #[])
  | nili : SimV im μ .nili .nilIface
  | iface (t : Nat) (v : AV) (v' : Value) (h : SimV im μ v v') : SimV im μ (.iface t v) (.iface t v')
  | agg (cs : List AV) (cs' : Array Value) (h : SimL im μ cs cs'.toList) : SimV im μ (.agg cs) (.agg cs')
  | tup (cs : List AV) (cs' : Array Value) (h : SimL im μ cs cs'.toList) : SimV im μ (.tup cs) (.tuple cs')
inductive SimL (im : IM) (μ : Mu) : List AV → List Value → Prop
  | nil : SimL im μ [] []
  | cons (x : AV) (y : Value) (xs : List AV) (ys : List Value) (h : SimV im μ x y) (hs : SimL im μ xs ys) : SimL im μ (x :: xs) (y :: ys)
end

/-- More is immutable, more is known. -/
def Le (im im' : IM) (μ μ' : Mu) : Prop := (∀ cb l, im cb = some l → im' cb = some l) ∧ (∀ b e, μ b = some e → μ' b = some e)
theorem Le.refl (im : IM) (μ : Mu) : Le im im μ μ := ⟨fun _ _ h => h, fun _ _ h => h⟩
theorem Le.trans {im im' im'' : IM} {μ μ' μ'' : Mu} (h : Le im im' μ μ') (h' : Le im' im'' μ' μ'') : Le im im'' μ μ'' :=
  ⟨fun cb l e => h'.1 cb l (h.1 cb l e), fun b e q => h'.2 b e (h.2 b e q)⟩

mutual
theorem SimV.mono {im im' : IM} {μ μ' : Mu} (hle : Le im im' μ μ') : ∀ {x : AV} {y : Value}, SimV im μ x y → SimV im' μ' x y
  | _, _, .bool b => .bool b
  | _, _, .int k n => .int k n
  | _, _, .str s => .str s
  | _, _, .nilp => .nilp
  | _, _, .ptr b o cb base tot h => .ptr b o cb base tot (hle.2 _ _ h)
  | _, _, .pptr cs hx cb off l h hb hs => .pptr cs hx cb off l (hle.1 _ _ h) hb (SimL.mono hle hs)
  | _, _, .snil => .snil
  | _, _, .sref b o len sz cb base tot cap a h hl ha => .sref b o len sz cb base tot cap a (hle.2 _ _ h) hl ha
  | _, _, .psl0 sz cap a => .psl0 sz cap a
  | _, _, .psl len sz cs hx cap cb off l hn hl h hb hs => .psl len sz cs hx cap cb off l hn hl (hle.1 _ _ h) hb (SimL.mono hle hs)
  | _, _, .nilm => .nilm
  | _, _, .mref b cb base tot h => .mref b cb base tot (hle.2 _ _ h)
  | _, _, .nilf => .nilf
  | _, _, .fn f first caps first' caps' h1 h2 => .fn f first caps first' caps' (SimL.mono hle h1) (SimL.mono hle h2)
  | _, _, .yld b cb base tot h => .yld b cb base tot (hle.2 _ _ h)
  | _, _, .nili => .nili
  | _, _, .iface t v v' h => .iface t v v' (SimV.mono hle h)
  | _, _, .agg cs cs' h => .agg cs cs' (SimL.mono hle h)
  | _, _, .tup cs cs' h => .tup cs cs' (SimL.mono hle h)
theorem SimL.mono {im im' : IM} {μ μ' : Mu} (hle : Le im im' μ μ') : ∀ {x : List AV} {y : List Value}, SimL im μ x y → SimL im' μ' x y
  | _, _, .nil => .nil
  | _, _, .cons x y xs ys h hs => .cons x y xs ys (SimV.mono hle h) (SimL.mono hle hs)
end

section lists
variable {im : IM} {μ : Mu}
theorem SimV.noref_pptr {cs : List AV} {y : Value} (h : SimV im μ (.pptr cs) y) : ∀ x, x ∈ cs → NoRef x := by cases h; assumption
theorem SimV.noref_psl {len sz : Nat} {cs : List AV} {y : Value} (h : SimV im μ (.psl len sz cs) y) : ∀ x, x ∈ cs → NoRef x := by
  cases h
  · intro x hx; cases hx
  · assumption

theorem SimL.length : ∀ {xs : List AV} {ys : List Value}, SimL im μ xs ys → xs.length = ys.length
  | _, _, .nil => rfl
  | _, _, .cons _ _ _ _ _ hs => by simp [SimL.length hs]
theorem SimL.append : ∀ {xs xs' : List AV} {ys ys' : List Value}, SimL im μ xs ys → SimL im μ xs' ys' → SimL im μ (xs ++ xs') (ys ++ ys')
  | _, _, _, _, .nil, h => h
  | _, _, _, _, .cons x y xs ys h hs, h' => .cons x y _ _ h (SimL.append hs h')
theorem SimL.drop : ∀ (n : Nat) {xs : List AV} {ys : List Value}, SimL im μ xs ys → SimL im μ (xs.drop n) (ys.drop n)
  | 0, _, _, h => by simpa using h
  | n + 1, _, _, .nil => by simpa using SimL.nil
  | n + 1, _, _, .cons _ _ _ _ _ hs => by simpa using SimL.drop n hs
theorem SimL.take : ∀ (n : Nat) {xs : List AV} {ys : List Value}, SimL im μ xs ys → SimL im μ (xs.take n) (ys.take n)
  | 0, _, _, h => by simpa using SimL.nil
  | n + 1, _, _, .nil => by simpa using SimL.nil
  | n + 1, _, _, .cons x y xs ys h hs => by simpa using SimL.cons x y _ _ h (SimL.take n hs)
theorem SimL.head? : ∀ {xs : List AV} {ys : List Value}, SimL im μ xs ys → ∀ {x : AV}, xs.head? = some x → ∃ y, ys.head? = some y ∧ SimV im μ x y
  | _, _, .nil, _, h => by simp at h
  | _, _, .cons x y xs ys h hs, _, e => by simp at e; subst e; exact ⟨y, by simp, h⟩
theorem SimL.get? {xs : List AV} {ys : List Value} (h : SimL im μ xs ys) {i : Nat} {x : AV} (hx : xs[i]? = some x) : ∃ y, ys[i]? = some y ∧ SimV im μ x y := by
  have h' := h.drop i
  have e : (xs.drop i).head? = some x := by rw [List.head?_drop]; exact hx
  obtain ⟨y, hy, hs⟩ := SimL.head? h' e
  exact ⟨y, by rw [List.head?_drop] at hy; exact hy, hs⟩
theorem SimL.of_append {xs xs' : List AV} {ys : List Value} (h : SimL im μ (xs ++ xs') ys) : SimL im μ xs (ys.take xs.length) ∧ SimL im μ xs' (ys.drop xs.length) :=
  ⟨by simpa using h.take xs.length, by simpa using h.drop xs.length⟩
theorem SimL.one {x : AV} {y : Value} (h : SimV im μ x y) : SimL im μ [x] [y] := .cons _ _ _ _ h .nil
theorem SimV.cells {x : AV} {y : Value} (h : SimV im μ x y) : SimL im μ x.cells y.cells.toList := by
  cases h <;> first
    | (simp only [AV.cells, Value.cells]; assumption)
    | (refine SimL.one ?_; constructor <;> assumption)
    | (refine SimL.one ?_; constructor)
theorem SimV.oneC {x : AV} {y : Value} (h : SimV im μ x y) (ho : x.oneC = true) : y.oneCell' = true := by
  cases h <;> simp_all [AV.oneC, Value.oneCell']
end lists

end Go.Nv
