/- Whatever order is drawn: what the written order comes to. -/
import Derived.Test.YteijcndjnohaoaaGreatDoorNvSwap
import Derived.OrdersIn
set_option linter.all false
set_option linter.unusedVariables false
set_option linter.unusedSimpArgs false
namespace Go.Nv
open Go
variable {P : Program} {C : Cfg} {ev : Evn} {ops : Array Oper} {base : Nat}

/-! ### Runs -/
inductive Runs (P : Program) (C : Cfg) (ev : Evn) (ops : Array Oper) (base : Nat) : List (Nat × Foot) → AF → Heap → AF → Heap → Prop
  | nil (fr : AF) (σ : Heap) : Runs P C ev ops base [] fr σ fr σ
  | cons (i : Nat) (f : Foot) (o : Oper) (l : List (Nat × Foot)) (fr fr1 fr2 : AF) (σ σ1 σ2 : Heap) (ho : ops[i]? = some o) (h : aopD P C ev ops base i o fr σ = some (f, fr1, σ1)) (hr : Runs P C ev ops base l fr1 σ1 fr2 σ2) :
      Runs P C ev ops base ((i, f) :: l) fr σ fr2 σ2

/-- May x, which is written ahead of y, be behind it? -/
def OpenPair (P : Program) (C : Cfg) (ops : Array Oper) (x y : Nat × Foot) : Prop :=
  ∀ ox oy, ops[x.1]? = some ox → ops[y.1]? = some oy → Oper.apart ops ox oy = true ∧ PairOk (clOf P C ox) (clOf P C oy) x.2 y.2

theorem Runs.swap {x y : Nat × Foot} {l : List (Nat × Foot)} {fr fr2 : AF} {σ σ2 : Heap} (h : Runs P C ev ops base (x :: y :: l) fr σ fr2 σ2) (hlt : x.1 < y.1) (hopen : Nat.testBit ((masks ops).getD y.1 0) x.1 = false)
    (hp : OpenPair P C ops x y) : Runs P C ev ops base (y :: x :: l) fr σ fr2 σ2 := by
  cases h with
  | cons i f o _ _ fr1 _ _ σ1 _ ho h1 hr =>
    cases hr with
    | cons i' f' o' _ _ fr1' _ _ σ1' _ ho' h1' hr' =>
      obtain ⟨ha, hpk⟩ := hp o o' ho ho'
      obtain ⟨frm, σm, g1, g2⟩ := Nv.swap hlt (Array.getElem?_eq_some_iff.1 ho').1 hopen ha hpk h1 h1'
      exact .cons _ _ _ _ _ _ _ _ _ _ ho' g1 (.cons _ _ _ _ _ _ _ _ _ _ ho g2 hr')

theorem Runs.move {y : Nat × Foot} : ∀ {A B : List (Nat × Foot)} {fr fr2 : AF} {σ σ2 : Heap}, Runs P C ev ops base (A ++ y :: B) fr σ fr2 σ2 →
    (∀ x ∈ A, x.1 < y.1 ∧ Nat.testBit ((masks ops).getD y.1 0) x.1 = false ∧ OpenPair P C ops x y) → Runs P C ev ops base (y :: (A ++ B)) fr σ fr2 σ2
  | [], _, _, _, _, _, h, _ => h
  | x :: A, B, fr, fr2, σ, σ2, h, hA => by
    cases h with
    | cons i f o _ _ fr1 _ _ σ1 _ ho h1 hr =>
      have ih := Runs.move hr (fun z hz => hA z (List.mem_cons_of_mem _ hz))
      obtain ⟨q1, q2, q3⟩ := hA (i, f) List.mem_cons_self
      exact Runs.swap (.cons _ _ _ _ _ _ _ _ _ _ ho h1 ih) q1 q2 q3

/-! ### What must come first -/
def bindsMask (M : Nat → Nat) (j : Nat) (s : Nat) (e : Edge) : Nat := match Region.binds .any e with
  | true => s ||| 2 ^ e.on ||| (match Nat.blt e.on j with | true => M e.on | false => 0)
  | false => s

theorem predsL_length : ∀ (l : List Oper) (j : Nat) (acc : List Nat), (predsL l j acc).length = l.length + acc.length
  | [], _, _ => by simp [predsL]
  | o :: r, j, acc => by
    simp only [predsL]
    rw [predsL_length]
    simp only [List.length_cons]
    omega

theorem predsL_old : ∀ (l : List Oper) (j : Nat) (acc : List Nat), acc.length = j → ∀ k, k < j → (predsL l j acc).reverse.getD k 0 = acc.getD (j - 1 - k) 0
  | [], j, acc, hl, k, hk => by
    simp only [predsL]
    rw [List.getD_eq_getElem?_getD, List.getD_eq_getElem?_getD, List.getElem?_reverse (by omega), hl]
  | o :: r, j, acc, hl, k, hk => by
    simp only [predsL]
    rw [predsL_old r (j + 1) _ (by simp [hl]) k (by omega)]
    rw [show j + 1 - 1 - k = (j - 1 - k) + 1 by omega]
    rfl

theorem predsL_new : ∀ (l : List Oper) (j : Nat) (acc : List Nat), acc.length = j → ∀ i o, l[i]? = some o →
    (predsL l j acc).reverse.getD (j + i) 0 = o.after.toList.foldl (bindsMask (fun k => (predsL l j acc).reverse.getD k 0) (j + i)) 0
  | [], _, _, _, i, o, h => by simp at h
  | o :: r, j, acc, hl, 0, o', h => by
    simp only [List.getElem?_cons_zero, Option.some.injEq] at h
    subst h
    have hold : ∀ k, k < j → (predsL (o :: r) j acc).reverse.getD k 0 = acc.getD (j - 1 - k) 0 := fun k hk => predsL_old (o :: r) j acc hl k hk
    have hnew : (predsL (o :: r) j acc).reverse.getD j 0 = o.after.toList.foldl (fun s e => match Region.binds .any e with
      | true => s ||| 2 ^ e.on ||| (match Nat.blt e.on j with | true => acc.getD (j - 1 - e.on) 0 | false => 0)
      | false => s) 0 := by
      simp only [predsL]
      rw [predsL_old r (j + 1) _ (by simp [hl]) j (by omega)]
      rw [show j + 1 - 1 - j = 0 by omega]
      rfl
    rw [Nat.add_zero, hnew]
    congr 1
    funext s e
    unfold bindsMask
    split
    · split
      · rename_i hlt
        simp only
        rw [hold e.on (Nat.le_of_ble_eq_true hlt)]
      · rfl
    · rfl
  | o :: r, j, acc, hl, i + 1, o', h => by
    simp only [List.getElem?_cons_succ] at h
    have ih := predsL_new r (j + 1) (o.after.toList.foldl (fun s e => match Region.binds .any e with
      | true => s ||| 2 ^ e.on ||| (match Nat.blt e.on j with | true => acc.getD (j - 1 - e.on) 0 | false => 0)
      | false => s) 0 :: acc) (by simp [hl]) i o' h
    rw [show j + 1 + i = j + (i + 1) by omega] at ih
    exact ih

theorem foldl_bit {M : Nat → Nat} {j : Nat} : ∀ (es : List Edge) (s b : Nat), Nat.testBit (es.foldl (bindsMask M j) s) b = true →
    Nat.testBit s b = true ∨ ∃ e ∈ es, Region.binds .any e = true ∧ (e.on = b ∨ (e.on < j ∧ Nat.testBit (M e.on) b = true))
  | [], s, b, h => .inl h
  | e :: es, s, b, h => by
    rcases foldl_bit es _ b h with h | ⟨e', he, hb, hx⟩
    · unfold bindsMask at h
      split at h
      · rename_i hbd
        rw [Nat.testBit_or, Nat.testBit_or, Bool.or_eq_true, Bool.or_eq_true] at h
        rcases h with (h | h) | h
        · exact .inl h
        · rw [Nat.testBit_two_pow] at h
          exact .inr ⟨e, List.mem_cons_self, hbd, .inl (by simpa using h)⟩
        · split at h
          · rename_i hlt
            exact .inr ⟨e, List.mem_cons_self, hbd, .inr ⟨Nat.le_of_ble_eq_true hlt, h⟩⟩
          · simp at h
      · exact .inl h
    · exact .inr ⟨e', List.mem_cons_of_mem _ he, hb, hx⟩

theorem mask_bit {i b : Nat} {o : Oper} (ho : ops[i]? = some o) (h : Nat.testBit ((masks ops).getD i 0) b = true) :
    ∃ e ∈ o.after, Region.binds .any e = true ∧ (e.on = b ∨ (e.on < i ∧ Nat.testBit ((masks ops).getD e.on 0) b = true)) := by
  have hn := predsL_new ops.toList 0 [] rfl i o (by simpa using ho)
  rw [Nat.zero_add] at hn
  unfold masks at h
  rw [hn] at h
  rcases foldl_bit _ _ _ h with h | ⟨e, he, hb, hx⟩
  · simp at h
  · exact ⟨e, by simpa using he, hb, hx⟩

theorem backs_spec : ∀ (l : List Oper) (j : Nat), backs j l = true → ∀ i o, l[i]? = some o → ∀ e ∈ o.after, Region.binds .any e = true → e.on < j + i
  | [], _, _, i, o, h => by simp at h
  | o :: r, j, hb, i, o', h => by
    simp only [backs] at hb
    split at hb
    · rename_i hall
      cases i with
      | zero =>
        simp only [List.getElem?_cons_zero, Option.some.injEq] at h
        subst h
        intro e he hbd
        have := List.all_eq_true.1 hall e (by simpa using he)
        rw [hbd] at this
        exact Nat.le_of_ble_eq_true this
      | succ i =>
        intro e he hbd
        have := backs_spec r (j + 1) hb i o' (by simpa using h) e he hbd
        omega
    · cases hb

/-! ### The pairs that were looked at -/
theorem foldl_none {α β : Type} (g : Option β → α → Option β) (hg : ∀ x, g none x = none) : ∀ xs : List α, xs.foldl g none = none
  | [] => rfl
  | x :: xs => by rw [List.foldl_cons, hg, foldl_none g hg xs]

theorem foldl_all {α β : Type} (g : Option β → α → Option β) (hg : ∀ x, g none x = none) (R : β → β → Prop) (hrefl : ∀ l, R l l) (htrans : ∀ a b c, R a b → R b c → R a c) (hstep : ∀ x l l', g (some l) x = some l' → R l l') :
    ∀ (xs : List α) (l l' : β), xs.foldl g (some l) = some l' → R l l' ∧ ∀ x ∈ xs, ∃ l1 l2, g (some l1) x = some l2 ∧ R l2 l'
  | [], l, l', h => by simp at h; subst h; exact ⟨hrefl _, fun _ h => by cases h⟩
  | x :: xs, l, l', h => by
    rw [List.foldl_cons] at h
    cases hx : g (some l) x with
    | none => rw [hx, foldl_none g hg] at h; cases h
    | some l1 =>
      rw [hx] at h
      obtain ⟨h1, h2⟩ := foldl_all g hg R hrefl htrans hstep xs l1 l' h
      refine ⟨htrans _ _ _ (hstep _ _ _ hx) h1, fun y hy => ?_⟩
      cases hy with
      | head => exact ⟨l, l1, hx, h1⟩
      | tail _ hy => exact h2 y hy

def Cl.fine (c c' : Cl) (ps : List (Nat × Nat)) (i j : Nat) : Prop := c.pair c' = .ok ∨ (c.pair c' = .dyn ∧ (i, j) ∈ ps)

theorem openPairs_spec {ps : List (Nat × Nat)} (h : openPairs P C ops = some ps) {i j : Nat} {oi oj : Oper} (hij : i < j) (hi : ops[i]? = some oi) (hj : ops[j]? = some oj) :
    Nat.testBit ((masks ops).getD j 0) i = true ∨ (Oper.apart ops oi oj = true ∧ (clOf P C oi).fine (clOf P C oj) ps i j) := by
  unfold openPairs at h
  simp only at h
  have hjs := (Array.getElem?_eq_some_iff.1 hj).1
  let st : Nat → Nat → List (Nat × Nat) → Option (List (Nat × Nat)) := fun j i l => match Nat.testBit ((masks ops).getD j 0) i with
    | true => some l
    | false => (match ops[i]?, ops[j]? with
      | some oi, some oj => (match Oper.apart ops oi oj, (clOf P C oi).pair (clOf P C oj) with
        | true, .ok => some l
        | true, .dyn => some ((i, j) :: l)
        | _, _ => none)
      | _, _ => none)
  have hst : ∀ j i l l', st j i l = some l' → l ⊆ l' := by
    intro j i l l' hs
    simp only [st] at hs
    split at hs
    · simp only [Option.some.injEq] at hs; subst hs; exact fun _ h => h
    · split at hs
      · split at hs
        · simp only [Option.some.injEq] at hs; subst hs; exact fun _ h => h
        · simp only [Option.some.injEq] at hs; subst hs; exact fun _ h => List.mem_cons_of_mem _ h
        · cases hs
      · cases hs
  have hin : ∀ (j : Nat) (l l' : List (Nat × Nat)), (List.range j).foldl (fun acc i => acc.bind (st j i)) (some l) = some l' → l ⊆ l' ∧ ∀ i ∈ List.range j, ∃ l1 l2, (some l1).bind (st j i) = some l2 ∧ l2 ⊆ l' := by
    intro j l l' hf
    exact foldl_all (fun acc i => acc.bind (st j i)) (fun _ => rfl) (fun a b => a ⊆ b) (fun _ _ h => h) (fun _ _ _ h1 h2 x hx => h2 (h1 hx)) (fun i l l' hs => hst j i l l' hs) _ _ _ hf
  have hout := foldl_all (fun acc j => (List.range j).foldl (fun acc i => acc.bind (st j i)) acc) (fun j => foldl_none _ (fun _ => rfl) _) (fun a b => a ⊆ b) (fun _ _ h => h) (fun _ _ _ h1 h2 x hx => h2 (h1 hx))
    (fun j l l' hs => (hin j l l' hs).1) (List.range ops.size) [] ps h
  obtain ⟨l1, l2, hl, hsub⟩ := hout.2 j (List.mem_range.2 hjs)
  obtain ⟨l3, l4, hl', hsub'⟩ := (hin j l1 l2 hl).2 i (List.mem_range.2 hij)
  simp only [Option.bind_some, st, hi, hj] at hl'
  split at hl'
  · exact .inl (by assumption)
  · refine .inr ?_
    split at hl'
    · rename_i h1 h2; exact ⟨h1, .inl h2⟩
    · rename_i h1 h2
      simp only [Option.some.injEq] at hl'
      subst hl'
      exact ⟨h1, .inr ⟨h2, hsub (hsub' List.mem_cons_self)⟩⟩
    · cases hl'

theorem pairsOk_spec {l : List Foot} : ∀ {ps : List (Nat × Nat)}, pairsOk l ps = true → ∀ i j, (i, j) ∈ ps → (l.getD i .all).apart (l.getD j .all) = true
  | [], _, _, _, h => by cases h
  | (a, b) :: r, hp, i, j, h => by
    simp only [pairsOk] at hp
    split at hp
    · rename_i hab
      cases h with
      | head => exact hab
      | tail _ h => exact pairsOk_spec hp i j h
    · cases hp

/-- The written order, as a run with its log. -/
theorem runs_of_aopsD : ∀ (rest : List Oper) (i : Nat) (fr fr2 : AF) (σ σ2 : Heap) (l : List Foot), (∀ k o, rest[k]? = some o → ops[i + k]? = some o) → aopsD P C ev ops base i rest fr σ = some (l, fr2, σ2) →
    l.length = rest.length ∧ Runs P C ev ops base ((List.range' i rest.length).zip l) fr σ fr2 σ2
  | [], i, fr, fr2, σ, σ2, l, _, h => by
    simp only [aopsD, Option.some.injEq, Prod.mk.injEq] at h
    obtain ⟨rfl, rfl, rfl⟩ := h
    exact ⟨rfl, .nil _ _⟩
  | o :: rest, i, fr, fr2, σ, σ2, l, hops, h => by
    simp only [aopsD, Option.bind_eq_some_iff, Option.some.injEq, Prod.mk.injEq] at h
    obtain ⟨⟨f, fr1, σ1⟩, h1, ⟨l1, fr3, σ3⟩, h2, rfl, rfl, rfl⟩ := h
    obtain ⟨q1, q2⟩ := runs_of_aopsD rest (i + 1) fr1 _ σ1 _ l1 (fun k o hk => by
      have := hops (k + 1) o (by simpa using hk)
      rwa [show i + (k + 1) = i + 1 + k by omega] at this) h2
    refine ⟨by simp [q1], ?_⟩
    rw [List.length_cons, List.range'_succ, List.zip_cons_cons]
    exact .cons _ _ _ _ _ _ _ _ _ _ (by simpa using hops 0 o (by simp)) h1 q2

/-! ### Any order -/
def Fine (P : Program) (C : Cfg) (ops : Array Oper) (x y : Nat × Foot) : Prop := x.1 < y.1 ∧ (Nat.testBit ((masks ops).getD y.1 0) x.1 = true ∨ OpenPair P C ops x y)

theorem any_order {F : Fence} {n : Nat} {Q : Exit → Act → World → Prop} (Rel : Array Bool → AF → Heap → Act → World → Prop) (hbacks : backs 0 ops.toList = true) {fr2 : AF} {σ2 : Heap}
    (hop : ∀ (listed : Array Bool) (i : Nat) (o : Oper) (fr fr1 : AF) (σ σ1 : Heap) (f : Foot) (a : Act) (w : World) (K : Act → World → Prop), ops[i]? = some o → listed.getD i true = false → Rel listed fr σ a w →
      aopD P C ev ops base i o fr σ = some (f, fr1, σ1) → (∀ a' w', Rel (listed.setIfInBounds i true) fr1 σ1 a' w' → K a' w') → wpOpIn F n P ops Q i K a w)
    (hend : ∀ listed a w, Rel listed fr2 σ2 a w → Q .normal a w) :
    ∀ (fuel : Nat) (listed : Array Bool) (L : List (Nat × Foot)) (fr : AF) (σ : Heap) (a : Act) (w : World), L.length = fuel → Runs P C ev ops base L fr σ fr2 σ2 → L.Pairwise (Fine P C ops) → listed.size = ops.size →
      (∀ x ∈ L, listed.getD x.1 true = false) → (∀ k, k < ops.size → listed.getD k true = false → ∃ f, (k, f) ∈ L) →
      (∀ k b, listed.getD k false = true → Nat.testBit ((masks ops).getD k 0) b = true → listed.getD b false = true) → Rel listed fr σ a w → wpAnyIn F n P .any ops Q fuel listed a w := by
  have stuck : ∀ (listed : Array Bool) (L : List (Nat × Foot)), listed.size = ops.size → L.Pairwise (Fine P C ops) → (∀ x ∈ L, listed.getD x.1 true = false) → (∀ k, k < ops.size → listed.getD k true = false → ∃ f, (k, f) ∈ L) →
      Region.ready .any ops listed = [] → L = [] := by
    intro listed L hls hpw hL hall hr
    cases L with
    | nil => rfl
    | cons x L =>
      exfalso
      have hx := hL x List.mem_cons_self
      have hxs : x.1 < ops.size := by
        rw [← hls]
        rcases Nat.lt_or_ge x.1 listed.size with h | h
        · exact h
        · simp [Array.getD, Nat.not_lt.2 h] at hx
      have hmem : x.1 ∈ Region.ready .any ops listed := by
        refine mem_ready.2 ⟨hx, ops[x.1], Array.getElem?_eq_getElem hxs, fun e he hb => ?_⟩
        have hlt := backs_spec ops.toList 0 hbacks x.1 ops[x.1] (by simp [Array.getElem?_eq_getElem hxs]) e he hb
        rw [Nat.zero_add] at hlt
        have hes : e.on < ops.size := by omega
        cases hq : listed.getD e.on true with
        | true =>
          have : e.on < listed.size := by omega
          simp only [Array.getD, this, dif_pos] at hq ⊢
          exact hq
        | false =>
          obtain ⟨f, hf⟩ := hall e.on hes hq
          cases hf with
          | head => simp at hlt
          | tail _ hf =>
            have := (List.rel_of_pairwise_cons hpw hf).1
            simp at this
            omega
      rw [hr] at hmem
      cases hmem
  intro fuel
  induction fuel with
  | zero =>
    intro listed L fr σ a w hlen hruns hpw hls hL hall hcl hrel
    have hnil : L = [] := List.eq_nil_of_length_eq_zero hlen
    subst hnil
    cases hruns
    refine ⟨?_, hend _ _ _ hrel⟩
    cases hr : Region.ready .any ops listed with
    | nil => rfl
    | cons i r =>
      exfalso
      obtain ⟨h0, o, ho, _⟩ := mem_ready.1 (show i ∈ Region.ready .any ops listed by rw [hr]; exact List.mem_cons_self)
      obtain ⟨f, hf⟩ := hall i (Array.getElem?_eq_some_iff.1 ho).1 h0
      cases hf
  | succ fuel ih =>
    intro listed L fr σ a w hlen hruns hpw hls hL hall hcl hrel
    refine ⟨fun hr => ?_, fun i hi => ?_⟩
    · have := stuck listed L hls hpw hL hall hr
      subst this
      cases hlen
    · obtain ⟨h0, o, ho, haft⟩ := mem_ready.1 hi
      have his := (Array.getElem?_eq_some_iff.1 ho).1
      obtain ⟨f, hf⟩ := hall i his h0
      obtain ⟨A, B, rfl⟩ := List.append_of_mem hf
      -- what i must follow is listed
      have hdone : ∀ b, Nat.testBit ((masks ops).getD i 0) b = true → listed.getD b false = true := by
        intro b hb
        obtain ⟨e, he, hbd, rfl | ⟨_, hx⟩⟩ := mask_bit ho hb
        · exact haft e he hbd
        · exact hcl e.on b (haft e he hbd) hx
      have hfresh : ∀ x ∈ A ++ B, x.1 ≠ i := by
        intro x hx
        rw [List.pairwise_append] at hpw
        obtain ⟨_, p2, p3⟩ := hpw
        rcases List.mem_append.1 hx with hx | hx
        · have := (p3 x hx (i, f) List.mem_cons_self).1
          simp at this
          omega
        · have := (List.rel_of_pairwise_cons p2 hx).1
          simp at this
          omega
      have hfront : ∀ x ∈ A, x.1 < (i, f).1 ∧ Nat.testBit ((masks ops).getD (i, f).1 0) x.1 = false ∧ OpenPair P C ops x (i, f) := by
        intro x hx
        have hp := hpw
        rw [List.pairwise_append] at hp
        obtain ⟨q1, q2⟩ := hp.2.2 x hx (i, f) List.mem_cons_self
        have hno : Nat.testBit ((masks ops).getD i 0) x.1 = false := by
          cases hb : Nat.testBit ((masks ops).getD i 0) x.1
          · rfl
          · have h1 := hdone x.1 hb
            have h2 := hL x (List.mem_append_left _ hx)
            have hlt : x.1 < listed.size := by have := q1; simp at this; omega
            simp only [Array.getD, hlt, dif_pos] at h1 h2
            rw [h1] at h2
            cases h2
        refine ⟨q1, hno, q2.resolve_left ?_⟩
        rw [hno]
        intro h
        cases h
      have hmoved := hruns.move hfront
      cases hmoved with
      | cons _ _ o' _ _ fr1 _ _ σ1 _ ho' h1 hr' =>
        rw [ho] at ho'
        cases ho'
        refine hop listed i o fr fr1 σ σ1 f a w _ ho h0 hrel h1 fun a' w' hrel' => ?_
        refine ih (listed.setIfInBounds i true) (A ++ B) fr1 σ1 a' w' ?_ hr' ?_ (by simp [hls]) ?_ ?_ ?_ hrel'
        · simp only [List.length_append, List.length_cons] at hlen ⊢; omega
        · exact hpw.sublist (List.Sublist.append (List.Sublist.refl _) (List.sublist_cons_self _ _))
        · intro x hx
          rw [getD_set_ne _ (hfresh x hx).symm]
          refine hL x ?_
          rcases List.mem_append.1 hx with h | h
          · exact List.mem_append_left _ h
          · exact List.mem_append_right _ (List.mem_cons_of_mem _ h)
        · intro k hk hkl
          have hki : k ≠ i := by
            rintro rfl
            have : k < listed.size := by omega
            simp [Array.getD, this] at hkl
          rw [getD_set_ne _ (Ne.symm hki)] at hkl
          obtain ⟨g, hg⟩ := hall k hk hkl
          refine ⟨g, ?_⟩
          rcases List.mem_append.1 hg with h | h
          · exact List.mem_append_left _ h
          · cases h with
            | head => exact absurd rfl hki
            | tail _ h => exact List.mem_append_right _ h
        · intro k b hk hb
          by_cases hbi : b = i
          · subst hbi
            have : b < listed.size := by omega
            simp [Array.getD, this]
          · rw [getD_set_ne _ (Ne.symm hbi)]
            by_cases hki : k = i
            · subst hki; exact hdone b hb
            · rw [getD_set_ne _ (Ne.symm hki)] at hk
              exact hcl k b hk hb

theorem region_any {F : Fence} {n : Nat} {Q : Exit → Act → World → Prop} {id : Nat} {a : Act} {w : World} {fr fr2 : AF} {σ σ2 : Heap} {ps : List (Nat × Nat)} {l : List Foot} (hm : P.follows .mixedOrders = true)
    (Rel : Array Bool → AF → Heap → Act → World → Prop) (hbacks : backs 0 ops.toList = true) (hps : openPairs P C ops = some ps) (hl : aopsD P C ev ops base 0 ops.toList fr σ = some (l, fr2, σ2)) (hok : pairsOk l ps = true)
    (hop : ∀ (listed : Array Bool) (i : Nat) (o : Oper) (fr fr1 : AF) (σ σ1 : Heap) (f : Foot) (a : Act) (w : World) (K : Act → World → Prop), ops[i]? = some o → listed.getD i true = false → Rel listed fr σ a w →
      aopD P C ev ops base i o fr σ = some (f, fr1, σ1) → (∀ a' w', Rel (listed.setIfInBounds i true) fr1 σ1 a' w' → K a' w') → wpOpIn F n P ops Q i K a w)
    (hend : ∀ listed a w, Rel listed fr2 σ2 a w → Q .normal a w) (hrel : Rel (Array.replicate ops.size false) fr σ a { w with drawn := w.drawn + 1 }) : (Code.region id ops true).wpIn F n P Q a w := by
  obtain ⟨hlen, hruns⟩ := runs_of_aopsD (base := base) (ops := ops) ops.toList 0 fr fr2 σ σ2 l (fun k o hk => by rw [Nat.zero_add]; simpa using hk) hl
  have hget : ∀ p x, ((List.range' 0 ops.toList.length).zip l)[p]? = some x → x.1 = p ∧ p < ops.size ∧ l[p]? = some x.2 := by
    intro p x hx
    rw [List.getElem?_zip_eq_some] at hx
    obtain ⟨h1, h2⟩ := hx
    have hp : p < ops.size := by
      have := (List.getElem?_eq_some_iff.1 h2).1
      rw [hlen] at this
      simpa using this
    rw [List.getElem?_range' (by simpa using hp)] at h1
    simp only [Option.some.injEq] at h1
    exact ⟨by omega, hp, h2⟩
  have hLlen : ((List.range' 0 ops.toList.length).zip l).length = ops.size := by simp [hlen]
  refine wpIn_region_any hm (any_order (base := base) Rel hbacks hop hend ops.size _ _ fr σ a _ hLlen hruns ?_ (by simp) ?_ ?_ ?_ hrel)
  · rw [List.pairwise_iff_getElem]
    intro p q hp hq hpq
    obtain ⟨e1, b1, g1⟩ := hget p _ (List.getElem?_eq_getElem hp)
    obtain ⟨e2, b2, g2⟩ := hget q _ (List.getElem?_eq_getElem hq)
    refine ⟨by rw [e1, e2]; exact hpq, ?_⟩
    rw [e1, e2]
    rcases openPairs_spec hps hpq (Array.getElem?_eq_getElem b1) (Array.getElem?_eq_getElem b2) with h | ⟨h1, h2⟩
    · exact .inl h
    · refine .inr fun ox oy hx hy => ?_
      rw [e1, Array.getElem?_eq_getElem b1] at hx
      rw [e2, Array.getElem?_eq_getElem b2] at hy
      cases hx
      cases hy
      refine ⟨h1, h2.imp (fun h => h) fun h => ⟨h.1, ?_⟩⟩
      have := pairsOk_spec hok p q h.2
      rw [List.getD_eq_getElem?_getD, List.getD_eq_getElem?_getD, g1, g2] at this
      exact this
  · intro x hx
    obtain ⟨p, hp⟩ := List.mem_iff_getElem?.1 hx
    obtain ⟨e1, b1, _⟩ := hget p x hp
    rw [e1]
    simp [Array.getD, b1]
  · intro k hk _
    have hp : k < ((List.range' 0 ops.toList.length).zip l).length := by rw [hLlen]; exact hk
    obtain ⟨e1, _, _⟩ := hget k _ (List.getElem?_eq_getElem hp)
    refine ⟨(((List.range' 0 ops.toList.length).zip l)[k]).2, ?_⟩
    have : (k, (((List.range' 0 ops.toList.length).zip l)[k]).2) = ((List.range' 0 ops.toList.length).zip l)[k] := Prod.ext e1.symm rfl
    rw [this]
    exact List.getElem_mem hp
  · intro k b hk _
    exfalso
    by_cases hks : k < ops.size <;> simp [Array.getD, hks] at hk
end Go.Nv
