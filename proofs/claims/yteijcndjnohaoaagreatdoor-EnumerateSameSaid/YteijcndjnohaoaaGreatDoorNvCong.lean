/- What an operation does hangs on its operands' values alone. -/
import Derived.Test.YteijcndjnohaoaaGreatDoorNvFrame
import Derived.Test.YteijcndjnohaoaaGreatDoorNvRel
set_option linter.all false
set_option linter.unusedVariables false
set_option linter.unusedSimpArgs false
namespace Go.Nv
open Go
variable {P : Program} {C : Cfg} {ev : Evn} {lim : Nat → Bool} {ρ ρ' : Operand → Option AV} {σ : Heap}

/-- Of the trie: what stands where, once an entry is set. -/
theorem PT.get_set' {α : Type} (t : PT α) (n m : Nat) (x : Option α) : (t.set n x).get m = if m = n then x else t.get m := PT.get_set t n m x

theorem partsA_congr : ∀ {l : List (Nat × Operand)}, (∀ x ∈ l.map (·.2), ρ x = ρ' x) → partsA ρ l = partsA ρ' l
  | [], _ => rfl
  | (i, x) :: r, h => by
    simp only [partsA]
    rw [h x (by simp), partsA_congr fun y hy => h y (by simp only [List.map_cons, List.mem_cons]; exact .inr hy)]

theorem optA_congr {o : Option Operand} (h : ∀ x, o = some x → ρ x = ρ' x) : optA ρ o = optA ρ' o := by
  cases o with
  | none => rfl
  | some x => simp only [optA, h x rfl]

theorem quiet_congr {o : Oper} {slot : Nat} (h : ∀ x ∈ o.op.operands, ρ x = ρ' x) : quietV P C ev slot lim ρ o σ = quietV P C ev slot lim ρ' o σ ∧ footA lim ρ o σ = footA lim ρ' o σ := by
  obtain ⟨dst, op, type, pos, after, guard⟩ := o
  have key : pureV P C ρ ⟨dst, op, type, pos, after, guard⟩ = pureV P C ρ' ⟨dst, op, type, pos, after, guard⟩ ∧ readV P C ev lim ρ ⟨dst, op, type, pos, after, guard⟩ σ = readV P C ev lim ρ' ⟨dst, op, type, pos, after, guard⟩ σ ∧
      allocV P ev lim ρ ⟨dst, op, type, pos, after, guard⟩ σ = allocV P ev lim ρ' ⟨dst, op, type, pos, after, guard⟩ σ ∧ storeV P lim ρ ⟨dst, op, type, pos, after, guard⟩ σ = storeV P lim ρ' ⟨dst, op, type, pos, after, guard⟩ σ ∧
      footA lim ρ ⟨dst, op, type, pos, after, guard⟩ σ = footA lim ρ' ⟨dst, op, type, pos, after, guard⟩ σ := by
    cases op
    case makeMap t r =>
      cases r <;> simp only [Op.operands] at h
      · exact ⟨rfl, rfl, rfl, rfl, rfl⟩
      · rename_i x
        have := h x (by simp)
        refine ⟨rfl, rfl, ?_, rfl, rfl⟩
        simp only [allocV, this]
    case build t ps =>
      simp only [Op.operands] at h
      have := partsA_congr (ρ := ρ) (ρ' := ρ') (l := ps.toList) (fun x hx => h x (by simpa using hx))
      exact ⟨by simp only [pureV, this], rfl, rfl, rfl, rfl⟩
    case buildSlice t n ps =>
      simp only [Op.operands] at h
      have := partsA_congr (ρ := ρ) (ρ' := ρ') (l := ps.toList) (fun x hx => h x (by simpa using hx))
      exact ⟨rfl, rfl, by simp only [allocV, this], rfl, rfl⟩
    case makeFunc fn first caps =>
      simp only [Op.operands] at h
      have h1 := mapO_congr (f := ρ) (g := ρ') (l := first.toList) (fun x hx => h x (by simp at hx; simp [hx]))
      have h2 := mapO_congr (f := ρ) (g := ρ') (l := caps.toList) (fun x hx => h x (by simp at hx; simp [hx]))
      refine ⟨?_, rfl, rfl, rfl, rfl⟩
      cases fn <;> simp only [pureV, h1, h2]
    case slice t x lo hi mx =>
      simp only [Op.operands] at h
      have h0 := h x (by simp)
      have h1 := optA_congr (ρ := ρ) (ρ' := ρ') (o := lo) (fun y hy => h y (by simp [hy]))
      have h2 := optA_congr (ρ := ρ) (ρ' := ρ') (o := hi) (fun y hy => h y (by simp [hy]))
      have h3 := optA_congr (ρ := ρ) (ρ' := ρ') (o := mx) (fun y hy => h y (by simp [hy]))
      exact ⟨by simp only [pureV, h0, h1, h2, h3], rfl, rfl, rfl, rfl⟩
    case call c =>
      obtain ⟨callee, args, argTypes⟩ := c
      simp only [Op.operands] at h
      have hm : ∀ x ∈ args.toList, ρ x = ρ' x := fun x hx => h x (by simp [Call.operands]; right; simpa using hx)
      have hargs := mapO_congr hm
      refine ⟨?_, ?_, ?_, rfl, ?_⟩
      · simp only [pureV]
        split
        · rename_i x t hl ht
          rw [hm x (by rw [hl]; simp)]
        · rename_i x hl
          rw [hm x (by rw [hl]; simp)]
        · rename_i f x hl
          rw [hm x (by rw [hl]; simp)]
        · rename_i x y hl
          rw [hm x (by rw [hl]; simp), hm y (by rw [hl]; simp)]
        · rename_i x y hl
          rw [hm x (by rw [hl]; simp), hm y (by rw [hl]; simp)]
        · rfl
      · simp only [readV]
        split
        · rename_i x t hl ht
          rw [hm x (by rw [hl]; simp)]
        · rw [hargs]
        · rfl
      · simp only [allocV, hargs]
      · simp only [footA, hargs]
    case next x s =>
      simp only [Op.operands] at h
      have h0 := h x (by simp)
      cases s <;> exact ⟨rfl, by simp only [readV, h0], rfl, rfl, rfl⟩
    case typeAssert x xt t ok =>
      simp only [Op.operands] at h
      have h0 := h x (by simp)
      cases ok <;> exact ⟨by simp only [pureV, h0], rfl, rfl, rfl, rfl⟩
    all_goals (simp only [Op.operands] at h; simp only [pureV, readV, allocV, storeV, footA])
    all_goals (try simp at h) <;> (try simp [h])
  obtain ⟨h1, h2, h3, h4, h5⟩ := key
  exact ⟨by simp only [quietV, h1, h2, h3, h4], h5⟩

theorem loudV_congr {o : Oper} (h : ∀ x ∈ o.op.operands, ρ x = ρ' x) : loudV P C ev ρ o σ = loudV P C ev ρ' o σ := by
  obtain ⟨dst, op, type, pos, after, guard⟩ := o
  cases op
  case call c =>
    obtain ⟨callee, args, argTypes⟩ := c
    simp only [Op.operands] at h
    have hm : ∀ x ∈ args.toList, ρ x = ρ' x := fun x hx => h x (by simp [Call.operands]; right; simpa using hx)
    have hargs := mapO_congr hm
    simp only [loudV]
    split
    · rename_i x y t u rest hl ht
      rw [hm x (by rw [hl]; simp), hm y (by rw [hl]; simp)]
    · rename_i x y t rest hl ht
      rw [hm x (by rw [hl]; simp), hm y (by rw [hl]; simp)]
    · rename_i x y t rest hl ht
      rw [hm x (by rw [hl]; simp), hm y (by rw [hl]; simp)]
    · rename_i g
      rw [hargs, h g (by simp [Call.operands])]
    · rfl
  all_goals (simp only [Op.operands] at h; simp only [loudV])
  all_goals (try simp at h) <;> (try simp [h])

/-! ### Frames -/
def AF.upd (fr : AF) (d : Option Tmp) (v : AV) (ds : List Df) : AF := { fr.put d v with dfs := ds ++ fr.dfs }

theorem AF.put_upd (fr : AF) (d : Option Tmp) (v : AV) : fr.put d v = fr.upd d v [] := by cases d <;> rfl
@[simp] theorem AF.upd_sz (fr : AF) (d : Option Tmp) (v : AV) (ds : List Df) : (fr.upd d v ds).sz = fr.sz := by cases d <;> rfl
@[simp] theorem AF.upd_rd (fr : AF) (d : Option Tmp) (v : AV) (ds : List Df) : (fr.upd d v ds).rd = fr.rd := by cases d <;> rfl

theorem AF.upd_val {fr : AF} {d : Option Tmp} {v : AV} {ds : List Df} {x : Operand} (h : ∀ t, d = some t → x ≠ .tmp t) : (fr.upd d v ds).val C x = fr.val C x := by
  cases d with
  | none => cases x <;> rfl
  | some t =>
    cases x
    case tmp s =>
      have hne : s ≠ t := fun e => h t rfl (by rw [e])
      simp only [AF.upd, AF.put, AF.val, PT.get_set', if_neg hne]
    all_goals rfl

theorem AF.upd_comm (fr : AF) {d d' : Option Tmp} (v v' : AV) {ds ds' : List Df} (h : ∀ t, d = some t → d' ≠ some t) (hd : ds = [] ∨ ds' = []) : (fr.upd d v ds).upd d' v' ds' = (fr.upd d' v' ds').upd d v ds := by
  have e : ds' ++ (ds ++ fr.dfs) = ds ++ (ds' ++ fr.dfs) := by rcases hd with rfl | rfl <;> simp
  cases d with
  | none => cases d' <;> simp only [AF.upd, AF.put, e]
  | some t =>
    cases d' with
    | none => simp only [AF.upd, AF.put, e]
    | some t' =>
      have hne : t ≠ t' := fun q => h t rfl (by rw [q])
      simp only [AF.upd, AF.put, e, PT.set_comm _ _ _ hne]

theorem wanted_upd {ops : Array Oper} {o : Oper} {fr : AF} {d : Option Tmp} {v : AV} {ds : List Df} (h : ∀ t, d = some t → t ∉ o.looksAt ops) : wantedA ops o (fr.upd d v ds).tmps = wantedA ops o fr.tmps := by
  cases d with
  | none => rfl
  | some t =>
    unfold wantedA
    cases hg : o.guard with
    | none => rfl
    | some gw =>
      obtain ⟨g, want⟩ := gw
      have hy : yieldedA ops (fr.upd (some t) v ds).tmps g = yieldedA ops fr.tmps g := by
        unfold yieldedA
        cases ht : (ops[g]?).bind (·.dst) with
        | none => rfl
        | some s =>
          have hne : s ≠ t := fun e => h t rfl (by subst e; simp [Oper.looksAt, hg, ht])
          simp only [AF.upd, AF.put, Option.bind_some, PT.get_set', if_neg hne]
      simp only [hy]

theorem apart_vals {ops : Array Oper} {o : Oper} {fr : AF} {d : Option Tmp} {v : AV} {ds : List Df} (h : ∀ t, d = some t → t ∉ o.looksAt ops) : ∀ x ∈ o.op.operands, (fr.upd d v ds).val C x = fr.val C x :=
  fun x hx => AF.upd_val fun t ht hxt => h t ht (by
    subst hxt
    exact List.mem_append_left _ (List.mem_filterMap.2 ⟨.tmp t, by simpa using hx, rfl⟩))

theorem loudE_shape {o : Oper} {fr fr' : AF} {σ' : Heap} (h : loudE P C ev o fr σ = some (.ok fr' σ')) :
    ∃ v ds, fr' = fr.upd o.dst v ds ∧ ∀ fr2 : AF, (∀ x ∈ o.op.operands, fr2.val C x = fr.val C x) → fr2.rd = fr.rd → loudE P C ev o fr2 σ = some (.ok (fr2.upd o.dst v ds) σ') := by
  unfold loudE at h
  split at h
  · rename_i c hop hrd
    split at h
    · rename_i g hc
      simp only [Option.bind_eq_some_iff] at h
      obtain ⟨gv, hg, args, ha, h⟩ := h
      split at h
      · rename_i f first caps
        simp only [Option.some.injEq, OR.ok.injEq] at h
        obtain ⟨rfl, rfl⟩ := h
        refine ⟨undefA, [.call f (first ++ args ++ caps)], rfl, fun fr2 hv hr => ?_⟩
        unfold loudE
        rw [hop, hr, hrd]
        simp only [hc]
        rw [hop] at hv
        rw [hv g (by simp [Op.operands, Call.operands, hc]), hg, mapO_congr fun x hx => hv x (by simp [Op.operands, Call.operands]; right; simpa using hx), ha]
        rfl
      · cases h
    · cases h
  · rename_i hno
    simp only [Option.bind_eq_some_iff] at h
    obtain ⟨⟨r, σ1⟩, hl, h⟩ := h
    split at h
    · rename_i v heq
      simp only [Option.some.injEq, OR.ok.injEq] at h
      obtain ⟨rfl, rfl⟩ := h
      simp only at heq
      subst heq
      refine ⟨v, [], AF.put_upd _ _ _, fun fr2 hv hr => ?_⟩
      unfold loudE
      split
      · rename_i c hop hrd
        exact absurd hrd (by rw [hr]; exact hno c hop)
      · rw [loudV_congr hv, hl]
        simp only [Option.bind_some, AF.put_upd]
    · cases h

end Go.Nv
