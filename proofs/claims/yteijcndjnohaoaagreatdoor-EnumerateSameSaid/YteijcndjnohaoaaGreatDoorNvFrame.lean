/- What an operation that is not loud does hangs on the blocks of its foot alone. -/
import Derived.Test.YteijcndjnohaoaaGreatDoorNvTrie
set_option linter.all false
set_option linter.unusedVariables false
set_option linter.unusedSimpArgs false
namespace Go.Nv
open Go
variable {P : Program} {C : Cfg} {ev : Evn} {lim : Nat → Bool} {ρ : Operand → Option AV} {σ σ' : Heap}

def Foot.Sees : Foot → Nat → Prop
  | .nil, _ => False
  | .one c, b => b = c
  | _, _ => True

/-- Two memories agree on what a foot sees. -/
def Agree (lim : Nat → Bool) (f : Foot) (σ σ' : Heap) : Prop := ∀ b, lim b = true → f.Sees b → σ.get b = σ'.get b

theorem Agree.all {f : Foot} (h : Agree lim f σ σ') (hf : ∀ b, f.Sees b) : ∀ b, lim b = true → σ.get b = σ'.get b := fun b hb => h b hb (hf b)

theorem mapO_congr {α β : Type} {f g : α → Option β} : ∀ {l : List α}, (∀ x ∈ l, f x = g x) → mapO f l = mapO g l
  | [], _ => rfl
  | x :: l, h => by
    simp only [mapO]
    rw [h x (List.mem_cons_self), mapO_congr fun y hy => h y (List.mem_cons_of_mem _ hy)]

theorem freeze_pure : ∀ (d : Nat) (v : AV) (d' : Nat), isPure d v = true → freeze σ lim d' v = freeze σ' lim d' v
  | 0, _, _, h => by simp [isPure] at h
  | d + 1, v, 0, _ => by simp [freeze]
  | d + 1, v, d' + 1, h => by
    have ih := fun (v : AV) (h : isPure d v = true) => freeze_pure d v d' h
    have ihl : ∀ l : List AV, l.all (isPure d) = true → mapO (freeze σ lim d') l = mapO (freeze σ' lim d') l := fun l hl => mapO_congr fun x hx => ih x (List.all_eq_true.1 hl x hx)
    cases v <;> simp only [isPure, Bool.and_eq_true] at h <;> simp only [freeze]
    case fn f a b => rw [ihl a h.1, ihl b h.2]
    case iface t v => rw [ih v h]
    case agg cs => rw [ihl cs h]
    case tup cs => rw [ihl cs h]
    all_goals cases h

theorem freeze_full (h : ∀ b, lim b = true → σ.get b = σ'.get b) : ∀ (d : Nat), freeze σ lim d = freeze σ' lim d
  | 0 => by funext v; simp [freeze]
  | d + 1 => by
    have ih := freeze_full h d
    funext v
    cases v <;> simp only [freeze, ih]
    · rename_i b o
      cases hb : lim b
      · simp
      · rw [h b hb]
    · rename_i b o len sz
      cases hb : lim b
      · simp
      · rw [h b hb]

theorem footHead_full (h : ∀ b, lim b = true → σ.get b = σ'.get b) (v : AV) : footHead lim σ v = footHead lim σ' v := by
  unfold footHead
  split
  · rename_i b o len sz
    cases hb : lim b
    · rfl
    · rw [h b hb]
  · rfl

theorem argsFoot_cons (v : AV) (vs : List AV) : argsFoot lim σ (v :: vs) = footPick (isPure deep v) (argsFoot lim σ vs) (footHead lim σ v) := rfl

theorem argsFoot_full (h : ∀ b, lim b = true → σ.get b = σ'.get b) : ∀ (args : List AV), argsFoot lim σ args = argsFoot lim σ' args
  | [] => rfl
  | v :: vs => by rw [argsFoot_cons, argsFoot_cons, argsFoot_full h vs, footHead_full h v]

theorem footHead_sref (b o len sz : Nat) : footHead lim σ (.sref b o len sz) = (match lim b, σ.get b with
    | true, some (.cells _ _ cs) => (match cs.all (isPure deep) with | true => .one b | false => .all)
    | _, _ => .all) := rfl

theorem freeze_sref (d b o len sz : Nat) : freeze σ lim (d + 1) (.sref b o len sz) = (match lim b, σ.get b with
      | true, some (.cells _ _ cs) => (match Nat.ble (o + len * sz) cs.length with
        | true => (mapO (freeze σ lim d) ((cs.drop o).take (len * sz))).bind fun xs => some (.psl len sz xs)
        | false => none)
      | _, _ => none) := rfl

theorem head_frame {dp : Nat} {v : AV} (h : Agree lim (footHead lim σ v) σ σ') : freeze σ lim dp v = freeze σ' lim dp v ∧ footHead lim σ v = footHead lim σ' v := by
  by_cases hall : ∀ b, (footHead lim σ v).Sees b
  · exact ⟨by rw [freeze_full (h.all hall)], footHead_full (h.all hall) v⟩
  · cases v
    case sref b o len sz =>
      rw [footHead_sref] at h hall ⊢
      rw [footHead_sref]
      cases hb : lim b
      · rw [hb] at hall; exact absurd (fun _ => trivial) hall
      · rw [hb] at h hall
        cases hg : σ.get b with
        | none => rw [hg] at hall; exact absurd (fun _ => trivial) hall
        | some x =>
          cases x
          case cells ty u cs =>
            rw [hg] at h hall
            cases hp : cs.all (isPure deep)
            · simp only [hp] at hall; exact absurd (fun _ => trivial) hall
            · simp only [hp] at h hall
              have hag : σ.get b = σ'.get b := h b hb rfl
              rw [← hag, hg]
              refine ⟨?_, rfl⟩
              cases dp with
              | zero => simp only [freeze]
              | succ d =>
                rw [freeze_sref, freeze_sref, ← hag, hg, hb]
                simp only
                rw [mapO_congr fun x hx => freeze_pure deep x d (List.all_eq_true.1 hp x (List.mem_of_mem_drop (List.mem_of_mem_take hx)))]
          all_goals (rw [hg] at hall; exact absurd (fun _ => trivial) hall)
    all_goals exact absurd (fun _ => trivial) hall

theorem mapO_cons {α β : Type} (f : α → Option β) (x : α) (xs : List α) : mapO f (x :: xs) = (f x).bind fun y => (mapO f xs).bind fun ys => some (y :: ys) := rfl

theorem args_frame {dp : Nat} : ∀ (args : List AV), Agree lim (argsFoot lim σ args) σ σ' →
    mapO (freeze σ lim dp) args = mapO (freeze σ' lim dp) args ∧ argsFoot lim σ args = argsFoot lim σ' args := by
  intro args
  induction args with
  | nil => intro _; exact ⟨rfl, rfl⟩
  | cons v vs ih =>
    intro h
    rw [argsFoot_cons] at h ⊢
    rw [argsFoot_cons, mapO_cons, mapO_cons]
    cases hv : isPure deep v with
    | true =>
      rw [hv] at h
      obtain ⟨h1, h2⟩ := ih h
      rw [h1, freeze_pure deep v dp hv]
      exact ⟨rfl, h2⟩
    | false =>
      rw [hv] at h
      have full : (∀ b, lim b = true → σ.get b = σ'.get b) → ((freeze σ lim dp v).bind fun y => (mapO (freeze σ lim dp) vs).bind fun ys => some (y :: ys)) = ((freeze σ' lim dp v).bind fun y => (mapO (freeze σ' lim dp) vs).bind fun ys => some (y :: ys)) ∧
          footPick false (argsFoot lim σ vs) (footHead lim σ v) = footPick false (argsFoot lim σ' vs) (footHead lim σ' v) := fun hh => by
        rw [freeze_full hh, argsFoot_full hh, footHead_full hh]
        exact ⟨rfl, rfl⟩
      cases hf : argsFoot lim σ vs with
      | nil =>
        rw [hf] at h
        obtain ⟨h1, h2⟩ := ih (by rw [hf]; intro b _ hs; exact hs.elim)
        rw [hf] at h2
        rw [← h2]
        obtain ⟨h3, h4⟩ := head_frame (dp := dp) (v := v) h
        rw [h1, h3]
        exact ⟨rfl, h4⟩
      | one c => rw [hf] at h full; exact full (h.all fun _ => trivial)
      | all => rw [hf] at h full; exact full (h.all fun _ => trivial)
      | chg a b => rw [hf] at h full; exact full (h.all fun _ => trivial)

theorem getLim_eq {b : Nat} (h : lim b = true → σ.get b = σ'.get b) : getLim σ lim b = getLim σ' lim b := by
  unfold getLim
  cases hb : lim b
  · rfl
  · exact h hb

theorem getLim_full (h : ∀ b, lim b = true → σ.get b = σ'.get b) : getLim σ lim = getLim σ' lim := funext fun b => getLim_eq (h b)

theorem callRead_full (h : ∀ b, lim b = true → σ.get b = σ'.get b) (f : Nat) (args : List AV) : callRead P C ev f args σ lim = callRead P C ev f args σ' lim := by
  simp only [callRead, freeze_full h]

theorem read_frame {o : Oper} (h : Agree lim (footA lim ρ o σ) σ σ') : readV P C ev lim ρ o σ = readV P C ev lim ρ o σ' ∧ footA lim ρ o σ = footA lim ρ o σ' := by
  have full : (∀ b, lim b = true → σ.get b = σ'.get b) → readV P C ev lim ρ o σ = readV P C ev lim ρ o σ' := fun hh => by
    unfold readV
    simp only [getLim_full hh, callRead_full hh]
  obtain ⟨dst, op, type, pos, after, guard⟩ := o
  cases op
  case load t x =>
    refine ⟨?_, rfl⟩
    simp only [readV]
    cases hx : ρ x with
    | none => rfl
    | some a =>
      simp only [Option.bind_some]
      cases a <;> try rfl
      rename_i b o
      simp only
      rw [getLim_eq fun hb => h b hb (by simp [footA, hx, Foot.Sees])]
  case lookup t x k ok =>
    refine ⟨?_, rfl⟩
    simp only [readV]
    cases hx : ρ x with
    | none => rfl
    | some a =>
      simp only [Option.bind_some]
      cases a <;> try rfl
      rename_i b
      simp only
      rw [getLim_eq fun hb => h b hb (by simp [footA, hx, Foot.Sees])]
  case convert s d x =>
    refine ⟨?_, rfl⟩
    simp only [readV]
    cases hx : ρ x with
    | none => rfl
    | some a =>
      simp only [Option.bind_some]
      cases a <;> try rfl
      · rename_i b o
        simp only
        rw [getLim_eq fun hb => h b hb (by simp [footA, hx, Foot.Sees])]
      · rename_i b o len sz
        simp only
        rw [getLim_eq fun hb => h b hb (by simp [footA, hx, Foot.Sees])]
  case call c =>
    obtain ⟨callee, args, argTypes⟩ := c
    by_cases hfn : ∃ f, callee = .value (.func f)
    · obtain ⟨f, rfl⟩ := hfn
      cases hm : mapO ρ args.toList with
      | none => simp only [readV, footA, hm, Option.bind_none, and_self]
      | some as =>
        have e : ∀ σ : Heap, footA lim ρ ⟨dst, .call ⟨.value (.func f), args, argTypes⟩, type, pos, after, guard⟩ σ = argsFoot lim σ as := fun σ => by simp only [footA, hm]
        rw [e] at h
        rw [e, e]
        obtain ⟨h1, h2⟩ := args_frame (dp := deep) as h
        refine ⟨?_, h2⟩
        simp only [readV, hm, Option.bind_some, callRead, h1]
    · have e : ∀ σ : Heap, footA lim ρ ⟨dst, .call ⟨callee, args, argTypes⟩, type, pos, after, guard⟩ σ = .all := fun σ => by
        cases callee with
        | value g => cases g with
          | func f => exact absurd ⟨f, rfl⟩ hfn
          | _ => rfl
        | _ => rfl
      rw [e] at h
      rw [e, e]
      exact ⟨full (h.all fun b => trivial), rfl⟩
  case next x s =>
    exact ⟨full (h.all fun b => trivial), rfl⟩
  all_goals exact ⟨rfl, rfl⟩

theorem alloc_frame {o : Oper} (h : Agree lim (footA lim ρ o σ) σ σ') : allocV P ev lim ρ o σ = allocV P ev lim ρ o σ' ∧ footA lim ρ o σ = footA lim ρ o σ' := by
  obtain ⟨dst, op, type, pos, after, guard⟩ := o
  cases op
  case call c =>
    obtain ⟨callee, args, argTypes⟩ := c
    by_cases hfn : ∃ f, callee = .value (.func f)
    · obtain ⟨f, rfl⟩ := hfn
      cases hm : mapO ρ args.toList with
      | none => simp only [allocV, staticF, footA, hm, Option.bind_none, and_self]
      | some as =>
        have e : ∀ σ : Heap, footA lim ρ ⟨dst, .call ⟨.value (.func f), args, argTypes⟩, type, pos, after, guard⟩ σ = argsFoot lim σ as := fun σ => by simp only [footA, hm]
        rw [e] at h
        rw [e, e]
        obtain ⟨h1, h2⟩ := args_frame (dp := deep) as h
        refine ⟨?_, h2⟩
        simp only [allocV, staticF, hm, Option.bind_some, h1]
    · have e : ∀ σ : Heap, footA lim ρ ⟨dst, .call ⟨callee, args, argTypes⟩, type, pos, after, guard⟩ σ = .all := fun σ => by
        cases callee with
        | value g => cases g with
          | func f => exact absurd ⟨f, rfl⟩ hfn
          | _ => rfl
        | _ => rfl
      rw [e, e]
      refine ⟨?_, rfl⟩
      have hst : staticF ⟨callee, args, argTypes⟩ = none := by
        unfold staticF
        split
        · rename_i f hc; exact absurd ⟨f, hc⟩ hfn
        · rfl
      simp only [allocV, hst]
  case makeMap t r => cases r <;> exact ⟨rfl, rfl⟩
  all_goals exact ⟨rfl, rfl⟩

theorem store_frame {o : Oper} (h : Agree lim (footA lim ρ o σ) σ σ') : storeV P lim ρ o σ = storeV P lim ρ o σ' := by
  obtain ⟨dst, op, type, pos, after, guard⟩ := o
  cases op <;> try rfl
  rename_i t x y
  simp only [storeV]
  cases hx : ρ x with
  | none => rfl
  | some a =>
    simp only [Option.bind_some]
    cases a <;> try rfl
    rename_i b o
    simp only
    rw [getLim_eq fun hb => h b hb (by simp [footA, hx, Foot.Sees])]

theorem quiet_frame {o : Oper} {slot : Nat} (h : (match clOf P C o with | .pure => True | _ => Agree lim (footA lim ρ o σ) σ σ')) :
    quietV P C ev slot lim ρ o σ = quietV P C ev slot lim ρ o σ' ∧ (match clOf P C o with | .pure => True | _ => footA lim ρ o σ = footA lim ρ o σ') := by
  unfold quietV
  cases hc : clOf P C o <;> simp only [hc] at h ⊢ 
  · exact ⟨trivial, trivial⟩
  · obtain ⟨h1, h2⟩ := read_frame (P := P) (C := C) (ev := ev) h
    exact ⟨by rw [h1], h2⟩
  · obtain ⟨h1, h2⟩ := alloc_frame (P := P) (ev := ev) h
    exact ⟨by rw [h1], h2⟩
  · have h1 := store_frame (P := P) h
    obtain ⟨_, h2⟩ := alloc_frame (P := P) (ev := ev) h
    exact ⟨by rw [h1], h2⟩
  · obtain ⟨_, h2⟩ := alloc_frame (P := P) (ev := ev) h
    exact ⟨trivial, h2⟩
end Go.Nv
