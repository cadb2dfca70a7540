/- Memory made immutable; calls over an empty memory of their own. -/
import Derived.Test.YteijcndjnohaoaaGreatDoorNvSim
set_option linter.all false
set_option linter.unusedVariables false
set_option linter.unusedSimpArgs false
namespace Go.Nv
open Go
variable {P : Program} {C : Cfg} {ev : Evn} {im im2 : IM} {fx : FX} {μ μ2 : Mu} {w : World} {σ : Heap} {lim : Nat → Bool}

/-- What is immutable lies in the world. -/
def ImOk (im : IM) (w : World) : Prop := ∀ c l, im c = some l → ∃ arr ty fr, w.heap[c]? = some (.cells arr ty fr) ∧ arr.toList = l
def mu0 : Mu := fun _ => none
def Keeps (w w' : World) : Prop := (∀ (c : Nat) (o : Obj), w.heap[c]? = some o → w'.heap[c]? = some o) ∧ away w' = away w

mutual
theorem SimV.noref (hle : ∀ c l, im c = some l → im2 c = some l) : ∀ {x : AV} {y : Value}, SimV im μ x y → NoRef x → SimV im2 μ2 x y
  | _, _, .bool b, _ => .bool b
  | _, _, .int k n, _ => .int k n
  | _, _, .str s, _ => .str s
  | _, _, .nilp, _ => .nilp
  | _, _, .ptr b o cb base tot h, hn => by cases hn
  | _, _, .pptr cs hx cb off l h hb hs, hn => .pptr cs hx cb off l (hle _ _ h) hb (SimL.noref hle hs hx)
  | _, _, .snil, _ => .snil
  | _, _, .sref b o len sz cb base tot cap a h hl ha, hn => by cases hn
  | _, _, .psl0 sz cap a, _ => .psl0 sz cap a
  | _, _, .psl len sz cs hx cap cb off l hn hl h hb hs, _ => .psl len sz cs hx cap cb off l hn hl (hle _ _ h) hb (SimL.noref hle hs hx)
  | _, _, .nilm, _ => .nilm
  | _, _, .mref b cb base tot h, hn => by cases hn
  | _, _, .nilf, _ => .nilf
  | _, _, .fn f first caps first' caps' h1 h2, hn => by
    cases hn with
    | fn _ _ _ ha hb => exact .fn f first caps first' caps' (SimL.noref hle h1 ha) (SimL.noref hle h2 hb)
  | _, _, .yld b cb base tot h, hn => by cases hn
  | _, _, .nili, _ => .nili
  | _, _, .iface t v v' h, hn => by
    cases hn with
    | iface _ _ ha => exact .iface t v v' (SimV.noref hle h ha)
  | _, _, .agg cs cs' h, hn => by
    cases hn with
    | agg _ ha => exact .agg cs cs' (SimL.noref hle h ha)
  | _, _, .tup cs cs' h, hn => by
    cases hn with
    | tup _ ha => exact .tup cs cs' (SimL.noref hle h ha)
theorem SimL.noref (hle : ∀ c l, im c = some l → im2 c = some l) : ∀ {x : List AV} {y : List Value}, SimL im μ x y → (∀ v, v ∈ x → NoRef v) → SimL im2 μ2 x y
  | _, _, .nil, _ => .nil
  | _, _, .cons x y xs ys h hs, hn => .cons x y xs ys (SimV.noref hle h (hn x List.mem_cons_self)) (SimL.noref hle hs fun v hv => hn v (List.mem_cons_of_mem _ hv))
end

theorem pure_noref : ∀ (d : Nat) {x : AV} {y : Value}, isPure d x = true → SimV im μ x y → NoRef x
  | 0, _, _, h, _ => by simp [isPure] at h
  | d + 1, x, y, h, hs => by
    have hl : ∀ {xs : List AV} {ys : List Value}, xs.all (isPure d) = true → SimL im μ xs ys → ∀ v, v ∈ xs → NoRef v := by
      intro xs
      induction xs with
      | nil => intro ys _ _ v hv; cases hv
      | cons x xs ih =>
        intro ys ha hs v hv
        simp only [List.all_cons, Bool.and_eq_true] at ha
        cases hs with
        | cons _ _ _ _ h1 h2 =>
          cases hv with
          | head => exact pure_noref d ha.1 h1
          | tail _ hv => exact ih ha.2 h2 v hv
    cases hs with
    | bool b => exact .bool b
    | int k n => exact .int k n
    | str s => exact .str s
    | nilp => exact .nilp
    | ptr b o cb base tot hm => simp [isPure] at h
    | pptr cs hx => exact .pptr cs hx
    | snil => exact .snil
    | sref => simp [isPure] at h
    | psl0 => exact .psl _ _ _ (fun x hx => by cases hx)
    | psl len sz cs hx => exact .psl _ _ _ hx
    | nilm => exact .nilm
    | mref => simp [isPure] at h
    | nilf => exact .nilf
    | fn f a b a' b' h1 h2 =>
      simp only [isPure, Bool.and_eq_true] at h
      exact .fn f a b (hl h.1 h1) (hl h.2 h2)
    | yld => simp [isPure] at h
    | nili => exact .nili
    | iface t v v' hv => exact .iface t v (pure_noref d (by simpa [isPure] using h) hv)
    | agg cs cs' hc => exact .agg cs (hl (by simpa [isPure] using h) hc)
    | tup cs cs' hc => exact .tup cs (hl (by simpa [isPure] using h) hc)

theorem pure_norefL {xs : List AV} {ys : List Value} (d : Nat) (h : xs.all (isPure d) = true) (hs : SimL im μ xs ys) : ∀ v, v ∈ xs → NoRef v := by
  induction xs generalizing ys with
  | nil => intro v hv; cases hv
  | cons x xs ih =>
    intro v hv
    simp only [List.all_cons, Bool.and_eq_true] at h
    cases hs with
    | cons _ _ _ _ h1 h2 =>
      cases hv with
      | head => exact pure_noref d h.1 h1
      | tail _ hv => exact ih h.2 h2 v hv

theorem scal_sim' : ∀ (d : Nat) {x : AV} {y : Value}, isScal d x = true → SimV im μ x y → SimV im2 μ2 x y ∧ NoRef x
  | 0, _, _, h, _ => by simp [isScal] at h
  | d + 1, x, y, h, hs => by
    have hl : ∀ {xs : List AV} {ys : List Value}, xs.all (isScal d) = true → SimL im μ xs ys → SimL im2 μ2 xs ys ∧ ∀ v, v ∈ xs → NoRef v := by
      intro xs
      induction xs with
      | nil => intro ys _ hs; cases hs; exact ⟨.nil, fun _ h => by cases h⟩
      | cons x xs ih =>
        intro ys ha hs
        simp only [List.all_cons, Bool.and_eq_true] at ha
        cases hs with
        | cons _ _ _ _ h1 h2 =>
          obtain ⟨q1, q2⟩ := scal_sim' d ha.1 h1
          obtain ⟨q3, q4⟩ := ih ha.2 h2
          exact ⟨.cons _ _ _ _ q1 q3, fun v hv => by
            cases hv with
            | head => exact q2
            | tail _ hv => exact q4 v hv⟩
    cases hs with
    | bool b => exact ⟨.bool b, .bool b⟩
    | int k n => exact ⟨.int k n, .int k n⟩
    | str s => exact ⟨.str s, .str s⟩
    | nilp => exact ⟨.nilp, .nilp⟩
    | snil => exact ⟨.snil, .snil⟩
    | nilm => exact ⟨.nilm, .nilm⟩
    | nilf => exact ⟨.nilf, .nilf⟩
    | nili => exact ⟨.nili, .nili⟩
    | agg cs cs' hc =>
      obtain ⟨q1, q2⟩ := hl (by simpa [isScal] using h) hc
      exact ⟨.agg _ _ q1, .agg _ q2⟩
    | tup cs cs' hc =>
      obtain ⟨q1, q2⟩ := hl (by simpa [isScal] using h) hc
      exact ⟨.tup _ _ q1, .tup _ q2⟩
    | _ => simp [isScal] at h

theorem scal_simL {d : Nat} {xs : List AV} {ys : List Value} (h : xs.all (isScal d) = true) (hs : SimL im μ xs ys) : SimL im2 μ2 xs ys := by
  induction xs generalizing ys with
  | nil => cases hs; exact .nil
  | cons x xs ih =>
    simp only [List.all_cons, Bool.and_eq_true] at h
    cases hs with
    | cons _ _ _ _ h1 h2 => exact .cons _ _ _ _ (scal_sim' d h.1 h1).1 (ih h.2 h2)

/-- The block is immutable from now on. -/
def Cov (im2 : IM) (μ : Mu) (w : World) (σ : Heap) (b : Nat) : Prop := ∀ x cb base tot arr ty fr, σ.get b = some x → μ b = some (cb, base, tot) → w.heap[cb]? = some (.cells arr ty fr) → im2 cb = some arr.toList

theorem reach_mem {d b : Nat} {ty : TypeId} {u : Bool} {cs : List AV} {x : AV} (hx : (∃ o, x = .ptr b o) ∨ ∃ o len sz, x = .sref b o len sz) (hg : σ.get b = some (.cells ty u cs)) : reach σ (d + 1) x = b :: cs.flatMap (reach σ d) := by
  rcases hx with ⟨o, rfl⟩ | ⟨o, len, sz, rfl⟩ <;> simp only [reach, hg]

theorem freezeL_ok {f : AV → Option AV} {R : AV → List Nat} {ok : Nat → Prop} (hf : ∀ x y v, f x = some v → SimV im μ x y → (∀ b, b ∈ R x → ok b) → SimV im2 μ2 v y ∧ NoRef v) :
    ∀ {xs vs : List AV} {ys : List Value}, mapO f xs = some vs → SimL im μ xs ys → (∀ b, b ∈ xs.flatMap R → ok b) → SimL im2 μ2 vs ys ∧ (∀ v, v ∈ vs → NoRef v) ∧ vs.length = xs.length
  | [], vs, ys, h, hs, _ => by
    simp only [mapO, Option.some.injEq] at h
    subst h
    cases hs
    exact ⟨.nil, (fun _ h => by cases h), rfl⟩
  | x :: xs, vs, ys, h, hs, hb => by
    simp only [mapO, Option.bind_eq_some_iff, Option.some.injEq] at h
    obtain ⟨v, hv, vs', hvs, rfl⟩ := h
    cases hs with
    | cons _ _ _ _ h1 h2 =>
      obtain ⟨q1, q2⟩ := hf _ _ _ hv h1 (fun b hb' => hb b (List.mem_flatMap.2 ⟨x, List.mem_cons_self, hb'⟩))
      obtain ⟨q3, q4, q5⟩ := freezeL_ok hf hvs h2 (fun b hb' => by
        obtain ⟨z, hz, hz'⟩ := List.mem_flatMap.1 hb'
        exact hb b (List.mem_flatMap.2 ⟨z, List.mem_cons_of_mem _ hz, hz'⟩))
      exact ⟨.cons _ _ _ _ q1 q3, fun v hv => by
        cases hv with
        | head => exact q2
        | tail _ hv => exact q4 v hv, by simp [q5]⟩

theorem freeze_ok (H : WSim im fx μ w σ) (hle : ∀ c l, im c = some l → im2 c = some l) : ∀ (d : Nat) (x : AV) (y : Value) (v : AV), freeze σ lim d x = some v → SimV im μ x y → (∀ b, b ∈ reach σ d x → Cov im2 μ w σ b) → SimV im2 μ2 v y ∧ NoRef v
  | 0, _, _, _, h, _, _ => by simp [freeze] at h
  | d + 1, x, y, v, h, hs, hb => by
    have ihl := fun {xs vs : List AV} {ys : List Value} => freezeL_ok (im2 := im2) (μ2 := μ2) (f := freeze σ lim d) (R := reach σ d) (ok := Cov im2 μ w σ) (fun x y v => freeze_ok H hle d x y v) (xs := xs) (vs := vs) (ys := ys)
    cases hs with
    | bool b => simp only [freeze, Option.some.injEq] at h; subst h; exact ⟨.bool b, .bool b⟩
    | int k n => simp only [freeze, Option.some.injEq] at h; subst h; exact ⟨.int k n, .int k n⟩
    | str s => simp only [freeze, Option.some.injEq] at h; subst h; exact ⟨.str s, .str s⟩
    | nilp => simp only [freeze, Option.some.injEq] at h; subst h; exact ⟨.nilp, .nilp⟩
    | snil => simp only [freeze, Option.some.injEq] at h; subst h; exact ⟨.snil, .snil⟩
    | nilm => simp only [freeze, Option.some.injEq] at h; subst h; exact ⟨.nilm, .nilm⟩
    | nilf => simp only [freeze, Option.some.injEq] at h; subst h; exact ⟨.nilf, .nilf⟩
    | nili => simp only [freeze, Option.some.injEq] at h; subst h; exact ⟨.nili, .nili⟩
    | pptr cs hx cb off l h1 h2 h3 =>
      simp only [freeze, Option.some.injEq] at h
      subst h
      exact ⟨(SimV.pptr cs hx cb off l h1 h2 h3).noref hle (.pptr cs hx), .pptr cs hx⟩
    | psl0 sz cap a => simp only [freeze, Option.some.injEq] at h; subst h; exact ⟨.psl0 sz cap a, .psl _ _ _ (fun x hx => by cases hx)⟩
    | psl len sz cs hx cap cb off l hn hl h1 h2 h3 =>
      simp only [freeze, Option.some.injEq] at h
      subst h
      exact ⟨(SimV.psl len sz cs hx cap cb off l hn hl h1 h2 h3).noref hle (.psl _ _ _ hx), .psl _ _ _ hx⟩
    | mref b => simp only [freeze] at h; cases h
    | yld b => simp only [freeze] at h; cases h
    | fn f a b a' b' h1 h2 =>
      simp only [freeze, Option.bind_eq_some_iff, Option.some.injEq] at h
      obtain ⟨xs, hxs, ys, hys, rfl⟩ := h
      obtain ⟨q1, q2, _⟩ := ihl hxs h1 (fun b hb' => hb b (by simp only [reach]; exact List.mem_append_left _ hb'))
      obtain ⟨q3, q4, _⟩ := ihl hys h2 (fun b hb' => hb b (by simp only [reach]; exact List.mem_append_right _ hb'))
      exact ⟨.fn _ _ _ _ _ q1 q3, .fn _ _ _ q2 q4⟩
    | iface t v0 v' hv =>
      simp only [freeze, Option.bind_eq_some_iff, Option.some.injEq] at h
      obtain ⟨x, hx, rfl⟩ := h
      obtain ⟨q1, q2⟩ := freeze_ok H hle d _ _ _ hx hv (fun b hb' => hb b (by simp only [reach]; exact hb'))
      exact ⟨.iface _ _ _ q1, .iface _ _ q2⟩
    | agg cs cs' hc =>
      simp only [freeze, Option.bind_eq_some_iff, Option.some.injEq] at h
      obtain ⟨xs, hxs, rfl⟩ := h
      obtain ⟨q1, q2, _⟩ := ihl hxs hc (fun b hb' => hb b (by simp only [reach]; exact hb'))
      exact ⟨.agg _ _ q1, .agg _ q2⟩
    | tup cs cs' hc =>
      simp only [freeze, Option.bind_eq_some_iff, Option.some.injEq] at h
      obtain ⟨xs, hxs, rfl⟩ := h
      obtain ⟨q1, q2, _⟩ := ihl hxs hc (fun b hb' => hb b (by simp only [reach]; exact hb'))
      exact ⟨.tup _ _ q1, .tup _ q2⟩
    | ptr b o cb base tot hm =>
      simp only [freeze] at h
      split at h
      · rename_i ty u cs hl hg
        split at h
        · rename_i hle'
          simp only [Option.bind_eq_some_iff, Option.some.injEq] at h
          obtain ⟨xs, hxs, rfl⟩ := h
          have hr := reach_mem (σ := σ) (d := d) (x := .ptr b o) (.inl ⟨o, rfl⟩) hg
          obtain ⟨cb2, base2, tot2, arr, fr, q1, q2, q3, q4, q5, q6, q7, q8, q9⟩ := H.cells hg
          rw [hm] at q1
          cases q1
          have hcov := hb b (by rw [hr]; exact List.mem_cons_self) _ cb base tot arr ty fr hg hm q4
          obtain ⟨g1, g2, g3⟩ := ihl hxs (q9.drop o) (fun c hc => hb c (by
            rw [hr]
            obtain ⟨z, hz, hz'⟩ := List.mem_flatMap.1 hc
            exact List.mem_cons_of_mem _ (List.mem_flatMap.2 ⟨z, List.mem_of_mem_drop hz, hz'⟩)))
          have hle2 := Nat.le_of_ble_eq_true hle'
          have hlen : xs.length = cs.length - o := by rw [g3, List.length_drop]
          have harr : arr.toList.length = arr.size := by simp
          refine ⟨.pptr xs g2 cb (base + o) arr.toList hcov (by omega) ?_, .pptr xs g2⟩
          have e : List.drop o (List.take cs.length (List.drop base arr.toList)) = List.take xs.length (List.drop (base + o) arr.toList) := by
            rw [List.drop_take, List.drop_drop, hlen]
          rw [← e]
          exact g1
        · cases h
      · cases h
    | sref b o len sz cb base tot cap a hm hl ha =>
      simp only [freeze] at h
      split at h
      · rename_i ty u cs hlm hg
        split at h
        · rename_i hle'
          simp only [Option.bind_eq_some_iff, Option.some.injEq] at h
          obtain ⟨xs, hxs, rfl⟩ := h
          have hr := reach_mem (σ := σ) (d := d) (x := .sref b o len sz) (.inr ⟨o, len, sz, rfl⟩) hg
          obtain ⟨cb2, base2, tot2, arr, fr, q1, q2, q3, q4, q5, q6, q7, q8, q9⟩ := H.cells hg
          rw [hm] at q1
          cases q1
          have hcov := hb b (by rw [hr]; exact List.mem_cons_self) _ cb base tot arr ty fr hg hm q4
          obtain ⟨g1, g2, g3⟩ := ihl hxs ((q9.drop o).take (len * sz)) (fun c hc => hb c (by
            rw [hr]
            obtain ⟨z, hz, hz'⟩ := List.mem_flatMap.1 hc
            exact List.mem_cons_of_mem _ (List.mem_flatMap.2 ⟨z, List.mem_of_mem_drop (List.mem_of_mem_take hz), hz'⟩)))
          have hle2 := Nat.le_of_ble_eq_true hle'
          have hlen : xs.length = len * sz := by rw [g3, List.length_take, List.length_drop]; omega
          have harr : arr.toList.length = arr.size := by simp
          rcases Nat.eq_zero_or_pos len with h0 | h0
          · subst h0
            have : xs = [] := List.eq_nil_of_length_eq_zero (by rw [hlen, Nat.zero_mul])
            subst this
            exact ⟨.psl0 sz cap a, .psl _ _ _ (fun x hx => by cases hx)⟩
          rcases ha with ha | ⟨rfl, ha⟩
          · omega
          refine ⟨.psl len sz xs g2 cap cb (base + o) arr.toList hlen hl hcov (by omega) ?_, .psl _ _ _ g2⟩
          have e : List.take (len * sz) (List.drop o (List.take cs.length (List.drop base arr.toList))) = List.take xs.length (List.drop (base + o) arr.toList) := by
            rw [List.drop_take, List.drop_drop, List.take_take, hlen]
            congr 1
            omega
          rw [← e]
          exact g1
        · cases h
      · cases h
end Go.Nv
