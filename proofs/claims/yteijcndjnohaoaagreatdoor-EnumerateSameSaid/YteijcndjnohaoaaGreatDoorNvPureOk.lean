/- Pure operations, all of them. -/
import Derived.Test.YteijcndjnohaoaaGreatDoorNvPureOps
set_option linter.all false
set_option linter.unusedVariables false
set_option linter.unusedSimpArgs false
namespace Go.Nv
open Go
variable {P : Program} {C : Cfg} {im : IM} {μ : Mu} {ρ : Operand → Option AV} {ρ' : Operand → Value}

theorem SimL.setSeg {xs : List AV} {ys : List Value} {vs : List AV} {ws : List Value} (o : Nat) (h : SimL im μ xs ys) (h' : SimL im μ vs ws) : SimL im μ (Nv.setSeg xs o vs) (Nv.setSeg ys o ws) := by
  unfold Nv.setSeg
  rw [h'.length]
  exact (h.take o).append (h'.append (h.drop (o + ws.length)))

theorem setSeg_length {α : Type} (l : List α) (o : Nat) (vs : List α) (h : o + vs.length ≤ l.length) : (setSeg l o vs).length = l.length := by
  simp [setSeg]; omega

theorem foldl_set (off : Nat) : ∀ (l : List Value) (k : Nat) (arr : Array Value), off + k + l.length ≤ arr.size →
    ((l.zipIdx k).foldl (fun cs (p : Value × Nat) => cs.setIfInBounds (off + p.2) p.1) arr).toList = setSeg arr.toList (off + k) l
  | [], k, arr, h => by simp [setSeg]
  | v :: l, k, arr, h => by
    simp only [List.length_cons] at h
    simp only [List.zipIdx_cons, List.foldl_cons]
    rw [foldl_set off l (k + 1) _ (by simp; omega)]
    simp only [setSeg, Array.toList_setIfInBounds, List.length_cons]
    have hlt : off + k < arr.toList.length := by simp; omega
    have hA : arr.toList.length = arr.size := by simp
    generalize arr.toList = L at *
    have hL1 : (List.take (off + (k + 1)) (L.set (off + k) v)).length = off + k + 1 := by rw [List.length_take, List.length_set]; omega
    have hL2 : (List.take (off + k) L).length = off + k := by rw [List.length_take]; omega
    apply List.ext_getElem?
    intro i
    rcases Nat.lt_trichotomy i (off + k) with hi | hi | hi
    · rw [List.getElem?_append_left (by omega), List.getElem?_append_left (by omega)]
      rw [List.getElem?_take_of_lt (by omega), List.getElem?_take_of_lt hi, List.getElem?_set_ne (by omega)]
    · subst hi
      rw [List.getElem?_append_left (by omega), List.getElem?_append_right (by omega), List.getElem?_take_of_lt (by omega), hL2]
      simp [hlt]
    · have e1 : i - (off + k + 1) = i - (off + k) - 1 := by omega
      have e2 : i - (off + k) = (i - (off + k) - 1) + 1 := by omega
      rw [List.getElem?_append_right (by omega), hL1, e1, List.getElem?_append_right (by omega : (List.take (off + k) L).length ≤ i), hL2, e2, List.cons_append, List.getElem?_cons_succ]
      by_cases hl : i - (off + k) - 1 < l.length
      · rw [List.getElem?_append_left (by omega), List.getElem?_append_left (by omega)]
        congr 1
      · rw [List.getElem?_append_right (by omega), List.getElem?_append_right (by omega)]
        rw [List.getElem?_drop, List.getElem?_drop]
        rw [List.getElem?_set_ne (by omega)]
        congr 1
        omega

def PartsSim (im : IM) (μ : Mu) : List (Nat × AV) → List (Nat × Value) → Prop
  | [], [] => True
  | (i, v) :: r, (j, w) :: s => i = j ∧ SimV im μ v w ∧ PartsSim im μ r s
  | _, _ => False
theorem partsA_sim (hρ : OSim im μ ρ ρ') : ∀ {ps : List (Nat × Operand)} {vs : List (Nat × AV)}, partsA ρ ps = some vs → PartsSim im μ vs (ps.map fun (i, x) => (i, ρ' x))
  | [], vs, h => by simp [partsA] at h; subst h; trivial
  | (i, x) :: ps, vs, h => by
    simp only [partsA, Option.bind_eq_some_iff] at h
    obtain ⟨v, hv, ys, hy, h⟩ := h
    simp only [Option.some.injEq] at h
    subst h
    exact ⟨rfl, hρ _ _ hv, partsA_sim hρ hy⟩

theorem fillA_ok {pl : Nat → Option (Nat × Nat)} : ∀ {parts : List (Nat × AV)} {parts' : List (Nat × Value)} {cs vs : List AV} {arr : Array Value}, fillA pl cs parts = some vs → SimL im μ cs arr.toList →
    PartsSim im μ parts parts' → ∃ arr', Instr.fill pl arr parts' = some arr' ∧ SimL im μ vs arr'.toList
  | [], parts', cs, vs, arr, h, hs, hp => by
    simp only [fillA, Option.some.injEq] at h
    subst h
    cases parts' with
    | nil => exact ⟨arr, rfl, hs⟩
    | cons p r => exact hp.elim
  | (i, v) :: r, parts', cs, vs, arr, h, hs, hp => by
    cases parts' with
    | nil => exact hp.elim
    | cons p s =>
      obtain ⟨j, v'⟩ := p
      obtain ⟨rfl, hv, hp⟩ := hp
      simp only [fillA, Option.bind_eq_some_iff] at h
      obtain ⟨⟨off, size⟩, hpl, h⟩ := h
      simp only at h
      split at h
      · rename_i h1 h2
        have h1' := Nat.eq_of_beq_eq_true h1
        have h2' := Nat.le_of_ble_eq_true h2
        have hl := hs.length
        have hvl := hv.cells.length
        simp only [Array.length_toList] at hl hvl
        have e1 : ¬ (v'.cells.size ≠ size) := by omega
        have e2 : ¬ (off + v'.cells.size > arr.size) := by omega
        have key : (v'.cells.zipIdx.foldl (fun cs (c, j) => cs.setIfInBounds (off + j) c) arr).toList = setSeg arr.toList off v'.cells.toList := by
          rw [← Array.foldl_toList, Array.toList_zipIdx]
          have := foldl_set off v'.cells.toList 0 arr (by simp; omega)
          simpa using this
        have hs' : SimL im μ (setSeg cs off v.cells) (v'.cells.zipIdx.foldl (fun cs (c, j) => cs.setIfInBounds (off + j) c) arr).toList := by
          rw [key]; exact SimL.setSeg off hs hv.cells
        obtain ⟨arr', g1, g2⟩ := fillA_ok h hs' hp
        refine ⟨arr', ?_, g2⟩
        simp only [Instr.fill, hpl]
        rw [if_neg (by simp; omega)]
        exact g1
      · cases h

theorem repCells_length {α : Type} (z : List α) : ∀ n, (repCells z n).length = n * z.length
  | 0 => by simp [repCells]
  | n + 1 => by simp [repCells, repCells_length z n, Nat.succ_mul]; omega

theorem run_mapM_places (w : World) : ∀ (l : List Field) (pl : List (Nat × Nat)), mapO (fun f => (tSize P f.type).bind fun n => some (f.offset, n)) l = some pl →
    (l.mapM (fun f => do pure (f.offset, ← sizeOf f.type) : Field → Sem (Nat × Nat))).run P w = .ok pl w
  | [], pl, h => by simp [mapO] at h; subst h; simp
  | f :: l, pl, h => by
    simp only [mapO, Option.bind_eq_some_iff] at h
    obtain ⟨y, ⟨n, hn, hy⟩, ys, hys, h⟩ := h
    simp only [Option.some.injEq] at h hy
    subst h hy
    have ih := run_mapM_places w l ys hys
    rw [List.mapM_cons]
    simp only [Sem.run_bind, run_sizeOf_of hn, Result.andThen_ok, Sem.run_pure, ih]

theorem buildV_ok {t : TypeId} {parts : List (Nat × AV)} {parts' : Array (Nat × Value)} {v : AV} (h : buildV P t parts = some v) (hp : PartsSim im μ parts parts'.toList) (w : World) :
    ∃ v', (Instr.build t parts').run P w = .ok v' w ∧ SimV im μ v v' := by
  unfold buildV at h
  simp only [Option.bind_eq_some_iff] at h
  obtain ⟨z, hz, pl, hpl, cs, hcs, h⟩ := h
  simp only [Option.some.injEq] at h
  subst h
  obtain ⟨z', hsz, hrz⟩ := run_zeroValue_of (im := im) (μ := μ) hz
  unfold placesOf at hpl
  simp only [Option.bind_eq_some_iff] at hpl
  obtain ⟨d, hd, hpl⟩ := hpl
  cases d <;> simp only [Option.bind_eq_some_iff, Option.some.injEq] at hpl <;> try (cases hpl; done)
  case array n e =>
    obtain ⟨m, hm, hpl⟩ := hpl
    subst hpl
    obtain ⟨arr', h1, h2⟩ := fillA_ok hcs hsz.cells hp
    exact ⟨.agg arr', by simp [Instr.build, hrz w, run_underlying_of hd, run_sizeOf_of hm, h1], .agg _ _ h2⟩
  case struct fs =>
    obtain ⟨l, hl, hpl⟩ := hpl
    subst hpl
    have hm := run_mapM_places (P := P) w fs.toList l hl
    have hm' : (fs.mapM (fun f => do pure (f.offset, ← sizeOf f.type) : Field → Sem (Nat × Nat))).run P w = .ok l.toArray w := by
      rw [Array.mapM_eq_mapM_toList]
      simp only [Sem.run_map, hm, Result.andThen_ok]
    have e : (fun i : Nat => l[i]?) = (fun i : Nat => l.toArray[i]?) := by funext i; simp
    rw [e] at hcs
    obtain ⟨arr', h1, h2⟩ := fillA_ok hcs hsz.cells hp
    refine ⟨.agg arr', ?_, .agg _ _ h2⟩
    simp only [Instr.build, Sem.run_bind, hrz w, Result.andThen_ok, run_underlying_of hd, hm', h1, Sem.run_pure]

theorem lenV_ok {t : TypeId} {x v : AV} {x' : Value} (h : lenV P t x = some v) (hx : SimV im μ x x') (ty : TypeId) (ts : Array TypeId) (ht : ts[0]? = some t) (w : World) :
    ∃ v', (Builtin.len_ ts ty #[x']).run P w = .ok v' w ∧ SimV im μ v v' := by
  unfold lenV at h
  split at h <;> (try simp only [Option.some.injEq] at h) <;> try (cases h; done)
  · rename_i s hu
    subst h
    rw [hx.inv_str]
    exact ⟨.int .i64 s.length, by simp [Builtin.len_, ht, run_underlying_of hu, goInt, bytes_size], .int _ _⟩
  · rename_i b o len sz hu
    subst h
    obtain ⟨_, _, _, _, _, _, _, _, rfl⟩ := hx.inv_sref
    exact ⟨.int .i64 (len : Int), by simp [Builtin.len_, ht, run_underlying_of hu, goInt], .int _ _⟩
  · rename_i hu
    subst h
    obtain ⟨_, _, rfl, _⟩ := hx.inv_psl
    exact ⟨.int .i64 _, by simp [Builtin.len_, ht, run_underlying_of hu, goInt], .int _ _⟩
  · rename_i hu
    subst h
    rw [hx.inv_snil]
    exact ⟨.int .i64 0, by simp [Builtin.len_, ht, run_underlying_of hu, goInt], .int _ _⟩

theorem minV_ok {x y v : AV} {x' y' : Value} (h : minV false x y = some v) (hx : SimV im μ x x') (hy : SimV im μ y y') (ty : TypeId) (ts : Array TypeId) (w : World) :
    ∃ v', (Builtin.min_ ts ty #[x', y']).run P w = .ok v' w ∧ SimV im μ v v' := by
  unfold minV at h
  split at h
  · rename_i k a k' b
    split at h
    · rename_i hk
      rw [kEq_iff] at hk
      subst hk
      simp only [Option.some.injEq, iLe_eq] at h
      subst h
      rw [hx.inv_int, hy.inv_int]
      by_cases hab : a ≤ b
      · refine ⟨.int k a, ?_, by simp [hab]; exact .int _ _⟩
        simp [Builtin.min_, Builtin.min2]
        omega
      · refine ⟨.int k b, ?_, by simp [hab]; exact .int _ _⟩
        simp [Builtin.min_, Builtin.min2]
        omega
    · cases h
  · cases h
theorem maxV_ok {x y v : AV} {x' y' : Value} (h : minV true x y = some v) (hx : SimV im μ x x') (hy : SimV im μ y y') (ty : TypeId) (ts : Array TypeId) (w : World) :
    ∃ v', (Builtin.max_ ts ty #[x', y']).run P w = .ok v' w ∧ SimV im μ v v' := by
  unfold minV at h
  split at h
  · rename_i k a k' b
    split at h
    · rename_i hk
      rw [kEq_iff] at hk
      subst hk
      simp only [Option.some.injEq, iLe_eq] at h
      subst h
      rw [hx.inv_int, hy.inv_int]
      by_cases hab : a ≤ b
      · refine ⟨.int k b, ?_, by simp [hab]; exact .int _ _⟩
        simp [Builtin.max_, Builtin.max2]
        omega
      · refine ⟨.int k a, ?_, by simp [hab]; exact .int _ _⟩
        simp [Builtin.max_, Builtin.max2]
        omega
    · cases h
  · cases h

end Go.Nv
