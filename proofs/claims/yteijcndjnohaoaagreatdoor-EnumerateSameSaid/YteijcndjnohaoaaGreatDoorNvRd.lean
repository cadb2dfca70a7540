/- What an input reads as, as the evaluator's value. -/
import Derived.Test.YteijcndjnohaoaaGreatDoorNvSym2
import Derived.DataReads
import GoSem.ClaimChange
set_option linter.all false
set_option linter.unusedVariables false
set_option linter.unusedSimpArgs false
namespace Go.Nv
open Go
variable {H : Type} {enc : TypeId × Value → H} {P : Program} {w : World} {base : Nat} {sp : Nat → Bool} {held : Bool} {t : TypeId} {cs : List Value}

/-- These cells read as data of type t. -/
def Rd (enc : TypeId × Value → H) (P : Program) (w : World) (base : Nat) (sp : Nat → Bool) (held : Bool) (t : TypeId) (cs : List Value) : Prop := ∃ fuel r, DataW.trod enc P w base sp held fuel t cs = some r

theorem Rd.int {k : IntKind} (h : Rd enc P w base sp held t cs) (hu : P.underlying t = some (.int k)) : ∃ n, cs = [.int k n] ∧ (Lit.int k n).wf = true := by
  obtain ⟨fuel, r, h⟩ := h
  cases fuel with
  | zero => simp [DataW.trod] at h
  | succ fuel =>
    unfold DataW.trod at h
    rw [hu] at h
    split at h <;> rename_i h1 <;> simp only [Option.some.injEq, TypeDesc.int.injEq, reduceCtorEq] at h1 <;> try (cases h; done)
    subst h1
    split at h
    · rename_i hk
      exact ⟨_, by rw [hk.1], hk.2⟩
    · cases h
theorem Rd.bool (h : Rd enc P w base sp held t cs) (hu : P.underlying t = some .bool) : ∃ b, cs = [.bool b] := by
  obtain ⟨fuel, r, h⟩ := h
  cases fuel with
  | zero => simp [DataW.trod] at h
  | succ fuel =>
    unfold DataW.trod at h
    rw [hu] at h
    split at h <;> rename_i h1 <;> simp only [Option.some.injEq, reduceCtorEq] at h1 <;> try (cases h; done)
    exact ⟨_, rfl⟩
theorem Rd.str (h : Rd enc P w base sp held t cs) (hu : P.underlying t = some .string) : ∃ s : List UInt8, cs = [.string ⟨s.toArray⟩] ∧ s.length ≤ maxLen := by
  obtain ⟨fuel, r, h⟩ := h
  cases fuel with
  | zero => simp [DataW.trod] at h
  | succ fuel =>
    unfold DataW.trod at h
    rw [hu] at h
    split at h <;> rename_i h1 <;> simp only [Option.some.injEq, reduceCtorEq] at h1 <;> try (cases h; done)
    split at h
    · rename_i s hs
      obtain ⟨d⟩ := s
      exact ⟨d.toList, by simp, by simpa [ByteArray.size] using hs⟩
    · cases h
theorem Rd.struct {fs : Array Field} (h : Rd enc P w base sp held t cs) (hu : P.underlying t = some (.struct fs)) : cs.length = P.cellsOf t ∧ ∀ f, f ∈ fs.toList → Rd enc P w base sp held f.type ((cs.drop f.offset).take (P.cellsOf f.type)) := by
  obtain ⟨fuel, r, h⟩ := h
  cases fuel with
  | zero => simp [DataW.trod] at h
  | succ fuel =>
    unfold DataW.trod at h
    rw [hu] at h
    split at h <;> try (exact ((‹∀ fs_1 : Array Field, some (TypeDesc.struct fs) = some (TypeDesc.struct fs_1) → False›) fs rfl).elim)
    all_goals (rename_i h1; try simp only [Option.some.injEq, TypeDesc.struct.injEq, reduceCtorEq] at h1)
    subst h1
    split at h
    · rename_i hl
      refine ⟨hl, fun f hf => ?_⟩
      simp only [Option.map_eq_some_iff] at h
      obtain ⟨xs, hxs, _⟩ := h
      obtain ⟨i, hi, rfl⟩ := List.getElem_of_mem hf
      have := mapM_some_get hxs i _ (List.getElem?_eq_getElem hi)
      have hl2 := mapM_some_length hxs
      rw [List.getElem?_eq_getElem (by omega)] at this
      exact ⟨fuel, _, this⟩
    · cases h
theorem Rd.slice {e : TypeId} (h : Rd enc P w base sp held t cs) (hu : P.underlying t = some (.slice e)) :
    cs = [.slice none 0 0] ∨ ∃ a len cap, cs = [.slice (some a) len cap] ∧ len ≤ cap ∧ cap ≤ maxLen ∧ ∀ i, i < len → ∃ es, w.cells? base (a.add (i * P.cellsOf e)) (P.cellsOf e) = some es ∧ Rd enc P w base sp held e es := by
  obtain ⟨fuel, r, h⟩ := h
  cases fuel with
  | zero => simp [DataW.trod] at h
  | succ fuel =>
    unfold DataW.trod at h
    rw [hu] at h
    split at h <;> rename_i h1 <;> simp only [Option.some.injEq, TypeDesc.slice.injEq, reduceCtorEq] at h1 <;> try (cases h; done)
    · exact .inl rfl
    · rename_i a len cap
      subst h1
      refine .inr ⟨a, len, cap, rfl, ?_⟩
      simp only at h
      split at h
      · rename_i hc
        simp only [Option.bind_eq_some_iff] at h
        obtain ⟨elems, he, _⟩ := h
        refine ⟨hc.2.1, hc.2.2, fun i hi => ?_⟩
        have := mapM_some_get he i i (by simp [hi])
        have hl := mapM_some_length he
        simp only [List.length_range] at hl
        rw [List.getElem?_eq_getElem (by omega)] at this
        simp only [Option.bind_eq_some_iff] at this
        obtain ⟨es, h1, h2⟩ := this
        exact ⟨es, h1, fuel, _, h2⟩
      · cases h

/-- Values that name no block stand for these. -/
def Sim (w : World) (l : List AV) (cs : List Value) : Prop := SimL (allIm w) mu0 l cs ∧ ∀ x, x ∈ l → NoRef x
theorem Sim.nil : Sim w [] [] := ⟨.nil, fun _ h => by cases h⟩
theorem Sim.append {l m : List AV} {cs ds : List Value} (h : Sim w l cs) (k : Sim w m ds) : Sim w (l ++ m) (cs ++ ds) :=
  ⟨h.1.append k.1, fun x hx => (List.mem_append.1 hx).elim (h.2 x) (k.2 x)⟩
theorem Sim.length {l : List AV} {cs : List Value} (h : Sim w l cs) : l.length = cs.length := h.1.length
theorem Sim.int (k : IntKind) (n : Int) : Sim w [.int k n] [.int k n] := ⟨.one (.int k n), fun x hx => by simp at hx; subst hx; exact .int k n⟩
theorem Sim.bool (b : Bool) : Sim w [.bool b] [.bool b] := ⟨.one (.bool b), fun x hx => by simp at hx; subst hx; exact .bool b⟩
theorem Sim.str (s : List UInt8) : Sim w [.str s] [.string ⟨s.toArray⟩] := ⟨.one (.str s), fun x hx => by simp at hx; subst hx; exact .str s⟩
theorem Sim.flatten : ∀ {L : List (List AV)} {M : List (List Value)}, L.length = M.length → (∀ i (h : i < L.length) (h' : i < M.length), Sim w L[i] M[i]) → Sim w L.flatten M.flatten
  | [], [], _, _ => .nil
  | [], _ :: _, h, _ => by simp at h
  | _ :: _, [], h, _ => by simp at h
  | x :: L, y :: M, h, hs => by
    simp only [List.flatten_cons]
    exact (hs 0 (by simp) (by simp)).append (Sim.flatten (by simpa using h) fun i h1 h2 => hs (i + 1) (by simpa using h1) (by simpa using h2))

/-- Rows of sz cells, one behind the other. -/
theorem rows_flatten {α : Type} (sz : Nat) : ∀ (n : Nat) (l : List α), l.length = n * sz → ((List.range n).map fun i => (l.drop (i * sz)).take sz).flatten = l
  | 0, l, h => by
    have : l = [] := List.length_eq_zero_iff.1 (by simpa using h)
    simp [this]
  | n + 1, l, h => by
    rw [List.range_succ_eq_map, List.map_cons, List.flatten_cons]
    have ih := rows_flatten sz n (l.drop sz) (by rw [List.length_drop, h, Nat.succ_mul]; omega)
    have e : (List.map Nat.succ (List.range n)).map (fun i => (l.drop (i * sz)).take sz) = (List.range n).map fun i => ((l.drop sz).drop (i * sz)).take sz := by
      rw [List.map_map]
      apply List.map_congr_left
      intro i _
      simp only [Function.comp, List.drop_drop]
      rw [Nat.succ_mul, Nat.add_comm]
    rw [List.map_map] at e
    rw [List.map_map, e, ih]
    simp

/-- A slice whose elements read so. -/
theorem Rd.list {α : Type} {e : TypeId} {c : α → List AV} (h : Rd enc P w base sp held t cs) (hu : P.underlying t = some (.slice e)) {sz : Nat} (hz : P.cellsOf e = sz + 1)
    (hE : ∀ es, es.length = sz + 1 → Rd enc P w base sp held e es → ∃ x : α, Sim w (c x) es) :
    ∃ (a : AV) (l : List α), Sim w [a] cs ∧ Sl (sz + 1) a (l.map c) ∧ l.length ≤ maxLen := by
  rcases h.slice hu with rfl | ⟨a, len, cap, rfl, h1, h2, h3⟩
  · exact ⟨.snil, [], ⟨.one .snil, fun x hx => by simp at hx; subst hx; exact .snil⟩, .nil, Nat.zero_le _⟩
  · cases len with
    | zero =>
      refine ⟨.psl 0 (sz + 1) [], [], ⟨.one (.psl0 _ _ _), fun x hx => by simp at hx; subst hx; exact .psl _ _ _ (fun _ hx => by cases hx)⟩, ?_, Nat.zero_le _⟩
      have := Sl.psl (sz := sz + 1) [] (fun x hx => by cases hx)
      simpa using this
    | succ m =>
      have hcells : ∀ i, i < m + 1 → ∃ es : List Value, es.length = sz + 1 ∧ (∀ j, j < sz + 1 → w.cell? ((a.add (i * (sz + 1))).add j) = es[j]?) ∧ Rd enc P w base sp held e es := by
        intro i hi
        obtain ⟨es, q1, q2⟩ := h3 i hi
        rw [hz] at q1
        unfold World.cells? at q1
        split at q1
        · have hl := mapM_some_length q1
          simp only [List.length_range] at hl
          refine ⟨es, hl, fun j hj => ?_, q2⟩
          exact mapM_some_get q1 j j (by simp [hj])
        · cases q1
      have h0 := hcells 0 (by omega)
      obtain ⟨es0, l0, c0, _⟩ := h0
      obtain ⟨b, off, spot⟩ := a
      have hspot : spot = none := by
        have := c0 0 (by omega)
        rw [List.getElem?_eq_getElem (by omega)] at this
        simp only [Nat.zero_mul, Addr.add, if_true, World.cell?] at this
        split at this
        · split at this
          · cases this
          · rename_i hs; cases spot with
            | none => rfl
            | some _ => simp at hs
        · cases this
      subst hspot
      have hadd : ∀ i j, ((⟨b, off, none⟩ : Addr).add i).add j = ⟨b, off + i + j, none⟩ := by
        intro i j
        unfold Addr.add
        by_cases hi : i = 0 <;> by_cases hj : j = 0 <;> simp [hi, hj]
      have hblk : ∃ arr ty fr, w.heap[b]? = some (.cells arr ty fr) := by
        have := c0 0 (by omega)
        rw [List.getElem?_eq_getElem (by omega), hadd] at this
        unfold World.cell? at this
        split at this
        · rename_i c ty fr hc
          exact ⟨c, ty, fr, hc⟩
        · cases this
      obtain ⟨arr, ty, fr, hb⟩ := hblk
      have hcell : ∀ k, w.cell? ⟨b, k, none⟩ = arr[k]? := fun k => by simp [World.cell?, hb]
      -- the rows
      have hrow : ∀ i, i < m + 1 → ∃ x : α, Sim w (c x) ((arr.toList.drop (off + i * (sz + 1))).take (sz + 1)) ∧ off + i * (sz + 1) + (sz + 1) ≤ arr.size := by
        intro i hi
        obtain ⟨es, l1, c1, r1⟩ := hcells i hi
        have he : es = (arr.toList.drop (off + i * (sz + 1))).take (sz + 1) := by
          apply List.ext_getElem?
          intro j
          by_cases hj : j < sz + 1
          · rw [← c1 j hj, hadd, hcell, List.getElem?_take_of_lt hj, List.getElem?_drop]
            simp
          · rw [List.getElem?_eq_none (by omega), List.getElem?_eq_none (by simp; omega)]
        obtain ⟨x, hx⟩ := hE es l1 r1
        refine ⟨x, he ▸ hx, ?_⟩
        have : es.length = ((arr.toList.drop (off + i * (sz + 1))).take (sz + 1)).length := by rw [← he]
        simp at this
        omega
      have hch := Classical.axiomOfChoice (r := fun (i : Fin (m + 1)) (x : α) => Sim w (c x) ((arr.toList.drop (off + i.1 * (sz + 1))).take (sz + 1))) fun i => ⟨_, (hrow i.1 i.2).choose_spec.1⟩
      obtain ⟨f, hf⟩ := hch
      let l : List α := List.ofFn f
      have hll : l.length = m + 1 := by simp [l]
      have hsize := (hrow m (by omega)).choose_spec.2
      have hseg : ((arr.toList.drop off).take ((m + 1) * (sz + 1))).length = (m + 1) * (sz + 1) := by
        have : (m + 1) * (sz + 1) = m * (sz + 1) + (sz + 1) := Nat.succ_mul _ _
        simp
        omega
      have hS : Sim w (l.map c).flatten ((arr.toList.drop off).take ((m + 1) * (sz + 1))) := by
        rw [← rows_flatten (sz + 1) (m + 1) _ hseg]
        refine Sim.flatten (by simp [hll]) fun i h1 h2 => ?_
        simp only [List.length_map, hll] at h1
        simp only [List.getElem_map, List.getElem_range, l, List.getElem_ofFn]
        have := hf ⟨i, h1⟩
        have e : (((arr.toList.drop off).take ((m + 1) * (sz + 1))).drop (i * (sz + 1))).take (sz + 1) = (arr.toList.drop (off + i * (sz + 1))).take (sz + 1) := by
          rw [List.drop_take, List.take_take, List.drop_drop]
          congr 1
          have : (i + 1) * (sz + 1) ≤ (m + 1) * (sz + 1) := Nat.mul_le_mul_right _ (by omega)
          rw [Nat.succ_mul] at this
          omega
        rw [e]
        exact this
      have hlen : ∀ x, x ∈ l.map c → x.length = sz + 1 := by
        intro x hx
        obtain ⟨y, hy, rfl⟩ := List.mem_map.1 hx
        obtain ⟨i, hi, rfl⟩ := List.getElem_of_mem hy
        simp only [l, List.getElem_ofFn]
        have hi' : i < m + 1 := by rw [hll] at hi; exact hi
        have := (hf ⟨i, hi'⟩).length
        rw [this]
        have hb2 := (hrow i hi').choose_spec.2
        simp
        omega
      refine ⟨.psl (m + 1) (sz + 1) (l.map c).flatten, l, ⟨.one ?_, fun x hx => ?_⟩, ?_, by omega⟩
      · have hfl : (l.map c).flatten.length = (m + 1) * (sz + 1) := by rw [hS.length, hseg]
        refine .psl _ _ _ hS.2 _ b off arr.toList hfl h1 (by simp [allIm, hb]) ?_ ?_
        · rw [hfl]
          have : (m + 1) * (sz + 1) = m * (sz + 1) + (sz + 1) := Nat.succ_mul _ _
          simp
          omega
        · rw [hfl]; exact hS.1
      · simp at hx
        subst hx
        exact .psl _ _ _ hS.2
      · have := Sl.psl (sz := sz + 1) (l.map c) hlen
        simpa [hll] using this
end Go.Nv
