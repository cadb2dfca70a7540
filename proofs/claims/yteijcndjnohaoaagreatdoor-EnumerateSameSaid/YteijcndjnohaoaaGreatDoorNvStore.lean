/- Stores, and what else changes memory. -/
import Derived.Test.YteijcndjnohaoaaGreatDoorNvAlloc
set_option linter.all false
set_option linter.unusedVariables false
set_option linter.unusedSimpArgs false
namespace Go.Nv
open Go
variable {P : Program} {C : Cfg} {im : IM} {fx : FX} {μ : Mu} {w : World} {σ : Heap} {ρ : Operand → Option AV} {ρ' : Operand → Value}

theorem setSeg_set {α : Type} (L : List α) (k : Nat) (v : α) (l : List α) (h : k + 1 + l.length ≤ L.length) : setSeg (L.set k v) (k + 1) l = setSeg L k (v :: l) := by
  simp only [setSeg, List.length_cons]
  have hlt : k < L.length := by omega
  have hL1 : (List.take (k + 1) (L.set k v)).length = k + 1 := by rw [List.length_take, List.length_set]; omega
  have hL2 : (List.take k L).length = k := by rw [List.length_take]; omega
  apply List.ext_getElem?
  intro i
  rcases Nat.lt_trichotomy i k with hi | hi | hi
  · rw [List.getElem?_append_left (by omega), List.getElem?_append_left (by omega)]
    rw [List.getElem?_take_of_lt (by omega), List.getElem?_take_of_lt hi, List.getElem?_set_ne (by omega)]
  · subst hi
    rw [List.getElem?_append_left (by omega), List.getElem?_append_right (by omega), List.getElem?_take_of_lt (by omega), hL2]
    simp [hlt]
  · have e1 : i - (k + 1) = i - k - 1 := by omega
    have e2 : i - k = (i - k - 1) + 1 := by omega
    rw [List.getElem?_append_right (by omega), hL1, e1, List.getElem?_append_right (by omega : (List.take k L).length ≤ i), hL2, e2, List.cons_append, List.getElem?_cons_succ]
    by_cases hl : i - k - 1 < l.length
    · rw [List.getElem?_append_left (by omega), List.getElem?_append_left (by omega)]
      congr 1
    · rw [List.getElem?_append_right (by omega), List.getElem?_append_right (by omega)]
      rw [List.getElem?_drop, List.getElem?_drop]
      rw [List.getElem?_set_ne (by omega)]
      congr 1
      omega

theorem os_setCells (w : World) (g o : Nat) (vs : List Value) : away (w.setCells g o vs) = away w := by
  have h := World.keptBut_setCells g (may := fun _ => True) vs o w (fun _ _ => trivial)
  simp only [away, h.1, h.2.1]
theorem setCells_heap (cb : Nat) : ∀ (vs : List Value) (o : Nat) (w : World) (arr : Array Value) (ty : TypeId) (fr : Nat × Nat), w.heap[cb]? = some (.cells arr ty fr) → o + vs.length ≤ arr.size →
    (∃ arr', (w.setCells cb o vs).heap[cb]? = some (.cells arr' ty fr) ∧ arr'.toList = setSeg arr.toList o vs) ∧ ∀ c, c ≠ cb → (w.setCells cb o vs).heap[c]? = w.heap[c]?
  | [], o, w, arr, ty, fr, h, _ => ⟨⟨arr, h, by simp [setSeg]⟩, fun _ _ => rfl⟩
  | v :: r, o, w, arr, ty, fr, h, hl => by
    simp only [List.length_cons] at hl
    have h1 : (w.setCell ⟨cb, o, none⟩ v).heap[cb]? = some (.cells (arr.setIfInBounds o v) ty fr) := by
      simp [World.setCell, Array.getElem?_modify, h]
    have h2 : ∀ c, c ≠ cb → (w.setCell ⟨cb, o, none⟩ v).heap[c]? = w.heap[c]? := by
      intro c hc
      simp [World.setCell, Array.getElem?_modify, Ne.symm hc]
    obtain ⟨⟨arr', g1, g2⟩, g3⟩ := setCells_heap cb r (o + 1) (w.setCell ⟨cb, o, none⟩ v) _ ty fr h1 (by simp; omega)
    refine ⟨⟨arr', g1, ?_⟩, fun c hc => (g3 c hc).trans (h2 c hc)⟩
    rw [g2, Array.toList_setIfInBounds]
    exact setSeg_set _ _ _ _ (by simp; omega)

theorem SimL.all_one : ∀ {xs : List AV} {ys : List Value}, SimL im μ xs ys → xs.all AV.oneC = true → ∀ y ∈ ys, y.oneCell' = true
  | _, _, .nil, _, y, hy => by cases hy
  | _, _, .cons x z xs ys h hs, ha, y, hy => by
    simp only [List.all_cons, Bool.and_eq_true] at ha
    cases hy with
    | head => exact h.oneC ha.1
    | tail _ hy => exact SimL.all_one hs ha.2 y hy



/-- Cells written into a block that is kept. -/
theorem write_ok (H : WSim im fx μ w σ) {b cb base tot : Nat} {ty : TypeId} {u : Bool} {cs new : List AV} {new' : List Value} {o : Nat} (hg : σ.get b = some (.cells ty u cs)) (hμ : μ b = some (cb, base, tot)) (hn : SimL im μ new new')
    (ho : o + new.length ≤ cs.length) (h1 : new.all AV.oneC = true) :
    (storeCells ⟨cb, base + o, none⟩ new').run P w = .ok () (w.setCells cb (base + o) new') ∧ WSim im fx μ (w.setCells cb (base + o) new') (σ.set b (.cells ty u (setSeg cs o new))) := by
  obtain ⟨cb2, base2, tot2, arr, fr, q1, q2, q3, q4, q5, q6, q7, q8, q9⟩ := H.cells hg
  rw [hμ] at q1
  cases q1
  have hl := hn.length
  constructor
  · have hcell : ∀ j, j < new'.length → w.cell? ⟨cb, base + o + j, none⟩ = arr[base + o + j]? := fun j _ => by simp [World.cell?, q4]
    have hfroz : ∀ j, j < new'.length → w.frozen? ⟨cb, base + o + j, none⟩ = false := fun j hj => by
      have := q8 (base + o + j) (by omega)
      simp only [World.frozen?, q4]
      simp only [Bool.and_eq_false_iff, decide_eq_false_iff_not]
      omega
    have := run_storeCells_cells (P := P) cb (base + o) new' 0 w (fun j hj => by
        rw [Nat.add_zero, hcell j hj]
        simp
        omega) (fun j hj => by rw [Nat.add_zero]; exact hfroz j hj) (hn.all_one h1)
    simpa using this
  · obtain ⟨⟨arr', g1, g2⟩, g3⟩ := setCells_heap cb new' (base + o) w arr ty fr q4 (by omega)
    have hal : arr'.size = arr.size := by
      have e1 : arr'.toList.length = arr'.size := by simp
      rw [← e1, g2, setSeg_length _ _ _ (by simp; omega)]
      simp
    have hcl := setSeg_length cs o new ho
    refine H.turn hg hμ (fun c oo hc h => by rw [g3 c hc]; exact h) (os_setCells _ _ _ _) g1 ⟨arr', fr, rfl, by omega, by rw [hcl]; exact q6, fun hu => by rw [hcl]; exact q7 hu, q8, ?_⟩
    rw [hcl, g2]
    have e : ((setSeg arr.toList (base + o) new').drop base).take cs.length = setSeg ((arr.toList.drop base).take cs.length) o new' := by
      simp only [setSeg]
      have hA : arr.toList.length = arr.size := by simp
      generalize arr.toList = L at *
      rw [List.drop_append_of_le_length (by rw [List.length_take]; omega), List.drop_take]
      rw [show base + o - base = o by omega]
      rw [List.take_append]
      have t1 : (List.take o (List.drop base L)).length = o := by rw [List.length_take, List.length_drop]; omega
      rw [t1]
      rw [List.take_of_length_le (by rw [t1]; omega)]
      rw [List.take_take, show min o cs.length = o by omega]
      congr 1
      rw [List.take_append, List.take_of_length_le (by omega)]
      congr 1
      rw [List.drop_take, List.drop_drop]
      congr 1
      · omega
      · congr 1
        omega
    rw [e]
    exact SimL.setSeg o q9 hn

theorem store_ok (H : WSim im fx μ w σ) (lim : Nat → Bool) {o : Oper} {b : Nat} {blk : ABlk} (hρ : OSim im μ ρ ρ') (h : storeV P lim ρ o σ = some (b, blk)) :
    ∃ w', (execOp ρ' o).run P w = .ok .skip w' ∧ WSim im fx μ w' (σ.set b blk) := by
  obtain ⟨dst, op, type, pos, after, guard⟩ := o
  unfold storeV at h
  simp only at h
  split at h
  · rename_i t x y
    simp only [Option.bind_eq_some_iff] at h
    obtain ⟨a, ha, v, hv, n, hn, h⟩ := h
    split at h
    · rename_i b0 o
      split at h
      · rename_i ty u cs hg
        split at h
        · rename_i h1 h2 h3
          simp only [Option.some.injEq, Prod.mk.injEq] at h
          obtain ⟨rfl, rfl⟩ := h
          have h1' := Nat.eq_of_beq_eq_true h1
          have h2' := Nat.le_of_ble_eq_true h2
          obtain ⟨cb, base, tot, hμ, he⟩ := (hρ _ _ ha).inv_ptr
          have hs := hρ _ _ hv
          obtain ⟨g1, g2⟩ := write_ok (P := P) (new := v.cells) (o := o) H (getLim_get hg).1 hμ hs.cells (by omega) h3
          refine ⟨_, ?_, g2⟩
          have hcl := hs.cells.length
          simp only [Array.length_toList] at hcl
          have hsz : ¬ (ρ' y).cells.size ≠ n := by omega
          simp only [execOp, Instr.storeAt, he, Instr.sureAddr, storeVar, Sem.run_bind, Sem.run_pure, Result.andThen_ok, run_sizeOf_of hn, if_neg hsz, g1]
        · cases h
      · cases h
    · cases h
  · cases h

end Go.Nv
