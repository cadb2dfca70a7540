/- Operations that make memory. -/
import Derived.Test.YteijcndjnohaoaaGreatDoorNvRead
set_option linter.all false
set_option linter.unusedVariables false
set_option linter.unusedSimpArgs false
namespace Go.Nv
open Go
variable {P : Program} {C : Cfg} {im : IM} {fx : FX} {μ : Mu} {w : World} {σ : Heap} {ρ : Operand → Option AV} {ρ' : Operand → Value}

theorem repCells_get {α : Type} (z : List α) : ∀ (n i : Nat), (repCells z n)[i]? = if i < n * z.length then z[i % z.length]? else none
  | 0, i => by simp [repCells]
  | n + 1, i => by
    simp only [repCells]
    by_cases h : i < z.length
    · rw [List.getElem?_append_left h, Nat.mod_eq_of_lt h, if_pos]
      rw [Nat.succ_mul]; omega
    · rw [List.getElem?_append_right (by omega), repCells_get z n]
      have e : (i - z.length) % z.length = i % z.length := by
        conv => rhs; rw [show i = (i - z.length) + z.length by omega, Nat.add_mod_right]
      rw [e, Nat.succ_mul]
      by_cases h2 : i - z.length < n * z.length
      · rw [if_pos h2, if_pos (by omega)]
      · rw [if_neg h2, if_neg (by omega)]

theorem range_cells (z : Array Value) (n : Nat) (hz : 0 < z.size) : ((Array.range (n * z.size)).map (z[· % z.size]!)).toList = repCells z.toList n := by
  apply List.ext_getElem?
  intro i
  rw [repCells_get]
  simp only [Array.length_toList]
  by_cases h : i < n * z.size
  · rw [if_pos h]
    have hm : i % z.size < z.size := Nat.mod_lt _ hz
    simp [h, hm]
  · rw [if_neg h]
    simp [h]

theorem SimL.rep {xs : List AV} {ys : List Value} (h : SimL im μ xs ys) : ∀ n, SimL im μ (repCells xs n) (repCells ys n)
  | 0 => .nil
  | n + 1 => h.append (SimL.rep h n)

theorem run_newRow (e : TypeId) (arr : Array Value) : (newRow e arr).run P w = .ok ⟨w.heap.size, 0, none⟩ { w with heap := w.heap.push (.cells arr e) } := by
  simp [newRow]

/-- What an operation that makes one block comes to. -/
def Makes (P : Program) (im : IM) (μ : Mu) (s : Sem Next) (w : World) (blk : ABlk) (mk : Mk) : Prop :=
  ∃ w' v' o tot, s.run P w = .ok (.value v') w' ∧ w'.heap = w.heap.push o ∧ away w' = away w ∧ BlkSim im μ blk 0 tot o ∧ ∀ (μ' : Mu) (b : Nat), μ' b = some (w.heap.size, 0, tot) → SimV im μ' (mk.val b) v'

theorem noFr0 (n : Nat) : NoFr (0, 0) n := by intro o _ h; simp at h

theorem blk_cells {e : TypeId} {v : Bool} {cs : List AV} {arr : Array Value} (hs : SimL im μ cs (arr.toList.take cs.length)) (hl : cs.length ≤ arr.size) (hv : v = true → cs.length = arr.size) :
    BlkSim im μ (.cells e v cs) 0 arr.size (.cells arr e) :=
  ⟨arr, (0, 0), rfl, rfl, by omega, fun h => ⟨rfl, hv h⟩, noFr0 _, by simpa using hs⟩

theorem makes_var {s : Sem Value} {e : TypeId} {z : AV} {z' : Value} (hz : SimV im μ z z') (hs : s.run P w = .ok (.pointer (some ⟨w.heap.size, 0, none⟩)) { w with heap := w.heap.push (.cells z'.cells e) }) :
    Makes P im μ (do pure (Next.value (← s)) : Sem Next) w (.cells e true z.cells) .ptr := by
  have hl := hz.cells.length
  simp only [Array.length_toList] at hl
  refine ⟨_, _, _, z'.cells.size, run_value hs, rfl, rfl, blk_cells ?_ (by omega) (fun _ => hl), fun μ' b hb => ?_⟩
  · rw [List.take_of_length_le (by simp; omega)]; exact hz.cells
  · exact .ptr b 0 _ 0 _ hb

theorem run_buildSlice {t e : TypeId} {len n : Nat} {parts : Array (Nat × Value)} {arr' : Array Value} {z' : Value} (hu : P.underlying t = some (.slice e)) (hn : tSize P e = some (n + 1)) (hb : len * (n + 1) ≤ 16777216)
    (hz : (zeroValue e).run P w = .ok z' w) (hf : Instr.fill (fun i => some (i * (n + 1), n + 1)) ((Array.range (len * (n + 1))).map (z'.cells[· % z'.cells.size]!)) parts.toList = some arr') :
    (Instr.buildSlice t len parts).run P w = .ok (.slice (some ⟨w.heap.size, 0, none⟩) len len) { w with heap := w.heap.push (.cells arr' e) } := by
  have hnz : ¬ len * (n + 1) > 2 ^ 24 := by
    have : (2 : Nat) ^ 24 = 16777216 := by decide
    omega
  by_cases h0 : len * (n + 1) = 0
  · have e0 : ∀ f : Nat → Value, (Array.range (len * (n + 1))).map f = #[] := by intro f; rw [h0]; simp
    rw [e0] at hf
    simp only [Instr.buildSlice, Sem.run_bind, run_underlying_of hu, Result.andThen_ok, run_sizeOf_of hn, if_neg hnz, if_pos h0, Sem.run_pure, e0, hf, run_newRow]
  · simp only [Instr.buildSlice, Sem.run_bind, run_underlying_of hu, Result.andThen_ok, run_sizeOf_of hn, if_neg hnz, if_neg h0, hz, Sem.run_pure, hf, run_newRow]

theorem run_makeSlice {t e : TypeId} {len cap n : Nat} {i : TypeInfo} {zv : Value} (hu : P.underlying t = some (.slice e)) (hi : P.info? e = some i) (hz : i.zero = some zv) (hsz : i.size = n + 1) (hlc : len ≤ cap) (hb : cap * (i.bytes + 1) ≤ 1099511627776) (k k' : IntKind) :
    (Instr.makeSlice t (.int k (len : Int)) (.int k' (cap : Int))).run P w = .ok (.slice (some ⟨w.heap.size, 0, none⟩) len cap) { w with heap := w.heap.push (.cells ((Array.range (cap * (n + 1))).map (zv.cells[· % zv.cells.size]!)) e) } := by
  have hc1 : cap ≤ 1099511627776 := Nat.le_trans (Nat.le_mul_of_pos_right cap (Nat.succ_pos i.bytes)) hb
  have hc2 : i.bytes * cap ≤ 1099511627776 := by
    rw [Nat.mul_comm]
    exact Nat.le_trans (Nat.mul_le_mul_left cap (Nat.le_succ _)) hb
  have w1 : IntKind.i64.wrap (len : Int) = len := IntWalk.i64_in _ (by omega)
  have w2 : IntKind.i64.wrap (cap : Int) = cap := IntWalk.i64_in _ (by omega)
  have hc3 : (i.bytes : Int) * (cap : Int) ≤ 1099511627776 := by rw [← Int.natCast_mul]; omega
  have hnot : ¬ (((cap : Int) < 0 || decide ((i.bytes : Int) * (cap : Int) > 2 ^ 48)) || decide ((len : Int) < 0) || decide ((len : Int) > (cap : Int))) = true := by
    simp only [Bool.or_eq_true, decide_eq_true_eq]
    have : (2 : Int) ^ 48 = 281474976710656 := by decide
    omega
  simp only [Instr.makeSlice, Sem.run_bind, run_underlying_of hu, Result.andThen_ok, asInt, asIntOf, Sem.run_pure, run_typeInfo_of hi, w1, w2]
  rw [if_neg hnot]
  have hs : (sizeOf e).run P w = .ok (n + 1) w := by simp [sizeOf, run_typeInfo_of hi, hsz]
  have hzv : (zeroValue e).run P w = .ok zv w := by simp [zeroValue, run_typeInfo_of hi, hz]
  by_cases h0 : cap * (n + 1) = 0
  · have e0 : ∀ f : Nat → Value, (Array.range (cap * (n + 1))).map f = #[] := by intro f; rw [h0]; simp
    simp only [Sem.run_bind, run_askRoom, Result.andThen_ok, hs, Int.toNat_natCast, if_pos h0, Sem.run_pure, e0, run_newRow]
  · simp only [Sem.run_bind, run_askRoom, Result.andThen_ok, hs, Int.toNat_natCast, if_neg h0, hzv, Sem.run_pure, run_newRow]

theorem fillA_length {pl : Nat → Option (Nat × Nat)} : ∀ {parts : List (Nat × AV)} {cs vs : List AV}, fillA pl cs parts = some vs → vs.length = cs.length
  | [], cs, vs, h => by simp only [fillA, Option.some.injEq] at h; rw [h]
  | (i, v) :: r, cs, vs, h => by
    simp only [fillA, Option.bind_eq_some_iff] at h
    obtain ⟨⟨off, size⟩, hpl, h⟩ := h
    simp only at h
    split at h
    · rename_i h1 h2
      rw [fillA_length h, setSeg_length _ _ _ (by rw [Nat.eq_of_beq_eq_true h1]; exact Nat.le_of_ble_eq_true h2)]
    · cases h

theorem byteCells : ∀ (l : List UInt8), SimL im μ (l.map fun b => AV.int .u8 b.toNat) (l.map fun b => Value.int .u8 b.toNat)
  | [] => .nil
  | _ :: l => .cons _ _ _ _ (.int _ _) (byteCells l)

theorem modify_push {α : Type} (a : Array α) (x : α) (f : α → α) : (a.push x).modify a.size f = a.push (f x) := by
  apply Array.ext_getElem?
  intro i
  rw [Array.getElem?_modify, Array.getElem?_push, Array.getElem?_push]
  by_cases h : i = a.size
  · subst h; simp
  · rw [if_neg (Ne.symm h), if_neg h, if_neg h]

theorem run_stringToBytes (e : TypeId) (l : List UInt8) : ∃ cap, l.length ≤ cap ∧ (Conv.stringToBytes e ⟨l.toArray⟩).run P w =
    .ok (.slice (some ⟨w.heap.size, 0, none⟩) l.length cap) { w with drawn := w.drawn + 1, heap := w.heap.push (.cells (l.toArray.map (fun b => Value.int .u8 b.toNat) ++ Array.replicate (cap - l.length) (.int .u8 0)) e (cap, cap + 1)) } := by
  refine ⟨(Question.appendCap l.length 0 e).cut (w.tape w.drawn (.appendCap l.length 0 e)), Nat.le_add_right _ _, ?_⟩
  generalize hcap : (Question.appendCap l.length 0 e).cut (w.tape w.drawn (.appendCap l.length 0 e)) = cap
  have hge : l.length ≤ cap := by rw [← hcap]; exact Nat.le_add_right _ _
  have hsz : (⟨l.toArray⟩ : ByteArray).size = l.length := bytes_size l
  have hch : (choose (.appendCap l.length 0 e)).run P w = .ok cap { w with drawn := w.drawn + 1 } := by
    rw [← hcap]
    rfl
  have harr : (l.toArray.map (fun b => Value.int .u8 b.toNat) ++ Array.replicate (cap - l.length) (Value.int .u8 0)).size = cap := by simp; omega
  simp only [Conv.stringToBytes, hsz, Sem.run_bind, hch, Result.andThen_ok, run_newRow, Sem.run_pure]
  have hsh : (({ w with drawn := w.drawn + 1, heap := w.heap.push (.cells (l.toArray.map (fun b => Value.int .u8 b.toNat) ++ Array.replicate (cap - l.length) (.int .u8 0)) e) } : World)).shape? w.heap.size = some (e, cap) := by
    simp only [World.shape?, Array.getElem?_push_size]
    rw [harr]
  have hmark : (markStringish ⟨w.heap.size, 0, none⟩).run P ({ w with drawn := w.drawn + 1, heap := w.heap.push (.cells (l.toArray.map (fun b => Value.int .u8 b.toNat) ++ Array.replicate (cap - l.length) (.int .u8 0)) e) } : World) =
      .ok () { w with drawn := w.drawn + 1, heap := w.heap.push (.cells (l.toArray.map (fun b => Value.int .u8 b.toNat) ++ Array.replicate (cap - l.length) (.int .u8 0)) e (cap, cap + 1)) } := by
    simp only [markStringish, Sem.run_bind, run_shape, hsh, Result.andThen_ok, run_freeze, World.freeze]
    rw [if_neg (by decide), modify_push]
    rfl
  rw [hmark]
  rfl

theorem alloc_ok (ev : Evn) (lim : Nat → Bool) {o : Oper} {blk : ABlk} {mk : Mk} (hρ : OSim im μ ρ ρ') (h : allocV P ev lim ρ o σ = some (blk, mk)) (hc : ∀ c, o.op ≠ .call c) :
    Makes P im μ (execOp ρ' o) w blk mk := by
  obtain ⟨dst, op, type, pos, after, guard⟩ := o
  unfold allocV at h
  simp only at h hc
  split at h
  · rename_i t
    simp only [Option.bind_eq_some_iff] at h
    obtain ⟨z, hz, h⟩ := h
    simp only [Option.some.injEq, Prod.mk.injEq] at h
    obtain ⟨rfl, rfl⟩ := h
    obtain ⟨z', h1, h2⟩ := run_zeroValue_of (im := im) (μ := μ) hz
    simp only [execOp]
    exact makes_var h1 (by simp [Instr.alloc, h2 w, newVar, run_newRow])
  · rename_i t x
    simp only [Option.bind_eq_some_iff] at h
    obtain ⟨v, hv, h⟩ := h
    simp only [Option.some.injEq, Prod.mk.injEq] at h
    obtain ⟨rfl, rfl⟩ := h
    simp only [execOp]
    exact makes_var (hρ _ _ hv) (by simp [Instr.box, newVar, run_newRow])
  · rename_i t len parts
    simp only [Option.bind_eq_some_iff] at h
    obtain ⟨e, he, n, hn, ps, hps, h⟩ := h
    split at h
    · rename_i hle
      simp only [Option.bind_eq_some_iff] at h
      obtain ⟨z, hz, h⟩ := h
      cases n with
      | zero => cases hz
      | succ n =>
        simp only at hz
        split at h
        · rename_i hzn
          have hzn' := Nat.eq_of_beq_eq_true hzn
          simp only [Option.bind_eq_some_iff] at h
          obtain ⟨cs, hcs, h⟩ := h
          simp only [Option.some.injEq, Prod.mk.injEq] at h
          obtain ⟨rfl, rfl⟩ := h
          obtain ⟨z', h1, h2⟩ := run_zeroValue_of (im := im) (μ := μ) hz
          have hl := h1.cells.length
          simp only [Array.length_toList] at hl
          have hsz : z'.cells.size = n + 1 := by omega
          have hle' := Nat.le_of_ble_eq_true hle
          have hp := partsA_sim hρ hps
          have hu := tElem_of he
          have hrep : SimL im μ (repCells z.cells len) ((Array.range (len * (n + 1))).map (z'.cells[· % z'.cells.size]!)).toList := by
            have := range_cells z'.cells len (by omega)
            rw [hsz] at this
            rw [hsz, this]
            exact h1.cells.rep len
          obtain ⟨arr', g1, g2⟩ := fillA_ok (parts' := (parts.map fun (i, x) => (i, ρ' x)).toList) hcs hrep (by simpa using hp)
          have hl2 := g2.length
          simp only [Array.length_toList] at hl2
          have hcap : cs.length = len * (n + 1) := by
            rw [fillA_length hcs, repCells_length]
            congr 1
          refine ⟨{ w with heap := w.heap.push (.cells arr' e) }, .slice (some ⟨w.heap.size, 0, none⟩) len len, .cells arr' e, arr'.size, ?_, rfl, rfl, blk_cells (by rw [List.take_of_length_le (by simp; omega)]; exact g2) (by omega) (by simp), fun μ' b hb => ?_⟩
          · simp only [execOp]
            refine run_value ?_
            exact run_buildSlice hu hn hle' (h2 w) g1
          · refine .sref b 0 len (n + 1) _ 0 arr'.size len _ hb (Nat.le_refl _) (.inr ⟨rfl, by omega⟩)
        · cases h
    · cases h
  · rename_i s d x
    simp only [Option.bind_eq_some_iff] at h
    obtain ⟨a, ha, h⟩ := h
    split at h
    · rename_i e l h1 h2
      split at h
      · rename_i h3
        simp only [Option.some.injEq, Prod.mk.injEq] at h
        obtain ⟨rfl, rfl⟩ := h
        have hs := (hρ _ _ ha).inv_str
        obtain ⟨cap, hcap, hrun⟩ := run_stringToBytes (P := P) (w := w) e l
        refine ⟨_, _, _, cap, by simp only [execOp]; exact run_value (by rw [hs]; simp [convert, run_underlying_of h1, run_underlying_of h2, run_underlying_of h3]; exact hrun), rfl, by rfl, ?_, fun μ' b hb => ?_⟩
        · refine ⟨_, _, rfl, ?_, ?_, by simp, ?_, ?_⟩
          · simp; omega
          · simp; omega
          · intro o ho hh; simp at hh; omega
          · simp only [List.drop_zero, List.length_map]
            rw [Array.toList_append, List.take_append_of_le_length (by simp)]
            rw [List.take_of_length_le (by simp)]
            simp only [List.map_toArray, Array.toList_map]
            exact byteCells l
        · exact .sref b 0 l.length 1 _ 0 cap cap _ hb hcap (.inr ⟨rfl, by omega⟩)
      · cases h
    · cases h
  · simp only [Option.some.injEq, Prod.mk.injEq] at h
    obtain ⟨rfl, rfl⟩ := h
    refine ⟨{ w with heap := w.heap.push (.map #[] 0) }, .map (some w.heap.size), .map #[] 0, 0, ?_, rfl, rfl, ⟨#[], 0, rfl, .nil⟩, fun μ' b hb => .mref b _ _ _ hb⟩
    simp [execOp, Instr.makeMap]
  · rename_i t hh
    simp only [Option.bind_eq_some_iff] at h
    obtain ⟨v, hv, h⟩ := h
    split at h
    · rename_i hu
      simp only [Option.some.injEq, Prod.mk.injEq] at h
      obtain ⟨rfl, rfl⟩ := h
      have hs := (hρ _ _ hv).inv_int
      refine ⟨{ w with heap := w.heap.push (.map #[] 0) }, .map (some w.heap.size), .map #[] 0, 0, ?_, rfl, rfl, ⟨#[], 0, rfl, .nil⟩, fun μ' b hb => .mref b _ _ _ hb⟩
      simp [execOp, Instr.makeMap, hs, run_underlying_of hu, asInt, asIntOf]
    · cases h
  · rename_i t l c
    simp only [Option.bind_eq_some_iff] at h
    obtain ⟨lv, hl, cv, hcv, e, he, i, hi, h⟩ := h
    split at h
    · simp only [Option.bind_eq_some_iff] at h
      obtain ⟨len, hlen, cap, hcap, h⟩ := h
      obtain rfl := natOf_eq hlen
      obtain rfl := natOf_eq hcap
      split at h
      · rename_i q1 q2
        have q1' := Nat.le_of_ble_eq_true q1
        have q2' := Nat.le_of_ble_eq_true q2
        simp only [Option.bind_eq_some_iff] at h
        obtain ⟨z, ⟨zv, hzv, hz⟩, h⟩ := h
        split at h
        · rename_i m hzl hsz
          have hzl' := Nat.eq_of_beq_eq_true hzl
          simp only [Option.some.injEq, Prod.mk.injEq] at h
          obtain ⟨rfl, rfl⟩ := h
          have hzs : SimV im μ z zv := ofConst_sim hz
          have hsL := (hρ _ _ hl).inv_int
          have hsC := (hρ _ _ hcv).inv_int
          have hu := tElem_of he
          have hll := hzs.cells.length
          simp only [Array.length_toList] at hll
          have hzsz : zv.cells.size = m + 1 := by omega
          unfold catLimit at q2'
          have hlist : ((Array.range (cap * (m + 1))).map (zv.cells[· % zv.cells.size]!)).toList = repCells zv.cells.toList cap := by
            have := range_cells zv.cells cap (by omega)
            rw [hzsz] at this
            rw [hzsz, this]
          have harr : ((Array.range (cap * (m + 1))).map (zv.cells[· % zv.cells.size]!)).size = cap * (m + 1) := by simp
          have hml : len * (m + 1) ≤ cap * (m + 1) := Nat.mul_le_mul_right _ q1'
          have hrl : (repCells z.cells len).length = len * (m + 1) := by rw [repCells_length, hzl', hsz]
          refine ⟨{ w with heap := w.heap.push (.cells ((Array.range (cap * (m + 1))).map (zv.cells[· % zv.cells.size]!)) e) }, .slice (some ⟨w.heap.size, 0, none⟩) len cap, _, _, ?_, rfl, rfl, blk_cells (e := e) (v := false) (cs := repCells z.cells len) (arr := (Array.range (cap * (m + 1))).map (zv.cells[· % zv.cells.size]!)) ?_ ?_ (by simp), fun μ' b hb => ?_⟩
          · simp only [execOp]
            refine run_value ?_
            rw [hsL, hsC]
            exact run_makeSlice hu hi hzv hsz q1' q2' _ _
          · rw [hlist, hrl]
            have e1 : (repCells zv.cells.toList cap).take (len * (m + 1)) = repCells zv.cells.toList len := by
              apply List.ext_getElem?
              intro j
              rw [repCells_get]
              simp only [Array.length_toList, hzsz]
              by_cases hj : j < len * (m + 1)
              · rw [List.getElem?_take_of_lt hj, repCells_get, if_pos hj]
                simp only [Array.length_toList, hzsz]
                rw [if_pos (by omega)]
              · rw [List.getElem?_take_eq_none (by omega), if_neg hj]
            rw [e1]
            exact hzs.cells.rep len
          · rw [hrl, harr]; exact hml
          · rw [hsz]
            exact .sref b 0 len (m + 1) _ 0 _ cap _ hb q1' (.inr ⟨rfl, by rw [harr]; omega⟩)
        · cases h
      · cases h
    · cases h
  · exact absurd rfl (hc _)
  · cases h

end Go.Nv
