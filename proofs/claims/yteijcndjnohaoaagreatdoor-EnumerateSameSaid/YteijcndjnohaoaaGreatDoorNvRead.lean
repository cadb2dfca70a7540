/- Operations that read memory. -/
import Derived.Test.YteijcndjnohaoaaGreatDoorNvPureAll
import Derived.Laws.BytesString
set_option linter.all false
set_option linter.unusedVariables false
set_option linter.unusedSimpArgs false
namespace Go.Nv
open Go
variable {P : Program} {C : Cfg} {im : IM} {fx : FX} {μ : Mu} {w : World} {σ : Heap} {ρ : Operand → Option AV} {ρ' : Operand → Value}

def Row (w : World) (cb off : Nat) (ys : List Value) : Prop := ∀ j v, ys[j]? = some v → w.cell? ⟨cb, off + j, none⟩ = some v

theorem row_of_block {cb : Nat} {arr : Array Value} {ty : TypeId} {fr : Nat × Nat} (h : w.heap[cb]? = some (.cells arr ty fr)) (off n : Nat) : Row w cb off ((arr.toList.drop off).take n) := by
  intro j v hj
  have hlt : j < n := by
    rcases Nat.lt_or_ge j n with h' | h'
    · exact h'
    · rw [List.getElem?_take_eq_none h'] at hj; cases hj
  rw [List.getElem?_take_of_lt hlt, List.getElem?_drop] at hj
  simp only [World.cell?, h]
  simpa using hj

theorem Row.drop {cb off : Nat} {ys : List Value} (h : Row w cb off ys) (n : Nat) : Row w cb (off + n) (ys.drop n) := by
  intro j v hj
  rw [List.getElem?_drop] at hj
  have := h _ _ hj
  rw [← Nat.add_assoc] at this
  exact this
theorem Row.take {cb off : Nat} {ys : List Value} (h : Row w cb off ys) (n : Nat) : Row w cb off (ys.take n) := by
  intro j v hj
  refine h j v ?_
  rcases Nat.lt_or_ge j n with h' | h'
  · rwa [List.getElem?_take_of_lt h'] at hj
  · rw [List.getElem?_take_eq_none h'] at hj; cases hj

theorem run_loadRow {cb off : Nat} {ys : List Value} (h : Row w cb off ys) : (loadCells ⟨cb, off, none⟩ ys.length).run P w = .ok ys.toArray w := by
  refine run_loadCells_list w _ ys fun j v hj => ?_
  rw [add_at]
  exact h j v hj

theorem ld_ok {t : TypeId} {cs : List AV} {ys : List Value} {cb off o : Nat} {v : AV} (h : ldCells P t cs o = some v) (hs : SimL im μ cs ys) (hr : Row w cb off ys) :
    ∃ v', (loadVar t ⟨cb, off + o, none⟩).run P w = .ok v' w ∧ SimV im μ v v' := by
  simp only [ldCells, Option.bind_eq_some_iff] at h
  obtain ⟨a, ha, h⟩ := h
  cases a with
  | true =>
    simp only [Option.bind_eq_some_iff] at h
    obtain ⟨n, hn, h⟩ := h
    split at h
    · rename_i hb
      simp only [Option.some.injEq] at h
      subst h
      have hb' := Nat.le_of_ble_eq_true hb
      have hl := hs.length
      have hlen : ((ys.drop o).take n).length = n := by simp; omega
      have hrow := (hr.drop o).take n
      have e := run_loadRow (P := P) hrow
      rw [hlen] at e
      refine ⟨.agg ((ys.drop o).take n).toArray, ?_, .agg _ _ (by simpa using (hs.drop o).take n)⟩
      simp only [loadVar, Sem.run_bind, run_isAgg_of ha, Result.andThen_ok, if_true, run_sizeOf_of hn, e, Sem.run_pure]
    · cases h
  | false =>
    simp only at h
    obtain ⟨y, hy, hsy⟩ := (hs.drop o).head? h
    rw [List.head?_drop] at hy
    refine ⟨y, ?_, hsy⟩
    simp only [loadVar, Sem.run_bind, run_isAgg_of ha, Result.andThen_ok, Bool.false_eq_true, if_false]
    simp [hr o y hy]

theorem getLim_get {lim : Nat → Bool} {b : Nat} {x : ABlk} (h : getLim σ lim b = some x) : σ.get b = some x ∧ lim b = true := by
  unfold getLim at h
  split at h
  · rename_i e; exact ⟨h, e⟩
  · cases h

theorem WSim.cells (H : WSim im fx μ w σ) {b : Nat} {ty : TypeId} {v : Bool} {cs : List AV} (h : σ.get b = some (.cells ty v cs)) :
    ∃ cb base tot arr fr, μ b = some (cb, base, tot) ∧ im cb = none ∧ fx cb = none ∧ w.heap[cb]? = some (.cells arr ty fr) ∧ arr.size = tot ∧ base + cs.length ≤ tot ∧ (v = true → base = 0 ∧ cs.length = tot) ∧ NoFr fr tot ∧
      SimL im μ cs ((arr.toList.drop base).take cs.length) := by
  obtain ⟨cb, base, tot, o, h1, h2, h3, h4, arr, fr, rfl, h5, h6, h7, h8, h9⟩ := H.blk b _ h
  exact ⟨cb, base, tot, arr, fr, h1, h2, h3, h4, h5, h6, h7, h8, h9⟩

theorem WSim.pcells (H : WSim im fx μ w σ) {cb off n : Nat} {l : List Value} (h : im cb = some l) : Row w cb off ((l.drop off).take n) := by
  obtain ⟨arr, ty, fr, h1, rfl⟩ := H.imm cb l h
  exact row_of_block h1 off n

theorem run_loadAt {t : TypeId} {a : Addr} {v : Value} {w' : World} (h : (loadVar t a).run P w = .ok v w') : (Instr.loadAt t (.pointer (some a))).run P w = .ok v w' := by
  simp [Instr.loadAt, Instr.sureAddr, h]

theorem load_ok (H : WSim im fx μ w σ) {t : TypeId} {b o : Nat} {ty : TypeId} {u : Bool} {cs : List AV} {v : AV} {x' : Value} (hg : σ.get b = some (.cells ty u cs)) (h : ldCells P t cs o = some v) (hx : SimV im μ (.ptr b o) x') :
    ∃ v', (Instr.loadAt t x').run P w = .ok v' w ∧ SimV im μ v v' := by
  obtain ⟨cb, base, tot, arr, fr, h1, _, _, h4, _, _, _, _, h9⟩ := H.cells hg
  obtain ⟨cb2, base2, tot2, e, rfl⟩ := hx.inv_ptr
  rw [h1] at e
  cases e
  obtain ⟨v', g1, g2⟩ := ld_ok h h9 (row_of_block h4 base cs.length)
  exact ⟨v', run_loadAt g1, g2⟩
theorem pload_ok (H : WSim im fx μ w σ) {t : TypeId} {cs : List AV} {v : AV} {x' : Value} (h : ldCells P t cs 0 = some v) (hx : SimV im μ (.pptr cs) x') :
    ∃ v', (Instr.loadAt t x').run P w = .ok v' w ∧ SimV im μ v v' := by
  obtain ⟨cb, off, l, h1, h2, h3, rfl⟩ := hx.inv_pptr
  obtain ⟨v', g1, g2⟩ := ld_ok h h3 (H.pcells h1)
  exact ⟨v', run_loadAt (by simpa using g1), g2⟩

theorem bytesOf_ok : ∀ {cs : List AV} {s : List UInt8} {ys : List Value}, bytesOf cs = some s → SimL im μ cs ys → ∃ ns : List Int, ys = ns.map (fun n => Value.int .u8 n) ∧ s = ns.map (fun n => UInt8.ofNat n.toNat)
  | [], s, ys, h, hs => by
    simp only [bytesOf, Option.some.injEq] at h
    subst h
    cases hs
    exact ⟨[], rfl, rfl⟩
  | x :: cs, s, ys, h, hs => by
    unfold bytesOf at h
    split at h
    · rename_i e; cases e
    · rename_i n r e
      cases e
      simp only [Option.bind_eq_some_iff] at h
      obtain ⟨l, hl, h⟩ := h
      simp only [Option.some.injEq] at h
      subst h
      cases hs with
      | cons _ y _ ys h1 h2 =>
        obtain ⟨ns, rfl, rfl⟩ := bytesOf_ok hl h2
        exact ⟨n :: ns, by rw [h1.inv_int]; rfl, rfl⟩
    · cases h

theorem fold_push : ∀ (ns : List Int) (s : List UInt8), ns.foldl (fun (r : ByteArray) n => r.push (UInt8.ofNat n.toNat)) (⟨s.toArray⟩ : ByteArray) = ⟨(s ++ ns.map fun n => UInt8.ofNat n.toNat).toArray⟩
  | [], s => by simp
  | n :: ns, s => by
    have : (⟨s.toArray⟩ : ByteArray).push (UInt8.ofNat n.toNat) = ⟨(s ++ [UInt8.ofNat n.toNat]).toArray⟩ := by
      apply ByteArray.ext
      simp [ByteArray.push]
    rw [List.foldl_cons, this, fold_push ns]
    simp

theorem run_bytesToStr {cb off cap len : Nat} {ns : List Int} (hl : ns.length = len) (hr : Row w cb off (ns.map fun n => Value.int .u8 n)) :
    (Conv.bytesToString (.slice (some ⟨cb, off, none⟩) len cap)).run P w = .ok (.string ⟨(ns.map fun n => UInt8.ofNat n.toNat).toArray⟩) w := by
  have e := run_loadRow (P := P) hr
  rw [List.length_map, hl] at e
  rw [run_bytesToString w _ len cap ns e]
  have := fold_push ns []
  rw [show (⟨([] : List UInt8).toArray⟩ : ByteArray) = ByteArray.empty from rfl] at this
  rw [this]
  simp

/-- A slice's elements, of one cell each, as bytes. -/
theorem bytesSlice_ok {s : List UInt8} {len cap cb off : Nat} {cs : List AV} {ys : List Value} (hb : bytesOf cs = some s) (hs : SimL im μ cs ys) (hl : cs.length = len) (hr : Row w cb off ys) :
    (Conv.bytesToString (.slice (some ⟨cb, off, none⟩) len cap)).run P w = .ok (.string ⟨s.toArray⟩) w := by
  obtain ⟨ns, rfl, rfl⟩ := bytesOf_ok hb hs
  exact run_bytesToStr (by have := hs.length; simp at this; omega) hr

/-- A key's kind is its type's. -/
def KeyOk (d : TypeDesc) (x : AV) : Prop := (∃ q k n, d = .int q ∧ x = .int k n) ∨ (∃ s, d = .string ∧ x = .str s) ∨ (∃ p, d = .bool ∧ x = .bool p)

theorem keyTy_of {t k e : TypeId} {kv : AV} (h : keyTy P t kv = some (k, e)) : P.underlying t = some (.map k e) ∧ ∃ d, P.underlying k = some d ∧ KeyOk d kv := by
  unfold keyTy at h
  simp only [Option.bind_eq_some_iff] at h
  obtain ⟨d, hd, h⟩ := h
  cases d <;> simp only at h <;> try (cases h; done)
  split at h
  · rename_i hk
    simp only [Option.some.injEq, Prod.mk.injEq] at h
    obtain ⟨rfl, rfl⟩ := h
    exact ⟨hd, _, hk, .inl ⟨_, _, _, rfl, rfl⟩⟩
  · rename_i hk
    simp only [Option.some.injEq, Prod.mk.injEq] at h
    obtain ⟨rfl, rfl⟩ := h
    exact ⟨hd, _, hk, .inr (.inl ⟨_, rfl, rfl⟩)⟩
  · rename_i hk
    simp only [Option.some.injEq, Prod.mk.injEq] at h
    obtain ⟨rfl, rfl⟩ := h
    exact ⟨hd, _, hk, .inr (.inr ⟨_, rfl, rfl⟩)⟩
  · cases h

theorem run_checkKey {k : TypeId} {d : TypeDesc} {kv : AV} (hd : P.underlying k = some d) (hk : KeyOk d kv) (b : Bool) (n : Nat) (v : Value) : (Instr.checkKey b (n + 1) k v).run P w = .ok () w := by
  rcases hk with ⟨q, _, _, rfl, _⟩ | ⟨_, rfl, _⟩ | ⟨_, rfl, _⟩ <;> simp [Instr.checkKey, run_underlying_of hd]

theorem cellEq_sameNow {x y : AV} {x' y' : Value} {b : Bool} (hc : cellEq x y = some b) (hx : SimV im μ x x') (hy : SimV im μ y y') {d : TypeDesc} (hk : KeyOk d x) : Instr.sameNow d x' y' = some b := by
  rcases cellEq_spec hc with ⟨p, q, rfl, rfl, rfl⟩ | ⟨kk, m, n, rfl, rfl, rfl⟩ | ⟨s, u, rfl, rfl, rfl⟩
  · rw [hx.inv_bool, hy.inv_bool]
    rcases hk with ⟨_, _, _, _, e⟩ | ⟨_, _, e⟩ | ⟨_, rfl, _⟩
    · cases e
    · cases e
    · rfl
  · rw [hx.inv_int, hy.inv_int]
    rcases hk with ⟨_, _, _, rfl, _⟩ | ⟨_, _, e⟩ | ⟨_, _, e⟩
    · simp [Instr.sameNow]
    · cases e
    · cases e
  · rw [hx.inv_str, hy.inv_str]
    rcases hk with ⟨_, _, _, _, e⟩ | ⟨_, rfl, _⟩ | ⟨_, _, e⟩
    · cases e
    · simp only [Instr.sameNow, Option.some.injEq]
      rw [beq_toListBytes, bytes_toList, bytes_toList]
    · cases e

theorem findNow_ok {d : TypeDesc} {k : AV} {k' : Value} (hk : SimV im μ k k') (hkd : KeyOk d k) : ∀ {es : List (AV × AV)} {es' : List MapEntry} {r : Option AV} (i : Nat), lookupM k es = some r → SimM im μ es es' →
    ∃ r', Instr.findNow d k' es' i = some r' ∧ (match r, r' with
      | none, none => True
      | some v, some (_, v') => SimV im μ v v'
      | _, _ => False)
  | [], es', r, i, h, hs => by
    simp only [lookupM, Option.some.injEq] at h
    subst h
    cases hs
    exact ⟨none, rfl, trivial⟩
  | (k2, v2) :: es, es', r, i, h, hs => by
    simp only [lookupM, Option.bind_eq_some_iff] at h
    obtain ⟨b, hb, h⟩ := h
    cases hs with
    | cons _ _ e _ es' h1 h2 h3 =>
      have hn := cellEq_sameNow hb hk h1 hkd
      cases b with
      | true =>
        simp only [Option.some.injEq] at h
        subst h
        exact ⟨some (i, e.val), by simp [Instr.findNow, hn], h2⟩
      | false =>
        obtain ⟨r', g1, g2⟩ := findNow_ok hk hkd (i + 1) h h3
        exact ⟨r', by simp [Instr.findNow, hn, g1], g2⟩

theorem run_findKey {k : TypeId} {d : TypeDesc} {v : Value} {es : List MapEntry} {r : Option (Nat × Value)} (hd : P.underlying k = some d) (h : Instr.findNow d v es 0 = some r) : (Instr.findKey k v es).run P w = .ok r w := by
  simp [Instr.findKey, run_underlying_of hd, h]

theorem run_getObj_at {r : Nat} {o : Obj} (h : w.heap[r]? = some o) (hn : ∀ c t f, o ≠ .cells c t f) : (getObj r).run P w = .ok o w := by
  cases o <;> first | exact absurd rfl (hn _ _ _) | simp [getObj, Sem.run, h]

theorem lookup_ok (H : WSim im fx μ w σ) {t : TypeId} {x kv v : AV} {x' k' : Value} {ok : Bool} {k e : TypeId} {r : Option AV} {z : AV} {b : Bool} (hk : keyTy P t kv = some (k, e)) (hx : SimV im μ x x') (hks : SimV im μ kv k')
    (hr : (x = .nilm ∧ r = none) ∨ (∃ m es, x = .mref m ∧ σ.get m = some (.mapb es) ∧ lookupM kv es = some r))
    (hz : (∃ y, r = some y ∧ z = y ∧ b = true) ∨ (r = none ∧ tZero P e = some z ∧ b = false)) (hv : v = match ok with | true => .tup [z, .bool b] | false => z) :
    ∃ v', (Instr.lookup t x' k' ok).run P w = .ok v' w ∧ SimV im μ v v' := by
  obtain ⟨ht, d, hd, hkd⟩ := keyTy_of hk
  have hfin : ∀ z', SimV im μ z z' → SimV im μ v (if ok = true then .tuple #[z', .bool b] else z') := by
    intro z' hzz
    subst hv
    cases ok
    · exact hzz
    · exact .tup _ _ (.cons _ _ _ _ hzz (.one (.bool _)))
  rcases hr with ⟨rfl, rfl⟩ | ⟨m, es, rfl, hm, hl⟩
  · rw [hx.inv_nilm]
    rcases hz with ⟨y, e1, _⟩ | ⟨_, hz, rfl⟩
    · cases e1
    obtain ⟨z', g1, g2⟩ := run_zeroValue_of (im := im) (μ := μ) hz
    have hc : (Instr.checkKey true 10000 k k').run P w = .ok () w := run_checkKey (w := w) hd hkd true 9999 k'
    have hf : (Instr.findKey k k' []).run P w = .ok none w := run_findKey hd rfl
    exact ⟨_, by simp [Instr.lookup, run_underlying_of ht, hc, hf, g2 w], hfin z' g1⟩
  · obtain ⟨cb, base, tot, hμ, rfl⟩ := hx.inv_mref
    obtain ⟨cb2, base2, tot2, o, h1, h2, h3, h4, ents, clock, rfl, h5⟩ := H.blk m _ hm
    rw [hμ] at h1
    cases h1
    have hg := run_getObj_at (P := P) h4 (by simp)
    have hc : ∀ q, (Instr.checkKey q 10000 k k').run P w = .ok () w := fun q => run_checkKey (w := w) hd hkd q 9999 k'
    obtain ⟨r', g1, g2⟩ := findNow_ok hks hkd 0 hl h5
    have hf := run_findKey (w := w) hd g1
    rcases hz with ⟨y, rfl, rfl, rfl⟩ | ⟨rfl, hz, rfl⟩
    · cases r' with
      | none => exact g2.elim
      | some p =>
        obtain ⟨i, p⟩ := p
        exact ⟨_, by simp [Instr.lookup, run_underlying_of ht, hg, hc, hf], hfin p g2⟩
    · cases r' with
      | some p => exact g2.elim
      | none =>
        obtain ⟨z', q1, q2⟩ := run_zeroValue_of (im := im) (μ := μ) hz
        exact ⟨_, by simp [Instr.lookup, run_underlying_of ht, hg, hc, hf, q2 w], hfin z' q1⟩

/-- The step of a walk over an empty map. -/
theorem next_ok (H : WSim im fx μ w σ) {b m : Nat} {x' : Value} (hx : SimV im μ (.ptr b 0) x') (hb : σ.get b = some (.iter m)) (hm : σ.get m = some (.mapb [])) (ty : TypeId) :
    (Instr.next x' false ty).run P w = .ok (.tuple #[.bool false]) w := by
  obtain ⟨cb, base, tot, o, h1, h2, h3, h4, cm, bs, tt, since, stepped, rfl, h5, hb0⟩ := H.blk b _ hb
  obtain ⟨cb', base', tot', e, rfl⟩ := hx.inv_ptr
  rw [h1] at e
  cases e
  obtain ⟨cm2, bs2, tt2, o2, q1, q2, q3, q4, ents, clock, rfl, q5⟩ := H.blk m _ hm
  rw [h5] at q1
  cases q1
  have hents : ents = #[] := by
    cases hh : ents.toList with
    | nil => exact Array.toList_eq_nil_iff.1 hh
    | cons a l => rw [hh] at q5; cases q5
  subst hents
  subst hb0
  have g1 := run_getObj_at (P := P) h4 (by simp)
  have g2 := run_getObj_at (P := P) q4 (by simp)
  simp [Instr.next, g1, g2, Question.forced]

/-- What a reading operation that is no call of a function comes to. -/
theorem read_ok (H : WSim im fx μ w σ) (ev : Evn) (lim : Nat → Bool) {o : Oper} {v : AV} (hρ : OSim im μ ρ ρ') (h : readV P C ev lim ρ o σ = some v) (hc : ∀ c f, o.op = .call c → c.callee ≠ .value (.func f)) :
    ∃ v', (execOp ρ' o).run P w = .ok (.value v') w ∧ SimV im μ v v' := by
  obtain ⟨dst, op, type, pos, after, guard⟩ := o
  unfold readV at h
  simp only at h hc
  split at h
  · rename_i t x
    simp only [Option.bind_eq_some_iff] at h
    obtain ⟨a, ha, h⟩ := h
    split at h
    · split at h
      · rename_i hg
        obtain ⟨v', h1, h2⟩ := load_ok H (getLim_get hg).1 h (hρ _ _ ha)
        exact ⟨v', by simp only [execOp]; exact run_value h1, h2⟩
      · cases h
    · obtain ⟨v', h1, h2⟩ := pload_ok H h (hρ _ _ ha)
      exact ⟨v', by simp only [execOp]; exact run_value h1, h2⟩
    · cases h
  · rename_i s d x
    simp only [Option.bind_eq_some_iff] at h
    obtain ⟨a, ha, h⟩ := h
    have hs := hρ _ _ ha
    split at h
    · rename_i e h1 h2
      split at h
      · rename_i h3
        have hconv : ∀ a l c, (convert s d (.slice a l c)).run P w = (Conv.bytesToString (.slice a l c)).run P w := fun a l c => run_convert_bytes_string w s d e a l c h1 h3 h2
        split at h
        · simp only [Option.some.injEq] at h
          subst h
          refine ⟨.string ⟨([] : List UInt8).toArray⟩, ?_, .str _⟩
          simp only [execOp]
          refine run_value ?_
          rw [hs.inv_snil, hconv]
          rfl
        · rename_i len sz cs
          split at h
          · rename_i hsz
            obtain rfl := Nat.eq_of_beq_eq_true hsz
            simp only [Option.bind_eq_some_iff] at h
            obtain ⟨l, hl, h⟩ := h
            simp only [Option.some.injEq] at h
            subst h
            obtain ⟨ad, cap, he, hlc, hcl, hd⟩ := hs.inv_psl
            rw [Nat.mul_one] at hcl
            rw [List.take_of_length_le (by omega)] at hl
            refine ⟨.string ⟨l.toArray⟩, ?_, .str _⟩
            simp only [execOp]
            refine run_value ?_
            rw [he, hconv]
            rcases hd with ⟨h0, hcs⟩ | ⟨ll, hsp, him, hbd, hsl⟩
            · subst h0 hcs
              simp [bytesOf] at hl
              subst hl
              simp [Conv.bytesToString, loadCells, loadCellsFrom]
              rfl
            · have had : ad = ⟨ad.block, ad.off, none⟩ := by cases ad; simp at hsp; subst hsp; rfl
              rw [had]
              exact bytesSlice_ok hl hsl hcl (H.pcells him)
          · cases h
        · rename_i b o len sz
          split at h
          · rename_i ty0 u0 cs hsz hg
            obtain rfl := Nat.eq_of_beq_eq_true hsz
            split at h
            · rename_i hb
              have hb' := Nat.le_of_ble_eq_true hb
              simp only [Option.bind_eq_some_iff] at h
              obtain ⟨l, hl, h⟩ := h
              simp only [Option.some.injEq] at h
              subst h
              obtain ⟨cb, base, tot, cap, ad, hμ, hlc, hcap, he⟩ := hs.inv_sref
              obtain ⟨cb2, base2, tot2, arr, fr, q1, q2, q3, q4, q5, q6, q7, q8, q9⟩ := H.cells (getLim_get hg).1
              rw [hμ] at q1
              cases q1
              refine ⟨.string ⟨l.toArray⟩, ?_, .str _⟩
              simp only [execOp]
              refine run_value ?_
              rw [he, hconv]
              have hrow := ((row_of_block q4 base cs.length).drop o).take len
              have hsl := (q9.drop o).take len
              rcases hcap with hcap | ⟨rfl, _⟩
              · have : len = 0 := by omega
                subst this
                simp [bytesOf] at hl
                subst hl
                simp [Conv.bytesToString, loadCells, loadCellsFrom]
                rfl
              · exact bytesSlice_ok hl hsl (by simp; omega) hrow
            · cases h
          · cases h
        · cases h
      · cases h
    · rename_i u h1 h2
      split at h
      · rename_i b o
        simp only [Option.bind_eq_some_iff] at h
        obtain ⟨n, hn, h⟩ := h
        split at h
        · rename_i m ty0 u0 cs hg
          split at h
          · rename_i hlt
            simp only [Option.some.injEq] at h
            subst h
            have hlt' : o < cs.length := Nat.lt_of_lt_of_le (Nat.lt_succ_self _) (Nat.le_of_ble_eq_true hlt)
            obtain ⟨cb, base, tot, hμ, he⟩ := hs.inv_ptr
            obtain ⟨cb2, base2, tot2, arr, fr, q1, q2, q3, q4, q5, q6, q7, q8, q9⟩ := H.cells (getLim_get hg).1
            rw [hμ] at q1
            cases q1
            refine ⟨.pointer (some ⟨cb, base + o, none⟩), ?_, .ptr b o cb base tot hμ⟩
            simp only [execOp]
            refine run_value ?_
            rw [he]
            have hshape : w.shape? cb = some (ty0, arr.size) := by simp [World.shape?, q4]
            have hv : (viewAt cb).run P w = .ok none w := by simp [viewAt, hshape]
            have hci : (cellsIn cb).run P w = .ok (some arr.size) w := by simp [cellsIn, hshape]
            have hnot : ¬ arr.size ≤ base + o := by omega
            simp [convert, run_underlying_of h1, run_underlying_of h2, Conv.unsafePointer, Conv.seenAt, hv, hci, run_sizeOf_of hn, hnot]
          · cases h
        · cases h
      · cases h
    · rename_i u h1 h2
      split at h
      · rename_i b o
        simp only [Option.bind_eq_some_iff] at h
        obtain ⟨n, hn, h⟩ := h
        split at h
        · rename_i ty cs hg
          split at h
          · rename_i hla
            simp only [Option.some.injEq] at h
            subst h
            obtain ⟨cb, base, tot, hμ, he⟩ := hs.inv_ptr
            obtain ⟨cb2, base2, tot2, arr, fr, q1, q2, q3, q4, q5, q6, q7, q8, q9⟩ := H.cells (getLim_get hg).1
            rw [hμ] at q1
            cases q1
            obtain ⟨hb0, htot⟩ := q7 rfl
            subst hb0
            refine ⟨.pointer (some ⟨cb, 0 + o, none⟩), ?_, .ptr b o cb 0 tot hμ⟩
            simp only [execOp]
            refine run_value ?_
            rw [he]
            have hshape : w.shape? cb = some (ty, arr.size) := by simp [World.shape?, q4]
            have hv : (viewAt cb).run P w = .ok none w := by simp [viewAt, hshape]
            have hva : (variablesAt ⟨cb, o, none⟩ u 1).run P w = .ok true w := by
              simp only [variablesAt, Sem.run_bind, run_program, Result.andThen_ok, run_shape, hshape, Sem.run_pure]
              rw [q5, ← htot, hla]
            simp [convert, run_underlying_of h1, run_underlying_of h2, Conv.unsafePointer, Conv.seenAt, hv, run_sizeOf_of hn, hva]
          · cases h
        · cases h
      · cases h
    · cases h
  · rename_i x
    simp only [Option.bind_eq_some_iff] at h
    obtain ⟨a, ha, h⟩ := h
    split at h
    · split at h
      · rename_i hg
        split at h
        · rename_i hm
          simp only [Option.some.injEq] at h
          subst h
          have e := next_ok (P := P) H (hρ _ _ ha) (getLim_get hg).1 (getLim_get hm).1 type
          exact ⟨_, by simp only [execOp]; exact run_value e, .tup _ _ (.one (.bool _))⟩
        · cases h
      · cases h
    · cases h
  · rename_i t x k ok
    simp only [Option.bind_eq_some_iff] at h
    obtain ⟨a, ha, kv, hkv, ⟨kt, e⟩, hke, r, hr, ⟨z, b⟩, hz, h⟩ := h
    simp only [Option.some.injEq] at h
    have hr' : (a = .nilm ∧ r = none) ∨ (∃ m es, a = .mref m ∧ σ.get m = some (.mapb es) ∧ lookupM kv es = some r) := by
      split at hr
      · simp only [Option.some.injEq] at hr; exact .inl ⟨rfl, hr.symm⟩
      · split at hr
        · rename_i hg; exact .inr ⟨_, _, rfl, (getLim_get hg).1, hr⟩
        · cases hr
      · cases hr
    have hz' : (∃ y, r = some y ∧ z = y ∧ b = true) ∨ (r = none ∧ tZero P e = some z ∧ b = false) := by
      split at hz
      · simp only [Option.some.injEq, Prod.mk.injEq] at hz
        exact .inl ⟨_, rfl, hz.1.symm, hz.2.symm⟩
      · simp only [Option.bind_eq_some_iff] at hz
        obtain ⟨z1, g1, g2⟩ := hz
        simp only [Option.some.injEq, Prod.mk.injEq] at g2
        obtain ⟨rfl, rfl⟩ := g2
        exact .inr ⟨rfl, g1, rfl⟩
    obtain ⟨v', h1, h2⟩ := lookup_ok (P := P) (ok := ok) H hke (hρ _ _ ha) (hρ _ _ hkv) hr' hz' h.symm
    exact ⟨v', by simp only [execOp]; exact run_value h1, h2⟩
  · rename_i c
    obtain ⟨callee, args, argTypes⟩ := c
    simp only at h
    split at h
    · rename_i x t hargs hts
      rw [list_one hargs]
      simp only [Option.bind_eq_some_iff] at h
      obtain ⟨a, ha, h⟩ := h
      have hs := hρ _ _ ha
      split at h
      · rename_i hu
        simp only [Option.some.injEq] at h
        subst h
        refine ⟨.int .i64 0, ?_, .int _ _⟩
        simp [execOp, resolve, invoke, builtin, Builtin.len_, list_one hts, run_underlying_of hu, hs.inv_nilm, goInt]
      · rename_i b hu
        split at h
        · rename_i es hg
          simp only [Option.some.injEq] at h
          subst h
          obtain ⟨cb, base, tot, hμ, he⟩ := hs.inv_mref
          obtain ⟨cb2, base2, tot2, o, h1, h2, h3, h4, ents, clock, rfl, h5⟩ := H.blk b _ (getLim_get hg).1
          rw [hμ] at h1
          cases h1
          have hgo := run_getObj_at (P := P) h4 (by simp)
          have hlen : ents.size = es.length := by
            have : ∀ {x : List (AV × AV)} {y : List MapEntry}, SimM im μ x y → y.length = x.length := by
              intro x y hxy
              induction hxy with
              | nil => rfl
              | cons _ _ _ _ _ _ _ _ ih => simp [ih]
            simpa using this h5
          refine ⟨.int .i64 (es.length : Int), ?_, .int _ _⟩
          simp [execOp, resolve, invoke, builtin, Builtin.len_, list_one hts, run_underlying_of hu, he, hgo, goInt, hlen]
        · cases h
      · cases h
    · exact absurd rfl (hc _ _ rfl)
    · cases h
  · cases h

end Go.Nv
