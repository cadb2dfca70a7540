/- Operations that change memory at will: append, copy, a map's entries, unsafe.String, range over an empty map, panic. -/
import Derived.Test.YteijcndjnohaoaaGreatDoorNvStore
import Derived.Deep.AppendSrc
import Derived.Lib.UnsafeStr
set_option linter.all false
set_option linter.unusedVariables false
set_option linter.unusedSimpArgs false
namespace Go.Nv
open Go
variable {P : Program} {C : Cfg} {im : IM} {fx : FX} {μ : Mu} {w : World} {σ : Heap} {ρ : Operand → Option AV} {ρ' : Operand → Value}

/-! ### What is appended or copied -/
theorem loadCells_nil (a : Addr) (w : World) : (loadCells a 0).run P w = .ok #[] w := by simpa using run_loadCells_list (P := P) w a [] (by simp)
theorem firstCells_nil (a : Addr) (sz l c : Nat) (w : World) : (Builtin.firstCells sz 0 (.slice (some a) l c)).run P w = .ok #[] w := by simp [Builtin.firstCells, loadCells_nil]

theorem srcLen_ok {x : AV} {x' : Value} {n : Nat} (h : srcLen x = some n) (hx : SimV im μ x x') (w : World) : (Builtin.lenOf x').run P w = .ok n w := by
  cases x <;> simp only [srcLen, Option.some.injEq] at h <;> try (cases h; done)
  all_goals subst h
  all_goals cases hx
  all_goals first
    | rfl
    | (simp only [Builtin.lenOf, Sem.run_pure]; rfl)

theorem firstCells_zero {x : AV} {x' : Value} {n sz : Nat} (h : srcLen x = some n) (hx : SimV im μ x x') (w : World) : (Builtin.firstCells sz 0 x').run P w = .ok #[] w := by
  cases x <;> simp only [srcLen, Option.some.injEq] at h <;> try (cases h; done)
  all_goals subst h
  all_goals cases hx
  all_goals simp [Builtin.firstCells, loadCells_nil]

theorem Row.at {cb off : Nat} {ys : List Value} (h : Row w cb off ys) : ∀ j v, ys[j]? = some v → w.cell? ((⟨cb, off, none⟩ : Addr).add j) = some v := by
  intro j v hj
  have e : (⟨cb, off, none⟩ : Addr).add j = ⟨cb, off + j, none⟩ := by unfold Addr.add; split <;> simp_all
  rw [e]
  exact h j v hj

theorem srcCells_ok (H : WSim im fx μ w σ) {x : AV} {x' : Value} {n sz : Nat} {new : List AV} (h : srcCells σ n sz x = some new) (hx : SimV im μ x x') :
    ∃ news, SimL im μ new news ∧ news.length = n * sz ∧ ∀ w1 : World, (∀ c : Nat, w1.heap[c]? = w.heap[c]?) → (Builtin.firstCells sz n x').run P w1 = .ok news.toArray w1 := by
  have hrow : ∀ {cb off : Nat} {ys : List Value}, Row w cb off ys → ∀ w1 : World, (∀ c : Nat, w1.heap[c]? = w.heap[c]?) → Row w1 cb off ys := by
    intro cb off ys hr w1 hw j v hj
    have := hr j v hj
    simp only [World.cell?, hw] at this ⊢
    exact this
  unfold srcCells at h
  split at h
  · split at h
    · simp only [Option.some.injEq] at h
      subst h
      rw [hx.inv_snil]
      exact ⟨[], .nil, by simp, fun w1 _ => run_firstCells_none w1 sz 0 0 0⟩
    · cases h
  · rename_i len sz' cs
    split at h
    · rename_i h1 h2
      have h1' := Nat.le_of_ble_eq_true h1
      have h2' := Nat.eq_of_beq_eq_true h2
      subst h2'
      simp only [Option.some.injEq] at h
      subst h
      cases hx with
      | psl0 _ cap a =>
        have : n = 0 := by omega
        subst this
        exact ⟨[], by simpa using SimL.nil, by simp, fun w1 _ => firstCells_nil _ _ _ _ _⟩
      | psl _ _ _ hnr cap cb off l hn hl him hb hs =>
        have hm : n * sz ≤ len * sz := Nat.mul_le_mul_right _ h1'
        refine ⟨((l.drop off).take cs.length).take (n * sz), hs.take _, ?_, fun w1 hw => ?_⟩
        · simp only [List.length_take, List.length_drop]; omega
        · refine run_firstCells_some w1 sz n ⟨cb, off, none⟩ len cap _ ?_ ?_
          · simp only [List.length_take, List.length_drop]; omega
          · exact (hrow ((H.pcells him).take _) w1 hw).at
    · cases h
  · rename_i b o len sz'
    split at h
    · rename_i h1 h2
      have h1' := Nat.le_of_ble_eq_true h1
      have h2' := Nat.eq_of_beq_eq_true h2
      subst h2'
      split at h
      · rename_i ty u cs hg
        split at h
        · rename_i h3
          have h3' := Nat.le_of_ble_eq_true h3
          simp only [Option.some.injEq] at h
          subst h
          obtain ⟨cb, base, tot, cap, a, hμ, hlc, hcap, rfl⟩ := hx.inv_sref
          obtain ⟨cb2, base2, tot2, arr, fr, q1, q2, q3, q4, q5, q6, q7, q8, q9⟩ := H.cells hg
          rw [hμ] at q1
          cases q1
          rcases Nat.eq_zero_or_pos n with hn0 | hpos
          · subst hn0
            exact ⟨[], by simpa using SimL.nil, by simp, fun w1 _ => firstCells_nil _ _ _ _ _⟩
          rcases hcap with hcap | ⟨rfl, hb⟩
          · omega
          have hL := q9.length
          simp only [List.length_take, List.length_drop, Array.length_toList] at hL
          refine ⟨((((arr.toList.drop base).take cs.length).drop o).take (n * sz)), (q9.drop o).take _, ?_, fun w1 hw => ?_⟩
          · simp only [List.length_take, List.length_drop, Array.length_toList]; omega
          · refine run_firstCells_some w1 sz n ⟨cb, base + o, none⟩ len cap _ ?_ ?_
            · simp only [List.length_take, List.length_drop, Array.length_toList]; omega
            · exact (hrow (((row_of_block q4 base cs.length).drop o).take _) w1 hw).at
        · cases h
      · cases h
    · cases h
  · rename_i s
    split at h
    · rename_i h1 h2
      have h1' := Nat.le_of_ble_eq_true h1
      have h2' := Nat.eq_of_beq_eq_true h2
      subst h2'
      simp only [Option.some.injEq] at h
      subst h
      rw [hx.inv_str]
      refine ⟨(s.take n).map fun b => Value.int .u8 b.toNat, Nv.byteCells _, by simp; omega, fun w1 _ => ?_⟩
      simp only [Builtin.firstCells, Sem.run_pure]
      congr 1
      apply Array.ext'
      simp
    · cases h
  · cases h

/-! ### append -/
theorem drew_heap (w : World) : w.drew.heap = w.heap := rfl

/-- What an operation that changes memory leaves. -/
def Turns (im : IM) (fx : FX) (μ : Mu) (σ : Heap) (w' : World) (σ' : Heap) (μ' : Mu) : Prop :=
  Le im im μ μ' ∧ WSim im fx μ' w' σ' ∧ σ.next ≤ σ'.next ∧ Fresh μ' σ'.next ∧ ∀ b, b < σ.next → μ' b = μ b

theorem Turns.same {w' : World} {σ' : Heap} (H : WSim im fx μ w' σ') (hn : σ'.next = σ.next) (hF : Fresh μ σ.next) : Turns im fx μ σ w' σ' μ :=
  ⟨Le.refl _ _, H, by omega, by rw [hn]; exact hF, fun _ _ => rfl⟩

theorem fresh_upd {n : Nat} {e : Nat × Nat × Nat} (hF : Fresh μ n) : Fresh (WSim.upd μ n e) (n + 1) := fun b hb => by
  rw [WSim.upd_ne (by omega)]
  exact hF b (by omega)

theorem upd_below {n : Nat} {e : Nat × Nat × Nat} : ∀ b, b < n → WSim.upd μ n e b = μ b := fun b hb => WSim.upd_ne (by omega)

theorem append_ok (H : WSim im fx μ w σ) (hF : Fresh μ σ.next) {t u ty : TypeId} {s x v : AV} {s' x' : Value} {σ' : Heap} (hu : (∃ e', P.underlying u = some (.slice e')) ∨ P.underlying u = some .string) (h : appendV P t s x σ = some (v, σ')) (hs : SimV im μ s s') (hx : SimV im μ x x') (r : List TypeId) :
    ∃ v' w' μ', (Builtin.append_ (t :: u :: r).toArray ty #[s', x']).run P w = .ok v' w' ∧ SimV im μ' v v' ∧ Turns im fx μ σ w' σ' μ' := by
  have hr : Builtin.append_ (t :: u :: r).toArray ty #[s', x'] = Builtin.append_ #[t, u] ty #[s', x'] := by simp [Builtin.append_]
  rw [hr]
  unfold appendV at h
  simp only [Option.bind_eq_some_iff] at h
  obtain ⟨e, he, sz, hsz, by_, hby, n, hn, z, hz, h⟩ := h
  have ht := tElem_of he
  obtain ⟨i, hi, hisz⟩ := tSize_of hsz
  obtain ⟨i2, z', hi2, hz', hzs⟩ := tZero_sim (im := im) (μ := μ) hz
  rw [hi] at hi2
  cases hi2
  have hbytes : i.bytes = by_ := by
    unfold tBytes at hby
    rw [hi] at hby
    simpa using hby
  split at h
  · -- nothing is appended
    have key : ∀ (base : Option Addr) (len cap : Nat), len ≤ cap → (Builtin.append_ #[t, u] ty #[.slice base len cap, x']).run P w = .ok (.slice base len cap) w := by
      intro base len cap hlc
      have hl := fun w' => srcLen_ok (P := P) hn hx w'
      have hf := firstCells_zero (P := P) (sz := i.size) hn hx w
      rcases hu with ⟨e', hk⟩ | hk <;> cases base <;> simp [Builtin.append_, run_underlying ht, run_underlying hk, sizeOf, typeInfo, hi, hl, hlc, hf, storeCells]
    split at h
    · simp only [Option.some.injEq, Prod.mk.injEq] at h
      obtain ⟨rfl, rfl⟩ := h
      rw [hs.inv_snil]
      exact ⟨_, w, μ, key _ _ _ (Nat.le_refl _), .snil, Turns.same H rfl hF⟩
    · simp only [Option.some.injEq, Prod.mk.injEq] at h
      obtain ⟨rfl, rfl⟩ := h
      obtain ⟨a, cap, rfl, hlc, _⟩ := hs.inv_psl
      exact ⟨_, w, μ, key _ _ _ hlc, hs, Turns.same H rfl hF⟩
    · simp only [Option.some.injEq, Prod.mk.injEq] at h
      obtain ⟨rfl, rfl⟩ := h
      obtain ⟨cb, base, tot, cap, a, hμ, hlc, hcap, rfl⟩ := hs.inv_sref
      exact ⟨_, w, μ, key _ _ _ hlc, hs, Turns.same H rfl hF⟩
    · cases h
  · rename_i m
    split at h
    · cases h
    rename_i sz1
    simp only [Option.bind_eq_some_iff] at h
    obtain ⟨new, hnew, h⟩ := h
    split at h
    · rename_i hone hzl
      have hzl' := Nat.eq_of_beq_eq_true hzl
      have hzc := hzs.cells.length
      simp only [Array.length_toList] at hzc
      obtain ⟨news, hns, hnl, hfc⟩ := srcCells_ok (P := P) H hnew hx
      have hsrc : Src P i.size u x' (m + 1) news w := by
        refine ⟨hu, fun w' => srcLen_ok hn hx w', ?_, ?_, by rw [hisz]; exact hnl, hns.all_one hone⟩
        · rw [hisz]; exact hfc w (fun _ => rfl)
        · rw [hisz]; exact hfc w.drew (fun _ => rfl)
      -- the new row
      have grow : ∀ (base : Option Addr) (len cap : Nat) (olds : List AV) (olds' : List Value) (σ1 : Heap), WSim im fx μ w σ1 → σ1.next = σ.next → SimL im μ olds olds' → olds.length = len * i.size →
          (Builtin.firstCells i.size len (.slice base len cap)).run P w.drew = .ok olds'.toArray w.drew → cap < len + (m + 1) → (len + (m + 1)) * (by_ + 1) ≤ 1099511627776 →
          ∃ v' w' μ', (Builtin.append_ #[t, u] ty #[.slice base len cap, x']).run P w = .ok v' w' ∧ SimV im μ' (.sref σ.next 0 (len + (m + 1)) i.size) v' ∧ Turns im fx μ σ w' ((σ1.set σ.next (.cells e false (olds ++ new))).bump 1) μ' := by
        intro base len cap olds olds' σ1 H1 hn1 ho hol hfo hc hb
        have hle : len + (m + 1) ≤ 1099511627776 := Nat.le_trans (Nat.le_mul_of_pos_right _ (Nat.succ_pos _)) hb
        have hmul : (len + (m + 1)) * by_ ≤ (len + (m + 1)) * (by_ + 1) := Nat.mul_le_mul_left _ (Nat.le_succ _)
        have hrun := run_append_grow_src (P := P) w t u ty e i z' ht hi hz' base len cap olds' hfo x' (m + 1) news hsrc hc (by omega) (by rw [hbytes]; exact growslice_fits hc (by omega))
        have hoL := ho.length
        have hnL := hns.length
        have hcap := grownCap_ge w (len + (m + 1)) cap e
        generalize grownCap w (len + (m + 1)) cap e = gc at *
        refine ⟨_, _, WSim.upd μ σ.next (w.heap.size, 0, ((olds' ++ news).toArray ++ Builtin.zeroCells z'.cells (gc - (len + (m + 1)))).size), hrun, ?_, ?_⟩
        · refine .sref _ _ _ _ _ _ _ _ _ (WSim.upd_same _ _ _) hcap (.inr ⟨rfl, ?_⟩)
          simp only [Builtin.zeroCells, Array.size_append, List.size_toArray, List.length_append, Array.size_map, Array.size_range]
          rw [← hoL, hol, hnl, ← hzc, hzl', ← hisz, ← Nat.add_mul, ← Nat.add_mul]
          have := Nat.mul_le_mul_right i.size (show gc ≤ len + (m + 1) + (gc - (len + (m + 1))) by omega)
          simp only [Nat.succ_eq_add_one] at *
          omega
        · have hp : WSim im fx (WSim.upd μ σ.next (w.heap.size, 0, ((olds' ++ news).toArray ++ Builtin.zeroCells z'.cells (gc - (len + (m + 1)))).size)) (w.drew.alloc (.cells ((olds' ++ news).toArray ++ Builtin.zeroCells z'.cells (gc - (len + (m + 1)))) e)) (σ1.set σ.next (.cells e false (olds ++ new))) := by
            refine (H1.of_heap (w' := w.drew) rfl rfl).push (o := .cells ((olds' ++ news).toArray ++ Builtin.zeroCells z'.cells (gc - (len + (m + 1)))) e) (hF _ (Nat.le_refl _)) rfl rfl ⟨_, (0, 0), rfl, rfl, ?_, ?_, noFr0 _, ?_⟩
            · simp only [Array.size_append, List.size_toArray, List.length_append]; omega
            · intro hh; cases hh
            · have : List.take (olds ++ new).length (List.drop 0 ((olds' ++ news).toArray ++ Builtin.zeroCells z'.cells (gc - (len + (m + 1)))).toList) = olds' ++ news := by
                simp only [List.drop_zero, Array.toList_append]
                rw [List.take_append_of_le_length (by simp; omega), List.take_of_length_le (by simp; omega)]
              rw [this]
              exact ho.append hns
          refine ⟨WSim.le_upd (hF _ (Nat.le_refl _)), hp.bump 1, by simp [hn1], ?_, upd_below⟩
          simp only [Heap.next_bump, Heap.next_set, hn1]
          exact fresh_upd hF
      simp only [← hisz] at h
      split at h
      · split at h
        · rename_i hb
          have hb' := Nat.le_of_ble_eq_true hb
          simp only [Option.some.injEq, Prod.mk.injEq] at h
          obtain ⟨rfl, rfl⟩ := h
          rw [hs.inv_snil]
          have := grow none 0 0 [] [] σ H rfl .nil (by simp) (by simp [Builtin.firstCells]) (by omega) (by rw [Nat.zero_add]; exact hb')
          rw [Nat.zero_add] at this
          exact this
        · cases h
      · rename_i b o len sz'
        split at h
        · rename_i h1 h2 h3
          rename_i tyb vb cs
          split at h
          · rename_i h4 h5
            have h1' := Nat.eq_of_beq_eq_true h1
            have h2' := Nat.le_of_ble_eq_true h2
            have h4' := Nat.eq_of_beq_eq_true h4
            have h5' := Nat.eq_of_beq_eq_true h5
            subst h1' h5'
            simp only [Option.some.injEq, Prod.mk.injEq] at h
            obtain ⟨rfl, rfl⟩ := h
            obtain ⟨cb, base, tot, cap, a, hμ, hlc, hcap, rfl⟩ := hs.inv_sref
            obtain ⟨cb2, base2, tot2, arr, fr, q1, q2, q3, q4, q5, q6, q7, q8, q9⟩ := H.cells h3
            rw [hμ] at q1
            cases q1
            have q9' := q9.drop o
            have hqL := q9'.length
            simp only [List.length_drop, List.length_take, Array.length_toList] at hqL
            by_cases hroom : len + (m + 1) ≤ cap
            · -- room
              rcases hcap with hcap | ⟨rfl, hcb⟩
              · omega
              have hm1 : (len + (m + 1)) * i.size ≤ cap * i.size := Nat.mul_le_mul_right _ hroom
              have hm2 : (len + (m + 1)) * i.size = len * i.size + (m + 1) * i.size := Nat.add_mul _ _ _
              have hnl' : news.length = (m + 1) * i.size := by rw [hnl, hisz]
              have hcl : ∀ j, j < news.length → w.cell? ⟨cb, base + o + len * i.size + j, none⟩ = arr[base + o + len * i.size + j]? := fun j _ => by simp [World.cell?, q4]
              have hrun := run_append_room_src (P := P) w t u ty _ i ht hi cb (base + o) len cap x' (m + 1) news hsrc hroom
                (fun j hj => by
                  rw [hcl j hj]
                  rw [Array.getElem?_eq_getElem (by omega)]; rfl)
                (fun j hj => by
                  have := q8 (base + o + len * i.size + j) (by omega)
                  simp only [World.frozen?, q4]
                  simp only [Bool.and_eq_false_iff, decide_eq_false_iff_not]
                  omega)
              obtain ⟨⟨arr', g1, g2⟩, g3⟩ := setCells_heap cb news (base + o + len * i.size) w arr _ fr q4 (by omega)
              have hal : arr'.size = arr.size := by
                have e1 : arr'.toList.length = arr'.size := by simp
                rw [← e1, g2, setSeg_length _ _ _ (by simp; omega)]
                simp
              have hnL := hns.length
              have hle := WSim.le_upd (im := im) (e := (cb, base + o, tot)) (hF _ (Nat.le_refl _))
              refine ⟨_, _, WSim.upd μ σ.next (cb, base + o, tot), hrun, .sref _ _ _ _ _ _ _ _ _ (WSim.upd_same _ _ _) hroom (.inr ⟨by simp, by simpa using hcb⟩), hle, ?_, by simp, ?_, upd_below⟩
              · have hfree := H.free_del h3 hμ
                have hw1 := (H.del b).change q2 q3 hfree (w' := w.setCells cb (base + o + len * i.size) news) (fun c oo hc hh => by rw [g3 c hc]; exact hh) (os_setCells _ _ _ _)
                have hname := hw1.name (e := (cb, base + o, tot)) (hF _ (Nat.le_refl _))
                refine (hname.adopt (x := .cells _ false (cs.drop o ++ new)) (WSim.upd_same _ _ _) q2 q3 ?_ g1 ⟨arr', fr, rfl, by omega, ?_, fun hh => Bool.noConfusion hh, q8, ?_⟩).bump 1
                · intro c y ee hc he'
                  have hne : c ≠ σ.next := by
                    rintro rfl
                    obtain ⟨_, _, _, _, q, _⟩ := hw1.blk _ y hc
                    rw [hF _ (Nat.le_refl _)] at q
                    cases q
                  rw [WSim.upd_ne hne] at he'
                  exact hfree c y ee hc he'
                · simp only [List.length_append, List.length_drop]; omega
                · refine SimL.mono hle ?_
                  have hlen : (cs.drop o ++ new).length = len * i.size + news.length := by simp only [List.length_append, List.length_drop]; omega
                  rw [hlen, g2]
                  have e2 : ((setSeg arr.toList (base + o + len * i.size) news).drop (base + o)).take (len * i.size + news.length) = (((arr.toList.drop base).take cs.length).drop o) ++ news := by
                    have hA : arr.toList.length = arr.size := by simp
                    simp only [setSeg]
                    generalize arr.toList = L at *
                    rw [List.drop_append_of_le_length (by rw [List.length_take]; omega), List.drop_take, show base + o + len * i.size - (base + o) = len * i.size by omega]
                    have t1 : (List.take (len * i.size) (List.drop (base + o) L)).length = len * i.size := by rw [List.length_take, List.length_drop]; omega
                    rw [List.take_append, t1, show len * i.size + news.length - len * i.size = news.length by omega, List.take_append_of_le_length (Nat.le_refl _), List.take_of_length_le (by rw [t1]; omega), List.take_length]
                    congr 1
                    rw [List.drop_take, List.drop_drop]
                    congr 1
                    omega
                  rw [e2]
                  exact q9'.append hns
              · simp only [Heap.next_bump, Heap.next_set, Heap.next_del]
                exact fresh_upd hF
            · -- a new row
              refine grow (some a) len cap (cs.drop o) _ (σ.del b) (H.del b) rfl q9' (by rw [List.length_drop]; omega) ?_ (by omega) h2'
              rcases Nat.eq_zero_or_pos len with hl0 | hl0
              · subst hl0
                have : cs.length - o = 0 := by omega
                rw [firstCells_nil]
                congr 2
                apply Eq.symm
                apply List.eq_nil_of_length_eq_zero
                simp only [List.length_drop, List.length_take, Array.length_toList]
                omega
              · rcases hcap with hcap | ⟨rfl, hcb⟩
                · omega
                refine run_firstCells_some w.drew i.size len _ len cap _ ?_ ?_
                · simp only [List.length_drop, List.length_take, Array.length_toList]; omega
                · exact ((row_of_block (w := w.drew) q4 base cs.length).drop o).at
          · cases h
        · cases h
      · cases h
    · cases h

/-! ### copy -/
theorem setSeg_nil {α : Type} (l : List α) (o : Nat) : setSeg l o [] = l := by simp [setSeg]

theorem WSim.reset (H : WSim im fx μ w σ) {b : Nat} {x : ABlk} (hg : σ.get b = some x) : WSim im fx μ w (σ.set b x) := by
  refine H.of_get fun c => ?_
  rw [Heap.get_set]
  split
  · rename_i e; rw [e, hg]
  · rfl

theorem copy_ok (H : WSim im fx μ w σ) (hF : Fresh μ σ.next) {t ty : TypeId} {d s v : AV} {d' s' : Value} {σ' : Heap} (h : copyV P t d s σ = some (v, σ')) (hd : SimV im μ d d') (hs : SimV im μ s s') (r : List TypeId) :
    ∃ v' w', (Builtin.copy_ (t :: r).toArray ty #[d', s']).run P w = .ok v' w' ∧ SimV im μ v v' ∧ Turns im fx μ σ w' σ' μ := by
  unfold copyV at h
  simp only [Option.bind_eq_some_iff] at h
  obtain ⟨e, he, sz, hsz, m, hm, h⟩ := h
  have ht := tElem_of he
  obtain ⟨i, hi, hisz⟩ := tSize_of hsz
  have hl := srcLen_ok (P := P) hm hs w
  have hr : (t :: r).toArray[0]? = some t := by simp
  split at h
  · simp only [Option.some.injEq, Prod.mk.injEq] at h
    obtain ⟨rfl, rfl⟩ := h
    rw [hd.inv_snil]
    have hf := firstCells_zero (P := P) (sz := i.size) hm hs w
    refine ⟨goInt 0, w, ?_, .int _ _, Turns.same H rfl hF⟩
    simp [Builtin.copy_, run_underlying ht, sizeOf, typeInfo, hi, hl, hf]
  · rename_i b o len sz'
    simp only [Option.bind_eq_some_iff] at h
    obtain ⟨new, hnew, h⟩ := h
    split at h
    · rename_i h1 h2 h3
      rename_i tyb vb cs
      split at h
      · rename_i h4
        have h2' := Nat.eq_of_beq_eq_true h2
        have h4' := Nat.le_of_ble_eq_true h4
        subst h2'
        simp only [Option.some.injEq, Prod.mk.injEq] at h
        obtain ⟨rfl, rfl⟩ := h
        obtain ⟨cb, base, tot, cap, a, hμ, hlc, hcap, rfl⟩ := hd.inv_sref
        obtain ⟨news, hns, hnl, hfc⟩ := srcCells_ok (P := P) H hnew hs
        have hf := hfc w (fun _ => rfl)
        rw [← hisz] at hf
        rcases Nat.eq_zero_or_pos (Nat.min m len) with h0 | h0
        · have hn0 : news = [] := List.eq_nil_of_length_eq_zero (by rw [hnl, h0, Nat.zero_mul])
          subst hn0
          have hnw : new = [] := List.eq_nil_of_length_eq_zero (by rw [hns.length]; rfl)
          subst hnw
          refine ⟨goInt (Nat.min m len), w, ?_, .int _ _, Turns.same ?_ rfl hF⟩
          · simp [Builtin.copy_, run_underlying ht, sizeOf, typeInfo, hi, hl, hf, storeCells]
          · rw [setSeg_nil]; exact H.reset h3
        · have : Nat.min m len ≤ len := Nat.min_le_right _ _
          rcases hcap with hcap | ⟨rfl, hcb⟩
          · omega
          obtain ⟨g1, g2⟩ := write_ok (P := P) (new := new) (o := o) H h3 hμ hns h4' h1
          refine ⟨goInt (Nat.min m len), _, ?_, .int _ _, Turns.same g2 rfl hF⟩
          simp [Builtin.copy_, run_underlying ht, sizeOf, typeInfo, hi, hl, hf, g1]
      · cases h
    · cases h
  · cases h

/-! ### A map's entries -/
theorem cellEq_bits {x y : AV} {x' y' : Value} (hc : cellEq x y = some true) (hx : SimV im μ x x') (hy : SimV im μ y y') (n : Nat) : Instr.sameBits n y' x' = true := by
  unfold cellEq at hc
  split at hc
  · rw [hx.inv_bool, hy.inv_bool]
    rename_i a b
    cases a <;> cases b <;> simp at hc <;> simp [Instr.sameBits]
  · rw [hx.inv_int, hy.inv_int]
    split at hc
    · rename_i hk
      have hk' := kEq_iff.1 hk
      subst hk'
      simp only [Option.some.injEq, iEq_eq, beq_iff_eq] at hc
      simp [Instr.sameBits, hc]
    · cases hc
  · rw [hx.inv_str, hy.inv_str]
    simp only [Option.some.injEq, bytesEq_eq, beq_iff_eq] at hc
    subst hc
    simp only [Instr.sameBits]
    rw [beq_toListBytes]
    exact beq_self_eq_true _
  · cases hc

theorem updM_ok {d : TypeDesc} {k v : AV} {k' v' : Value} (hk : SimV im μ k k') (hv : SimV im μ v v') (hkd : KeyOk d k) (clock : Nat) : ∀ {es es2 : List (AV × AV)} {es' : List MapEntry} (i : Nat), updM k v es = some es2 → SimM im μ es es' →
    (∃ j e, Instr.findNow d k' es' i = some (some (i + j, e.val)) ∧ es'[j]? = some e ∧ Instr.sameBits 10000 e.key k' = true ∧ SimM im μ es2 (es'.set j { e with key := k', val := v' })) ∨
    (Instr.findNow d k' es' i = some none ∧ SimM im μ es2 (es' ++ [{ key := k', val := v', born := clock }]))
  | [], es2, es', i, h, hs => by
    simp only [updM, Option.some.injEq] at h
    subst h
    cases hs
    exact .inr ⟨rfl, .cons _ _ _ _ _ hk hv .nil⟩
  | (k2, v2) :: es, es2, es', i, h, hs => by
    simp only [updM, Option.bind_eq_some_iff] at h
    obtain ⟨b, hb, h⟩ := h
    cases hs with
    | cons _ _ e _ es' h1 h2 h3 =>
      have hn := cellEq_sameNow hb hk h1 hkd
      cases b with
      | true =>
        simp only [Option.some.injEq] at h
        subst h
        exact .inl ⟨0, e, by simp [Instr.findNow, hn], by simp, cellEq_bits hb hk h1 _, by simpa using SimM.cons _ _ _ _ _ hk hv h3⟩
      | false =>
        simp only [Option.bind_eq_some_iff, Option.some.injEq] at h
        obtain ⟨r, hr, rfl⟩ := h
        rcases updM_ok hk hv hkd clock (i + 1) hr h3 with ⟨j, e2, g1, g2, g3, g4⟩ | ⟨g1, g2⟩
        · exact .inl ⟨j + 1, e2, by simp [Instr.findNow, hn, g1]; omega, by simpa using g2, g3, by simpa using SimM.cons _ _ _ _ _ h1 h2 g4⟩
        · exact .inr ⟨by simp [Instr.findNow, hn, g1], by simpa using SimM.cons _ _ _ _ _ h1 h2 g2⟩

theorem run_setObj_map {r : Nat} {es : Array MapEntry} {c : Nat} {es2 : Array MapEntry} {c2 : Nat} (h : w.heap[r]? = some (.map es c)) : (setObj r (.map es2 c2)).run P w = .ok () { w with heap := w.heap.setIfInBounds r (.map es2 c2) } := by
  simp [setObj, Sem.run, h]

theorem mapUpdate_ok (H : WSim im fx μ w σ) {t : TypeId} {b : Nat} {kv v : AV} {x' k' v' : Value} {k e : TypeId} {es es2 : List (AV × AV)} (hk : keyTy P t kv = some (k, e)) (hx : SimV im μ (.mref b) x') (hks : SimV im μ kv k') (hvs : SimV im μ v v')
    (hg : σ.get b = some (.mapb es)) (hu : updM kv v es = some es2) :
    ∃ w', (Instr.mapUpdate t x' k' v').run P w = .ok () w' ∧ WSim im fx μ w' (σ.set b (.mapb es2)) := by
  obtain ⟨ht, d, hd, hkd⟩ := keyTy_of hk
  obtain ⟨cb, base, tot, hμ, rfl⟩ := hx.inv_mref
  obtain ⟨cb2, base2, tot2, o, q1, q2, q3, q4, ents, clock, rfl, q5⟩ := H.blk b _ hg
  rw [hμ] at q1
  cases q1
  have hget := run_getObj_at (P := P) (w := w) q4 (fun c t f h => by cases h)
  have hlt := (Array.getElem?_eq_some_iff.1 q4).1
  have hturn : ∀ (es3 : Array MapEntry) (c3 : Nat), SimM im μ es2 es3.toList → WSim im fx μ { w with heap := w.heap.setIfInBounds cb (.map es3 c3) } (σ.set b (.mapb es2)) := by
    intro es3 c3 hs
    refine H.turn hg hμ (fun c oo hc hh => ?_) rfl (o' := .map es3 c3) ?_ ⟨es3, c3, rfl, hs⟩
    · simp only [Array.getElem?_setIfInBounds_ne (Ne.symm hc)]; exact hh
    · simp [hlt]
  rcases updM_ok hks hvs hkd clock 0 hu q5 with ⟨j, en, g1, g2, g3, g4⟩ | ⟨g1, g2⟩
  · rw [Nat.zero_add] at g1
    have g2' : ents[j]? = some en := by simpa using g2
    refine ⟨_, ?_, hturn (ents.modify j fun e => { e with key := k', val := v' }) clock ?_⟩
    · simp only [Instr.mapUpdate, Sem.run_bind, run_underlying_of ht, Result.andThen_ok, hget, run_checkKey hd hkd, run_findKey hd g1, g2', Option.map_some, Option.getD_some, Instr.keyThatStays, g3, if_true, Sem.run_pure, run_setObj_map q4]
    · have : (ents.modify j fun e => { e with key := k', val := v' }).toList = ents.toList.set j { en with key := k', val := v' } := by
        obtain ⟨hj, he⟩ := Array.getElem?_eq_some_iff.1 g2'
        rw [Array.toList_modify]
        apply List.ext_getElem?
        intro n
        rw [List.getElem?_modify, List.getElem?_set]
        by_cases hn : j = n
        · subst hn
          simp [hj, he]
        · simp [hn]
      rw [this]
      exact g4
  · refine ⟨_, ?_, hturn (ents.push { key := k', val := v', born := clock }) (clock + 1) (by simpa using g2)⟩
    simp only [Instr.mapUpdate, Sem.run_bind, run_underlying_of ht, Result.andThen_ok, hget, run_checkKey hd hkd, run_findKey hd g1, run_setObj_map q4]

/-! ### range over an empty map -/
theorem range_ok (H : WSim im fx μ w σ) (hF : Fresh μ σ.next) {t k e : TypeId} {m : Nat} {x' : Value} (ht : P.underlying t = some (.map k e)) (hx : SimV im μ (.mref m) x') (hg : σ.get m = some (.mapb [])) :
    ∃ v' w' μ', (Instr.range t x').run P w = .ok v' w' ∧ SimV im μ' (.ptr σ.next 0) v' ∧ Turns im fx μ σ w' ((σ.set σ.next (.iter m)).bump 1) μ' := by
  obtain ⟨cb, base, tot, hμ, rfl⟩ := hx.inv_mref
  obtain ⟨cb2, base2, tot2, o, q1, q2, q3, q4, ents, clock, rfl, q5⟩ := H.blk m _ hg
  rw [hμ] at q1
  cases q1
  have hget := run_getObj_at (P := P) (w := w) q4 (fun c t f h => by cases h)
  have hle := WSim.le_upd (im := im) (e := (w.heap.size, 0, 0)) (hF _ (Nat.le_refl _))
  have hp := H.push (w' := { w with heap := w.heap.push (.mapIter (some cb) clock #[] clock) }) (b := σ.next) (tot := 0) (x := .iter m) (o := .mapIter (some cb) clock #[] clock) (hF _ (Nat.le_refl _)) rfl rfl
    ⟨cb, base, tot, clock, clock, rfl, hμ, rfl⟩
  refine ⟨_, _, WSim.upd μ σ.next (w.heap.size, 0, 0), ?_, .ptr _ _ w.heap.size 0 0 (WSim.upd_same _ _ _), hle, hp.bump 1, by simp, ?_, upd_below⟩
  · simp only [Instr.range, Sem.run_bind, run_underlying_of ht, Result.andThen_ok, hget, Sem.run_pure]
    simp only [run_newObj, Result.andThen_ok, Sem.run_pure]
  · simp only [Heap.next_bump, Heap.next_set]
    exact fresh_upd hF

/-! ### unsafe.String -/
theorem liesAt_row {e u : TypeId} (hc : P.cellsOf e = 1) (hu : P.underlyingId e = P.underlyingId u) (count off n : Nat) (hn : off + n ≤ count) : liesAt P P.depth e count off u n = true := by
  have hd : P.depth = (2 * (P.types.size + Made.depth) + 1) + 1 := rfl
  rw [hd]
  simp only [liesAt, Bool.or_eq_true]
  left
  rw [hd]
  simp [rowAt, hc, hn, sameLayout, hu, Nat.mod_one]

theorem run_loadBytes_int : ∀ (l : List Int) (a : Addr) (acc : ByteArray), (∀ j x, l[j]? = some x → w.cell? (a.add j) = some (.int .u8 x)) →
    (loadBytes a acc l.length).run P w = .ok ⟨acc.data ++ (l.map fun n => UInt8.ofNat n.toNat).toArray⟩ w
  | [], a, acc, _ => by simp [loadBytes]
  | x :: l, a, acc, h => by
    have h0 : w.cell? a = some (.int .u8 x) := by
      have := h 0 x rfl
      simpa [Addr.add] using this
    have ih := run_loadBytes_int l (a.add 1) (acc.push (UInt8.ofNat x.toNat)) (fun j y hy => by
      have := h (j + 1) y (by simpa using hy)
      have e : (a.add 1).add j = a.add (j + 1) := by
        unfold Addr.add
        by_cases hj : j = 0
        · subst hj; simp
        · simp [hj]; omega
      rw [e]; exact this)
    have hx : x.toNat.toUInt8 = UInt8.ofNat x.toNat := rfl
    simp only [List.length_cons, loadBytes, Sem.run_bind, run_load, h0, Result.andThen, hx]
    rw [ih]
    congr 1
    apply ByteArray.ext
    simp [ByteArray.push]

theorem unsafeString_ok (H : WSim im fx μ w σ) {pt it ty e : TypeId} {ats : Array TypeId} {b o n : Nat} {tyb : TypeId} {vb : Bool} {cs : List AV} {x' : Value} {l : List UInt8} (hx : SimV im μ (.ptr b o) x') (hg : σ.get b = some (.cells tyb vb cs))
    (h0 : ats[0]? = some pt) (hp : P.underlying pt = some (.pointer e)) (hn : o + (n + 1) ≤ cs.length) (hu : P.underlyingId e = P.underlyingId tyb) (hc : P.cellsOf tyb = 1) (hb : bytesOf ((cs.drop o).take (n + 1)) = some l) (h63 : ((n + 1 : Nat) : Int) ≤ 9223372036854775807) :
    ∃ w', (Builtin.unsafeString_ ats ty #[x', .int .i64 ((n + 1 : Nat) : Int)]).run P w = .ok (.string ⟨l.toArray⟩) w' ∧ WSim im fx μ w' (σ.del b) := by
  obtain ⟨cb, base, tot, hμ, rfl⟩ := hx.inv_ptr
  obtain ⟨cb2, base2, tot2, arr, fr, q1, q2, q3, q4, q5, q6, q7, q8, q9⟩ := H.cells hg
  rw [hμ] at q1
  cases q1
  have hr := ((row_of_block q4 base cs.length).drop o).take (n + 1)
  have hs := (q9.drop o).take (n + 1)
  obtain ⟨ns, hns, rfl⟩ := bytesOf_ok hb hs
  rw [hns] at hr hs
  have hlen := hs.length
  simp only [List.length_take, List.length_drop, List.length_map] at hlen
  refine ⟨w.freeze ⟨cb, base + o, none⟩ (n + 1), ?_, ?_⟩
  · have hlb := run_loadBytes_int (P := P) (w := w) ns ⟨cb, base + o, none⟩ .empty (fun j x hj => by
      have := hr.at j (.int .u8 x) (by simp [hj])
      exact this)
    have hnl : ns.length = n + 1 := by omega
    rw [hnl] at hlb
    have hlies := liesAt_row (P := P) hc hu.symm (tot / P.cellsOf tyb) (base + o) (n + 1) (by rw [hc, Nat.div_one]; omega)
    have h63' : ¬ (9223372036854775807 : Int) < ((n + 1 : Nat) : Int) := by omega
    have hneg : ¬ ((n + 1 : Nat) : Int) < 0 := by omega
    have hne : ¬ ((n + 1 : Nat) : Int) = 0 := by omega
    have hsh : w.shape? cb = some (tyb, tot) := by simp [World.shape?, q4, q5]
    have hm : ∀ (h1 : Option Addr → Value → Sem Value) (h2 : Array Value → Sem Value), Builtin.unsafeString_.match_3 (motive := fun _ => Sem Value) #[.pointer (some ⟨cb, base + o, none⟩), .int .i64 ((n + 1 : Nat) : Int)] h1 h2 =
        h1 (some ⟨cb, base + o, none⟩) (.int .i64 ((n + 1 : Nat) : Int)) := fun _ _ => rfl
    rw [Builtin.unsafeString_.eq_1, hm]
    have hmax : IntKind.i64.max = 9223372036854775807 := rfl
    simp only [h0, asInt, asIntOf, Sem.run_bind, Sem.run_pure, Result.andThen_ok, hmax, gt_iff_lt, if_neg h63', if_neg hneg, if_neg hne, Int.toNat_natCast, elemOf, run_underlying_of hp, variablesAt, run_program, run_shape, hsh, hlies, if_true, hlb]
    simp
  · refine (H.del b).change q2 q3 (H.free_del hg hμ) (fun c oo hc hh => ?_) ?_
    · simp only [World.freeze, Nat.succ_ne_zero, if_false]
      simp [Array.getElem?_modify, Ne.symm hc, hh]
    · unfold World.freeze
      split <;> rfl

end Go.Nv
