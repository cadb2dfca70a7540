/- The abstract memory stands for the machine's: the relation, and how it abides new blocks, stores and what is dropped. -/
import Derived.Test.YteijcndjnohaoaaGreatDoorNvRel
set_option linter.all false
set_option linter.unusedVariables false
set_option linter.unusedSimpArgs false
namespace Go.Nv
open Go

def NoFr (fr : Nat × Nat) (tot : Nat) : Prop := ∀ o, o < tot → ¬ (fr.1 ≤ o ∧ o < fr.2)

inductive SimM (im : IM) (μ : Mu) : List (AV × AV) → List MapEntry → Prop
  | nil : SimM im μ [] []
  | cons (k v : AV) (e : MapEntry) (es : List (AV × AV)) (es' : List MapEntry) (hk : SimV im μ k e.key) (hv : SimV im μ v e.val) (hs : SimM im μ es es') : SimM im μ ((k, v) :: es) (e :: es')
theorem SimM.mono {im im' : IM} {μ μ' : Mu} (hle : Le im im' μ μ') : ∀ {x : List (AV × AV)} {y : List MapEntry}, SimM im μ x y → SimM im' μ' x y
  | _, _, .nil => .nil
  | _, _, .cons k v e es es' hk hv hs => .cons k v e es es' (hk.mono hle) (hv.mono hle) (SimM.mono hle hs)

def TSim (im : IM) (μ : Mu) (tm : PT AV) (arr : Array Value) : Prop := ∀ t v, tm.get t = some v → ∃ v', arr[t]? = some v' ∧ SimV im μ v v'
theorem TSim.mono {im im' : IM} {μ μ' : Mu} (hle : Le im im' μ μ') {tm : PT AV} {arr : Array Value} (h : TSim im μ tm arr) : TSim im' μ' tm arr :=
  fun t v e => let ⟨v', h1, h2⟩ := h t v e; ⟨v', h1, h2.mono hle⟩
theorem TSim.set {im : IM} {μ : Mu} {tm : PT AV} {arr : Array Value} (h : TSim im μ tm arr) {d : Nat} (hd : d < arr.size) {v : AV} {v' : Value} (hv : SimV im μ v v') :
    TSim im μ (tm.set d (some v)) (arr.setIfInBounds d v') := by
  intro t x hx
  rw [PT.get_set] at hx
  by_cases e : t = d
  · subst e
    simp at hx
    subst hx
    exact ⟨v', by simp [hd], hv⟩
  · rw [if_neg e] at hx
    obtain ⟨y, hy, hs⟩ := h t x hx
    exact ⟨y, by rw [Array.getElem?_setIfInBounds_ne (Ne.symm e)]; exact hy, hs⟩

def stOf : LoopState → Nat
  | .ready => 0
  | .busy => 1
  | .done => 2
  | .exhausted => 3
def pendOf : Option Jmp → Option Code
  | none => none
  | some .ret => some .ret
  | some (.exit id) => some (.exit id)

def BlkSim (im : IM) (μ : Mu) (x : ABlk) (base tot : Nat) (o : Obj) : Prop := match x with
  | .cells ty v cs => ∃ arr fr, o = .cells arr ty fr ∧ arr.size = tot ∧ base + cs.length ≤ tot ∧ (v = true → base = 0 ∧ cs.length = tot) ∧ NoFr fr tot ∧
      SimL im μ cs ((arr.toList.drop base).take cs.length)
  | .mapb es => ∃ ents clock, o = .map ents clock ∧ SimM im μ es ents.toList
  | .loop r => ∃ L : Loop, o = .loop L ∧ TSim im μ r.tmps L.tmps ∧ L.tmps.size = r.sz ∧ L.params.toList = r.params ∧ L.assign = r.assign ∧ L.body = r.body ∧ stOf L.state = r.st ∧ L.pending = pendOf r.pend
  | .defs => o = .deferred (some [])
  | .iter m => ∃ cm bs tt since stepped, o = .mapIter (some cm) since #[] stepped ∧ μ m = some (cm, bs, tt) ∧ base = 0
theorem BlkSim.mono {im im' : IM} {μ μ' : Mu} (hle : Le im im' μ μ') {x : ABlk} {base tot : Nat} {o : Obj} (h : BlkSim im μ x base tot o) : BlkSim im' μ' x base tot o := by
  cases x with
  | cells ty v cs =>
    obtain ⟨arr, fr, h1, h2, h3, h4, h5, h6⟩ := h
    exact ⟨arr, fr, h1, h2, h3, h4, h5, h6.mono hle⟩
  | mapb es =>
    obtain ⟨ents, clock, h1, h2⟩ := h
    exact ⟨ents, clock, h1, h2.mono hle⟩
  | loop r =>
    obtain ⟨L, h1, h2, h3⟩ := h
    exact ⟨L, h1, h2.mono hle, h3⟩
  | defs => exact h
  | iter m =>
    obtain ⟨cm, bs, tt, since, stepped, h1, h2, h3⟩ := h
    exact ⟨cm, bs, tt, since, stepped, h1, hle.2 _ _ h2, h3⟩

/-- What of a world is no memory and no tape. -/
def away (w : World) := (w.os, w.output)
/-- Blocks that stay as they are; a world of which all that is away stays as it is. -/
structure FX where
  at_ : Nat → Option Obj
  first : World
instance : CoeFun FX (fun _ => Nat → Option Obj) := ⟨FX.at_⟩
def fxOf (w : World) : FX := ⟨fun c => w.heap[c]?, w⟩
theorem fxOf_at (w : World) (c : Nat) : fxOf w c = w.heap[c]? := rfl

structure WSim (im : IM) (fx : FX) (μ : Mu) (w : World) (σ : Heap) : Prop where
  imm : ∀ cb l, im cb = some l → ∃ arr ty fr, w.heap[cb]? = some (.cells arr ty fr) ∧ arr.toList = l
  fix : ∀ b o, fx b = some o → w.heap[b]? = some o
  blk : ∀ b x, σ.get b = some x → ∃ cb base tot o, μ b = some (cb, base, tot) ∧ im cb = none ∧ fx cb = none ∧ w.heap[cb]? = some o ∧ BlkSim im μ x base tot o
  inj : ∀ b b' x x' e e', σ.get b = some x → σ.get b' = some x' → μ b = some e → μ b' = some e' → e.1 = e'.1 → b = b'
  os : away w = away fx.first

def Fresh (μ : Mu) (n : Nat) : Prop := ∀ b, n ≤ b → μ b = none

theorem Heap.get_set (σ : Heap) (b c : Nat) (x : ABlk) : (σ.set b x).get c = if c = b then some x else σ.get c := PT.get_set _ _ _ _
theorem Heap.get_del (σ : Heap) (b c : Nat) : (σ.del b).get c = if c = b then none else σ.get c := PT.get_set _ _ _ _
@[simp] theorem Heap.get_bump (σ : Heap) (n c : Nat) : (σ.bump n).get c = σ.get c := rfl
@[simp] theorem Heap.next_set (σ : Heap) (b : Nat) (x : ABlk) : (σ.set b x).next = σ.next := rfl
@[simp] theorem Heap.next_del (σ : Heap) (b : Nat) : (σ.del b).next = σ.next := rfl
@[simp] theorem Heap.next_bump (σ : Heap) (n : Nat) : (σ.bump n).next = σ.next + n := rfl
theorem Heap.get_empty (b : Nat) : Heap.empty.get b = none := rfl

namespace WSim
variable {im : IM} {fx : FX} {μ : Mu} {w w' : World} {σ σ' : Heap}

theorem of_heap (h : WSim im fx μ w σ) (hw : w'.heap = w.heap) (ho : away w' = away w) : WSim im fx μ w' σ := by
  refine ⟨?_, ?_, ?_, h.inj, ho.trans h.os⟩
  · intro cb l e; rw [hw]; exact h.imm cb l e
  · intro b o e; rw [hw]; exact h.fix b o e
  · intro b x e; rw [hw]; exact h.blk b x e

theorem of_get (h : WSim im fx μ w σ) (hg : ∀ b, σ'.get b = σ.get b) : WSim im fx μ w σ' :=
  ⟨h.imm, h.fix, fun b x e => h.blk b x (by rw [← hg]; exact e), fun b b' x x' e e' h1 h2 => h.inj b b' x x' e e' (by rw [← hg]; exact h1) (by rw [← hg]; exact h2), h.os⟩

theorem bump (h : WSim im fx μ w σ) (n : Nat) : WSim im fx μ w (σ.bump n) := h.of_get fun _ => rfl

theorem del (h : WSim im fx μ w σ) (b : Nat) : WSim im fx μ w (σ.del b) := by
  refine ⟨h.imm, h.fix, fun c x e => ?_, fun c c' x x' e e' h1 h2 => ?_, h.os⟩
  · rw [Heap.get_del] at e
    split at e
    · cases e
    · exact h.blk c x e
  · rw [Heap.get_del] at h1 h2
    split at h1
    · cases h1
    · split at h2
      · cases h2
      · exact h.inj c c' x x' e e' h1 h2

/-- No block that is kept lies at cb. -/
def Free (μ : Mu) (σ : Heap) (cb : Nat) : Prop := ∀ b x e, σ.get b = some x → μ b = some e → e.1 ≠ cb

theorem free_del (h : WSim im fx μ w σ) {b : Nat} {x : ABlk} {e : Nat × Nat × Nat} (hb : σ.get b = some x) (he : μ b = some e) : Free μ (σ.del b) e.1 := by
  intro c y e' hc he' hcb
  rw [Heap.get_del] at hc
  split at hc
  · cases hc
  · rename_i hne
    exact hne (h.inj c b y x e' e hc hb he' he hcb)

/-- What is free may be changed; memory may grow. -/
theorem change (h : WSim im fx μ w σ) {cb : Nat} (hi : im cb = none) (hf : fx cb = none) (hfr : Free μ σ cb) (hw : ∀ (c : Nat) (o : Obj), c ≠ cb → w.heap[c]? = some o → w'.heap[c]? = some o) (hos : away w' = away w) : WSim im fx μ w' σ := by
  refine ⟨?_, ?_, ?_, h.inj, hos.trans h.os⟩
  · intro c l e
    obtain ⟨arr, ty, fr, h1, h2⟩ := h.imm c l e
    exact ⟨arr, ty, fr, hw c _ (by rintro rfl; rw [hi] at e; cases e) h1, h2⟩
  · intro b o e
    exact hw b o (by rintro rfl; rw [hf] at e; cases e) (h.fix b o e)
  · intro b x e
    obtain ⟨c, base, tot, o, h1, h2, h3, h4, h5⟩ := h.blk b x e
    exact ⟨c, base, tot, o, h1, h2, h3, hw c o (hfr b x _ e h1) h4, h5⟩

/-- Memory may grow. -/
theorem grow (h : WSim im fx μ w σ) (hw : ∀ (c : Nat) (o : Obj), w.heap[c]? = some o → w'.heap[c]? = some o) (hos : away w' = away w) : WSim im fx μ w' σ := by
  refine ⟨?_, ?_, ?_, h.inj, hos.trans h.os⟩
  · intro c l e
    obtain ⟨arr, ty, fr, h1, h2⟩ := h.imm c l e
    exact ⟨arr, ty, fr, hw c _ h1, h2⟩
  · intro b o e
    exact hw b o (h.fix b o e)
  · intro b x e
    obtain ⟨c, base, tot, o, h1, h2, h3, h4, h5⟩ := h.blk b x e
    exact ⟨c, base, tot, o, h1, h2, h3, hw c o h4, h5⟩

/-- A block that nobody keeps is taken in under its own number. -/
theorem adopt (h : WSim im fx μ w σ) {b cb base tot : Nat} {x : ABlk} {o : Obj} (hμ : μ b = some (cb, base, tot)) (hi : im cb = none) (hf : fx cb = none) (hfr : Free μ σ cb)
    (ho : w.heap[cb]? = some o) (hx : BlkSim im μ x base tot o) : WSim im fx μ w (σ.set b x) := by
  refine ⟨h.imm, h.fix, fun c y e => ?_, fun c c' y y' e e' h1 h2 he he' hcb => ?_, h.os⟩
  · rw [Heap.get_set] at e
    split at e
    · rename_i hc
      cases e
      exact ⟨cb, base, tot, o, by rw [hc]; exact hμ, hi, hf, ho, hx⟩
    · exact h.blk c y e
  · rw [Heap.get_set] at h1 h2
    split at h1
    · rename_i hc
      split at h2
      · rename_i hc'; rw [hc, hc']
      · rename_i hc'
        subst hc
        rw [hμ] at he
        cases he
        exact absurd hcb.symm (hfr c' y' e' h2 he')
    · rename_i hc
      split at h2
      · rename_i hc'
        subst hc'
        rw [hμ] at he'
        cases he'
        exact absurd hcb (hfr c y e h1 he)
      · exact h.inj c c' y y' e e' h1 h2 he he' hcb

def upd (μ : Mu) (b : Nat) (e : Nat × Nat × Nat) : Mu := fun c => if c = b then some e else μ c
theorem upd_same (μ : Mu) (b : Nat) (e : Nat × Nat × Nat) : upd μ b e b = some e := by simp [upd]
theorem upd_ne {μ : Mu} {b c : Nat} {e : Nat × Nat × Nat} (h : c ≠ b) : upd μ b e c = μ c := by simp [upd, h]
theorem le_upd {im : IM} {μ : Mu} {b : Nat} {e : Nat × Nat × Nat} (h : μ b = none) : Le im im μ (upd μ b e) :=
  ⟨fun _ _ h => h, fun c e' hc => by rw [upd_ne (by rintro rfl; rw [h] at hc; cases hc)]; exact hc⟩

/-- More numbers are known. -/
theorem name (h : WSim im fx μ w σ) {b : Nat} {e : Nat × Nat × Nat} (hb : μ b = none) : WSim im fx (upd μ b e) w σ := by
  have hle : Le im im μ (upd μ b e) := le_upd hb
  have hg : ∀ c x, σ.get c = some x → c ≠ b := fun c x hc => by
    rintro rfl
    obtain ⟨cb, base, tot, o, h1, _⟩ := h.blk c x hc
    rw [hb] at h1
    cases h1
  refine ⟨h.imm, h.fix, fun c x hc => ?_, fun c c' x x' e1 e2 h1 h2 he he' hcb => ?_, h.os⟩
  · obtain ⟨cb, base, tot, o, h1, h2, h3, h4, h5⟩ := h.blk c x hc
    exact ⟨cb, base, tot, o, hle.2 _ _ h1, h2, h3, h4, h5.mono hle⟩
  · rw [upd_ne (hg c x h1)] at he
    rw [upd_ne (hg c' x' h2)] at he'
    exact h.inj c c' x x' e1 e2 h1 h2 he he' hcb

theorem lt_size (h : WSim im fx μ w σ) : (∀ cb l, im cb = some l → cb < w.heap.size) ∧ (∀ b o, fx b = some o → b < w.heap.size) ∧ (∀ b x e, σ.get b = some x → μ b = some e → e.1 < w.heap.size) := by
  refine ⟨fun cb l e => ?_, fun b o e => ?_, fun b x e hb he => ?_⟩
  · obtain ⟨_, _, _, h1, _⟩ := h.imm cb l e
    exact (Array.getElem?_eq_some_iff.1 h1).1
  · exact (Array.getElem?_eq_some_iff.1 (h.fix b o e)).1
  · obtain ⟨cb, base, tot, o, h1, _, _, h4, _⟩ := h.blk b x hb
    rw [he] at h1
    cases h1
    exact (Array.getElem?_eq_some_iff.1 h4).1

/-- A new block. -/
theorem push (h : WSim im fx μ w σ) {b tot : Nat} {x : ABlk} {o : Obj} (hb : μ b = none) (hh : w'.heap = w.heap.push o) (hos : away w' = away w) (hx : BlkSim im μ x 0 tot o) :
    WSim im fx (upd μ b (w.heap.size, 0, tot)) w' (σ.set b x) := by
  have hl := h.lt_size
  have h1 : WSim im fx μ w' σ := h.grow (fun c o' hc => by
    have := (Array.getElem?_eq_some_iff.1 hc).1
    rw [hh, Array.getElem?_push, if_neg (by omega)]
    exact hc) hos
  have h2 := h1.name (e := (w.heap.size, 0, tot)) hb
  have hle : Le im im μ (upd μ b (w.heap.size, 0, tot)) := le_upd hb
  refine h2.adopt (upd_same _ _ _) ?_ ?_ ?_ (o := o) (by rw [hh]; simp) (hx.mono hle)
  · cases e : im w.heap.size with
    | none => rfl
    | some l => exact absurd (hl.1 _ _ e) (by omega)
  · cases e : fx w.heap.size with
    | none => rfl
    | some l => exact absurd (hl.2.1 _ _ e) (by omega)
  · intro c y e hc he
    have hne : c ≠ b := by
      rintro rfl
      obtain ⟨_, _, _, _, q, _⟩ := h.blk c y hc
      rw [hb] at q
      cases q
    rw [upd_ne hne] at he
    have := hl.2.2 c y e hc he
    omega

/-- A block that is kept is turned where it lies. -/
theorem turn (h : WSim im fx μ w σ) {b cb base tot : Nat} {x x' : ABlk} {o' : Obj} (hb : σ.get b = some x) (hμ : μ b = some (cb, base, tot))
    (hw : ∀ (c : Nat) (o : Obj), c ≠ cb → w.heap[c]? = some o → w'.heap[c]? = some o) (hos : away w' = away w) (ho : w'.heap[cb]? = some o') (hx : BlkSim im μ x' base tot o') : WSim im fx μ w' (σ.set b x') := by
  obtain ⟨cb2, base2, tot2, o, h1, h2, h3, h4, h5⟩ := h.blk b x hb
  rw [hμ] at h1
  cases h1
  have hfr := h.free_del hb hμ
  have h6 := ((h.del b).change h2 h3 hfr hw hos).adopt hμ h2 h3 hfr ho hx
  exact h6.of_get fun c => by rw [Heap.get_set, Heap.get_set, Heap.get_del]; split <;> rfl
end WSim

end Go.Nv
