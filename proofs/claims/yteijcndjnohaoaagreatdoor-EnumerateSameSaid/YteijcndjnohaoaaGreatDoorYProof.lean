/- Of any two explorations the law EnumerateSame returns true and leaves them as they were. Conditions: those of the given row alone (calm; time may pass outside). -/
import Derived.Test.YteijcndjnohaoaaGreatDoorRows
import Derived.ProofKit
import Derived.Test.YteijcndjnohaoaaGreatDoorYFacts
import Derived.OpenShut
import Derived.Carry
import Derived.Clock
import Derived.Test.YteijcndjnohaoaaGreatDoorYRead
import Derived.Test.YteijcndjnohaoaaGreatDoorNkJoin
set_option linter.all false
set_option linter.unusedVariables false
set_option linter.unusedSimpArgs false
namespace Go.Nv.Y
open Go Go.Proofs
set_option maxRecDepth 100000
theorem goodC : Good Tryz.prog CT := ⟨goodT.mixed, goodT.names, fun _ h => by cases h⟩
theorem mem_ok : MemoOk Tryz.prog CT ∧ BodiesOk Tryz.prog CT := by
  have key : ∀ f args v, mem f args = some v → f = 5 ∧ args = [] ∧ v = .bool true := by
    intro f args v h
    unfold mem at h
    split at h
    · simp only [Option.some.injEq] at h
      exact ⟨rfl, rfl, h.symm⟩
    · cases h
  refine ⟨fun f args v h => ?_, fun f args v h => ?_⟩
  · obtain ⟨rfl, rfl, rfl⟩ := key f args v h
    exact awake_ok.2
  · obtain ⟨rfl, rfl, rfl⟩ := key f args v h
    exact awake_ok.1
theorem same_pure (x y : X) : PureOk Tryz.prog 3 [.agg x.c, .agg y.c] (.bool true) := pureOk_of_run goodC (fun _ => rfl) mem_ok.1 mem_ok.2 (c3 0 x y)
/-- What a call leaves alone. -/
theorem _root_.Go.Nv.Keeps.kept {w w' : World} (h : Keeps w w') (may : MemPlace → Prop) : w.keptBut w' may := by
  have h2 := h.2
  simp only [away, Prod.mk.injEq] at h2
  refine ⟨h2.1, h2.2, fun i hi => ?_⟩
  have h1 := Array.getElem?_eq_getElem hi
  rw [h.1 _ _ h1, h1]
  cases w.heap[i] <;> simp
theorem _root_.Go.Nv.Keeps.kept' {w w' : World} (h : Keeps w w') (may : MemPlace → Prop) : w.keptBut { w' with os := w.os } may := by
  have h2 := h.2
  simp only [away, Prod.mk.injEq] at h2
  refine ⟨rfl, h2.2, fun i hi => ?_⟩
  have h1 := Array.getElem?_eq_getElem hi
  have h3 := h.1 _ _ h1
  simp only [h1, h3]
  cases w.heap[i] <;> simp
theorem _root_.Go.Nv.Keeps.same {w w' : World} (h : Keeps w w') {p : MemPlace} (hp : p.block < w.heap.size) : w.sameAt w' p := by
  have h1 := Array.getElem?_eq_getElem hp
  have h2 := h.1 _ _ h1
  cases p with
  | cell b off =>
    simp only [MemPlace.block] at h1 h2
    simp only [World.sameAt, World.cell?, h1, h2]
  | map b =>
    simp only [MemPlace.block] at h1 h2
    simp only [World.sameAt, h1, h2]
end Go.Nv.Y
namespace Go.Proofs.YteijcndjnohaoaaGreatDoor
open Go.ChangeShapes Go.WideShapes Go.ChangeAt Go.RowKit Go.Clock Go.Nv Go.Nv.Y
theorem own : ownKnob Tryz.prog.godebug = none := by kernel_rfl
theorem laidOut : laidOutB Tryz.prog = true := jf1
set_option maxRecDepth 100000 in
theorem lifted (os : Os) (started : os.Started) (H : Type) (enc : TypeId × Value → H) (F : Stop.Interp) :
    ReturnsInHanded { calm := true } Tryz.checked os 3 .any (fun w args => (Rows.enumerateSameSpec.pre enc Tryz.prog Tryz.f3 [] false w args ∧ True) ∧ sizedMet enc Tryz.prog Tryz.f3 (OpenSpec.ofChange Rows.enumerateSameSpec) false w args)
      ((OpenSpec.ofChange Rows.enumerateSameSpec).postWith enc Tryz.prog Tryz.f3 F (outsideKept [.timePasses]) false true false) := by
  refine returns_of_change (C := Tryz.checked) (X := fun _ _ => True) (fun _ _ _ _ h => h) own started (by kernel_rfl) Tryz.func3
    (witness (enc := enc) (C := Tryz.checked) ⟨#[], #[.agg #[.bool false, .int .i64 0, .int .i64 0, .slice none 0 0, .slice none 0 0], .agg #[.bool false, .int .i64 0, .int .i64 0, .slice none 0 0, .slice none 0 0]], []⟩ 8 (by kernel_rfl) (by kernel_rfl) (by kernel_rfl) (by kernel_rfl)) ?_
  intro W base args ds gs before hval0 hW _ _ _ hsh
  have hval : ∀ (j : Nat) t v, Tryz.f3.params[j]? = some t → args[j]? = some v → Value.okWide Tryz.prog W .any base t v := hval0
  have hW' := hW
  have hlt := hW.lt
  obtain ⟨p, q, hA0, hV, rfl, _, _⟩ := hW
  have hA : DataW.TrodAll enc Tryz.prog W 0 (fun _ => true) true Tryz.f3.params.toList args.toList ds p := hA0
  rw [Tryz.params3] at hA hval
  obtain ⟨v0, v1, d0, d1, p0, p1, rfl, rfl, rfl, h0, h1⟩ := trodAll_two hA
  obtain ⟨rfl, rfl⟩ := trodVars_none hV
  simp only [List.append_nil] at hW' hlt
  have o0 := hval 0 25 v0 rfl rfl
  have o1 := hval 1 25 v1 rfl rfl
  unfold Value.okWide at o0 o1
  rw [Tryz.underlying25] at o0 o1
  obtain ⟨a0, rfl, s0, _⟩ := o0
  obtain ⟨a1, rfl, s1, _⟩ := o1
  rw [co25] at s0 s1
  have r0 := h0
  have r1 := h1
  obtain ⟨n0, r0⟩ := r0
  obtain ⟨n1, r1⟩ := r1
  obtain ⟨x, hx⟩ := rdX (es := a0.toList) (by simpa using s0) ⟨n0, _, r0⟩
  obtain ⟨y, hy⟩ := rdX (es := a1.toList) (by simpa using s1) ⟨n1, _, r1⟩
  have hcall := same_pure x y (allIm W) W #[.agg a0, .agg a1] 0 (allIm_ok W) (.cons _ _ _ _ (.agg _ _ hx.1) (.cons _ _ _ _ (.agg _ _ hy.1) .nil))
  refine (callsIn_wide.1 hcall).mono ?_
  rintro e W' ⟨im', v', rfl, _, _, hk, hv, _⟩
  obtain rfl := hv.inv_bool
  have hs0 : ∀ z ∈ p0, z.block < W.heap.size := fun z hz => hlt z (List.mem_append_left _ hz)
  have hs1 : ∀ z ∈ p1, z.block < W.heap.size := fun z hz => hlt z (List.mem_append_right _ hz)
  refine ⟨_, rfl, ⟨_, _, _, [], _, [], hW', trodAll_mk1 (shut_bool Tryz.underlying4 _), trodAll_mk2 (WideElems.Trod_stays laidOut (by kernel_rfl) (of_decide_eq_true (by kernel_rfl)) h0 (fun z hz => hk.same (hs0 z hz)) (fun z hz => by simpa using hs0 z hz))
    (WideElems.Trod_stays laidOut (by kernel_rfl) (of_decide_eq_true (by kernel_rfl)) h1 (fun z hz => hk.same (hs1 z hz)) (fun z hz => by simpa using hs1 z hz)), rfl, ?_, fun h => by cases h⟩, ?_⟩
  · exact hk.kept' _
  · have := hk.2
    simp only [away, Prod.mk.injEq] at this
    rw [this.1]
    exact Later.refl _
theorem enumerateSame_holds : Rows.EnumerateSameSaid :=
  holds_of_wide_time 3 Tryz.f3 rfl rfl rfl rfl rfl rfl rfl ⟨rfl, rfl, rfl, rfl, rfl⟩ rfl rfl rfl rfl rfl named3 Tryz.func3 jf
    (of_decide_eq_true (by kernel_rfl)) (by unfold Func.isWrapper; first | (rw [if_pos (by decide +kernel)]; kernel_rfl) | (rw [if_neg (by decide +kernel)]; exact ⟨rfl, rfl⟩))
    (fun os started H enc _ F => by rw [pre_unlisted rfl]; exact lifted os started H enc F)
#print axioms enumerateSame_holds
end Go.Proofs.YteijcndjnohaoaaGreatDoor
