/- The explorations that come in, as the evaluator's values. -/
import Derived.Test.YteijcndjnohaoaaGreatDoorYSame
import Derived.Test.YteijcndjnohaoaaGreatDoorNvRd
set_option linter.all false
set_option linter.unusedVariables false
set_option linter.unusedSimpArgs false
namespace Go.Nv.Y
open Go Go.Proofs
set_option maxRecDepth 100000
theorem co3 : Tryz.prog.cellsOf 3 = 1 := by kernel_rfl
theorem co4 : Tryz.prog.cellsOf 4 = 1 := by kernel_rfl
theorem co9 : Tryz.prog.cellsOf 9 = 1 := by kernel_rfl
theorem co22 : Tryz.prog.cellsOf 22 = 1 := by kernel_rfl
theorem co23 : Tryz.prog.cellsOf 23 = 1 := by kernel_rfl
theorem co25 : Tryz.prog.cellsOf 25 = 5 := by kernel_rfl
theorem co30 : Tryz.prog.cellsOf 30 = 1 := by kernel_rfl
theorem co32 : Tryz.prog.cellsOf 32 = 2 := by kernel_rfl
theorem co34 : Tryz.prog.cellsOf 34 = 10 := by kernel_rfl
theorem co35 : Tryz.prog.cellsOf 35 = 1 := by kernel_rfl
theorem co37 : Tryz.prog.cellsOf 37 = 3 := by kernel_rfl
theorem co121 : Tryz.prog.cellsOf 121 = 2 := by kernel_rfl
section
variable {H : Type} {enc : TypeId × Value → H} {w : World} {base : Nat} {sp : Nat → Bool} {held : Bool} {es : List Value}
theorem rdInts (h : Rd enc Tryz.prog w base sp held 35 es) : ∃ (a : AV) (l : List Int), Sim w [a] es ∧ Sl 1 a (l.map fun n => [.int .i64 n]) := by
  obtain ⟨a, l, h1, h2, _⟩ := h.list (c := fun n : Int => [.int .i64 n]) Tryz.underlying35 (sz := 0) co3 fun es hl hr => by
    obtain ⟨n, rfl, _⟩ := hr.int Tryz.underlying3
    exact ⟨n, .int _ _⟩
  exact ⟨a, l, h1, h2⟩
theorem rdChoices (h : Rd enc Tryz.prog w base sp held 30 es) : ∃ (a : AV) (l : List (Int × Int)), Sim w [a] es ∧ Sl 2 a (l.map fun n => [.int .i64 n.1, .int .i64 n.2]) := by
  obtain ⟨a, l, h1, h2, _⟩ := h.list (c := fun n : Int × Int => [.int .i64 n.1, .int .i64 n.2]) Tryz.underlying30 (sz := 1) co121 fun es hl hr => by
    obtain ⟨_, hf⟩ := hr.struct Tryz.underlying121
    match es, hl with
    | [e0, e1], _ =>
      have f0 := hf _ (.head _)
      have f1 := hf _ (.tail _ (.head _))
      simp only [co3, List.drop_zero, List.drop_succ_cons, List.take_succ_cons, List.take_zero] at f0 f1
      obtain ⟨a, ha, _⟩ := f0.int Tryz.underlying3
      obtain ⟨b, hb, _⟩ := f1.int Tryz.underlying3
      cases ha; cases hb
      exact ⟨(a, b), (Sim.int _ _).append (Sim.int _ _)⟩
  exact ⟨a, l, h1, h2⟩
theorem rdO (hl : es.length = 3) (h : Rd enc Tryz.prog w base sp held 37 es) : ∃ x : O, Sim w x.c es := by
  obtain ⟨_, hf⟩ := h.struct Tryz.underlying37
  match es, hl with
  | [e0, e1, e2], _ =>
    have f0 := hf _ (.head _)
    have f1 := hf _ (.tail _ (.head _))
    have f2 := hf _ (.tail _ (.tail _ (.head _)))
    simp only [co3, co9, co35, List.drop_zero, List.drop_succ_cons, List.take_succ_cons, List.take_zero] at f0 f1 f2
    obtain ⟨k, h0, _⟩ := f0.int Tryz.underlying3
    obtain ⟨s, h1, _⟩ := f1.str Tryz.underlying9
    obtain ⟨a, l, h2, h3⟩ := rdInts f2
    cases h0; cases h1
    exact ⟨⟨k, s, a, _, h3⟩, (Sim.int _ _).append ((Sim.str _).append h2)⟩
theorem rdR (hl : es.length = 10) (h : Rd enc Tryz.prog w base sp held 34 es) : ∃ x : Rp, Sim w x.c es := by
  obtain ⟨_, hf⟩ := h.struct Tryz.underlying34
  match es, hl with
  | [e0, e1, e2, e3, e4, e5, e6, e7, e8, e9], _ =>
    have f0 := hf _ (.head _)
    have f1 := hf _ (.tail _ (.head _))
    have f2 := hf _ (.tail _ (.tail _ (.head _)))
    have f3 := hf _ (.tail _ (.tail _ (.tail _ (.head _))))
    have f4 := hf _ (.tail _ (.tail _ (.tail _ (.tail _ (.head _)))))
    have f5 := hf _ (.tail _ (.tail _ (.tail _ (.tail _ (.tail _ (.head _))))))
    have f6 := hf _ (.tail _ (.tail _ (.tail _ (.tail _ (.tail _ (.tail _ (.head _)))))))
    have f7 := hf _ (.tail _ (.tail _ (.tail _ (.tail _ (.tail _ (.tail _ (.tail _ (.head _))))))))
    have f8 := hf _ (.tail _ (.tail _ (.tail _ (.tail _ (.tail _ (.tail _ (.tail _ (.tail _ (.head _)))))))))
    simp only [co3, co30, co32, List.drop_zero, List.drop_succ_cons, List.take_succ_cons, List.take_zero] at f0 f1 f2 f3 f4 f5 f6 f7 f8
    obtain ⟨_, hm⟩ := f8.struct Tryz.underlying32
    have g0 := hm _ (.head _)
    have g1 := hm _ (.tail _ (.head _))
    simp only [co3, List.drop_zero, List.drop_succ_cons, List.take_succ_cons, List.take_zero] at g0 g1
    obtain ⟨k0, h0, _⟩ := f0.int Tryz.underlying3
    obtain ⟨a, l, h1, h1'⟩ := rdChoices f1
    obtain ⟨k2, h2, _⟩ := f2.int Tryz.underlying3
    obtain ⟨k3, h3, _⟩ := f3.int Tryz.underlying3
    obtain ⟨k4, h4, _⟩ := f4.int Tryz.underlying3
    obtain ⟨k5, h5, _⟩ := f5.int Tryz.underlying3
    obtain ⟨k6, h6, _⟩ := f6.int Tryz.underlying3
    obtain ⟨k7, h7, _⟩ := f7.int Tryz.underlying3
    obtain ⟨k8, h8, _⟩ := g0.int Tryz.underlying3
    obtain ⟨k9, h9, _⟩ := g1.int Tryz.underlying3
    cases h0; cases h2; cases h3; cases h4; cases h5; cases h6; cases h7; cases h8; cases h9
    exact ⟨⟨k0, a, k2, k3, k4, k5, k6, k7, k8, k9, _, h1'⟩, (Sim.int _ _).append (h1.append ((Sim.int _ _).append ((Sim.int _ _).append ((Sim.int _ _).append ((Sim.int _ _).append ((Sim.int _ _).append ((Sim.int _ _).append ((Sim.int _ _).append (Sim.int _ _)))))))))⟩
theorem rdX (hl : es.length = 5) (h : Rd enc Tryz.prog w base sp held 25 es) : ∃ x : X, Sim w x.c es := by
  obtain ⟨_, hf⟩ := h.struct Tryz.underlying25
  match es, hl with
  | [e0, e1, e2, e3, e4], _ =>
    have f0 := hf _ (.head _)
    have f1 := hf _ (.tail _ (.head _))
    have f2 := hf _ (.tail _ (.tail _ (.head _)))
    have f3 := hf _ (.tail _ (.tail _ (.tail _ (.head _))))
    have f4 := hf _ (.tail _ (.tail _ (.tail _ (.tail _ (.head _)))))
    simp only [co3, co4, co22, co23, List.drop_zero, List.drop_succ_cons, List.take_succ_cons, List.take_zero] at f0 f1 f2 f3 f4
    obtain ⟨b, h0⟩ := f0.bool Tryz.underlying4
    obtain ⟨n, h1, _⟩ := f1.int Tryz.underlying3
    obtain ⟨m, h2, _⟩ := f2.int Tryz.underlying3
    obtain ⟨oa, ol, h3, h3', _⟩ := f3.list (c := O.c) Tryz.underlying22 (sz := 2) co37 fun es hl hr => rdO hl hr
    obtain ⟨fa, fl, h4, h4', _⟩ := f4.list (c := Rp.c) Tryz.underlying23 (sz := 9) co34 fun es hl hr => rdR hl hr
    cases h0; cases h1; cases h2
    exact ⟨⟨b, n, m, oa, ol, fa, fl, h3', h4'⟩, (Sim.bool _).append ((Sim.int _ _).append ((Sim.int _ _).append (h3.append h4)))⟩
end
end Go.Nv.Y
