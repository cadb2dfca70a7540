/- The walks of EnumerateSame's own text: by the evaluator's equations, for any explorations. -/
import Derived.Test.YteijcndjnohaoaaGreatDoorProg
import Derived.KernelRfl
import Derived.Test.YteijcndjnohaoaaGreatDoorNvSym2
set_option linter.all false
set_option linter.unusedVariables false
set_option linter.unusedSimpArgs false
namespace Go.Nv.Y
open Go Go.Proofs
set_option maxRecDepth 100000
theorem tF : tAgg Tryz.prog 25 = some true ∧
  tSize Tryz.prog 25 = some 5 ∧
  tAgg Tryz.prog 22 = some false ∧
  tAgg Tryz.prog 23 = some false ∧
  tAgg Tryz.prog 34 = some true ∧
  tSize Tryz.prog 34 = some 10 ∧
  tAgg Tryz.prog 35 = some false ∧
  tAgg Tryz.prog 9 = some false ∧
  (∀ b o : Nat, fieldAddrV Tryz.prog 25 (.ptr b o) 3 = some (.ptr b (o + 3))) ∧
  (∀ c0 c1 c2 c3 c4 : AV, fieldAddrV Tryz.prog 25 (.pptr [c0, c1, c2, c3, c4]) 3 = some (.pptr [c3, c4])) ∧
  (∀ b o : Nat, fieldAddrV Tryz.prog 25 (.ptr b o) 4 = some (.ptr b (o + 4))) ∧
  (∀ c0 c1 c2 c3 c4 : AV, fieldAddrV Tryz.prog 25 (.pptr [c0, c1, c2, c3, c4]) 4 = some (.pptr [c4])) ∧
  (∀ b o : Nat, fieldAddrV Tryz.prog 37 (.ptr b o) 2 = some (.ptr b (o + 2))) ∧
  (∀ c0 c1 c2 : AV, fieldAddrV Tryz.prog 37 (.pptr [c0, c1, c2]) 2 = some (.pptr [c2])) ∧
  (∀ b o : Nat, fieldAddrV Tryz.prog 37 (.ptr b o) 1 = some (.ptr b (o + 1))) ∧
  (∀ c0 c1 c2 : AV, fieldAddrV Tryz.prog 37 (.pptr [c0, c1, c2]) 1 = some (.pptr [c1, c2])) ∧
  tAgg Tryz.prog 37 = some true ∧
  tSize Tryz.prog 37 = some 3 ∧
  tAgg Tryz.prog 30 = some false ∧
  (∀ b o : Nat, fieldAddrV Tryz.prog 34 (.ptr b o) 1 = some (.ptr b (o + 1))) ∧
  (∀ c0 c1 c2 c3 c4 c5 c6 c7 c8 c9 : AV, fieldAddrV Tryz.prog 34 (.pptr [c0, c1, c2, c3, c4, c5, c6, c7, c8, c9]) 1 = some (.pptr [c1, c2, c3, c4, c5, c6, c7, c8, c9])) ∧
  tZero Tryz.prog 37 = some (.agg [.int .i64 0, .str [], .snil]) ∧
  tAgg Tryz.prog 3 = some false ∧
  (∀ b o : Nat, fieldAddrV Tryz.prog 37 (.ptr b o) 0 = some (.ptr b o)) ∧
  (∀ c0 c1 c2 : AV, fieldAddrV Tryz.prog 37 (.pptr [c0, c1, c2]) 0 = some (.pptr [c0, c1, c2])) ∧
  tZero Tryz.prog 34 = some (.agg [.int .i64 0, .snil, .int .i64 0, .int .i64 0, .int .i64 0, .int .i64 0, .int .i64 0, .int .i64 0, .int .i64 0, .int .i64 0]) ∧
  (∀ b o : Nat, fieldAddrV Tryz.prog 34 (.ptr b o) 0 = some (.ptr b o)) ∧
  (∀ c0 c1 c2 c3 c4 c5 c6 c7 c8 c9 : AV, fieldAddrV Tryz.prog 34 (.pptr [c0, c1, c2, c3, c4, c5, c6, c7, c8, c9]) 0 = some (.pptr [c0, c1, c2, c3, c4, c5, c6, c7, c8, c9])) ∧
  (∀ b o : Nat, fieldAddrV Tryz.prog 34 (.ptr b o) 2 = some (.ptr b (o + 2))) ∧
  (∀ c0 c1 c2 c3 c4 c5 c6 c7 c8 c9 : AV, fieldAddrV Tryz.prog 34 (.pptr [c0, c1, c2, c3, c4, c5, c6, c7, c8, c9]) 2 = some (.pptr [c2, c3, c4, c5, c6, c7, c8, c9])) ∧
  (∀ b o : Nat, fieldAddrV Tryz.prog 34 (.ptr b o) 3 = some (.ptr b (o + 3))) ∧
  (∀ c0 c1 c2 c3 c4 c5 c6 c7 c8 c9 : AV, fieldAddrV Tryz.prog 34 (.pptr [c0, c1, c2, c3, c4, c5, c6, c7, c8, c9]) 3 = some (.pptr [c3, c4, c5, c6, c7, c8, c9])) ∧
  (∀ b o : Nat, fieldAddrV Tryz.prog 34 (.ptr b o) 4 = some (.ptr b (o + 4))) ∧
  (∀ c0 c1 c2 c3 c4 c5 c6 c7 c8 c9 : AV, fieldAddrV Tryz.prog 34 (.pptr [c0, c1, c2, c3, c4, c5, c6, c7, c8, c9]) 4 = some (.pptr [c4, c5, c6, c7, c8, c9])) ∧
  (∀ b o : Nat, fieldAddrV Tryz.prog 34 (.ptr b o) 7 = some (.ptr b (o + 7))) ∧
  (∀ c0 c1 c2 c3 c4 c5 c6 c7 c8 c9 : AV, fieldAddrV Tryz.prog 34 (.pptr [c0, c1, c2, c3, c4, c5, c6, c7, c8, c9]) 7 = some (.pptr [c7, c8, c9])) ∧
  tAgg Tryz.prog 50 = some false ∧
  tAgg Tryz.prog 52 = some false ∧
  type_of% Tryz.underlying4 ∧
  type_of% Tryz.underlying9 ∧
  type_of% Tryz.underlying22 ∧
  type_of% Tryz.underlying23 ∧
  type_of% Tryz.underlying30 ∧
  type_of% Tryz.underlying35 ∧
  tSize Tryz.prog 121 = some 2 ∧
  tSize Tryz.prog 3 = some 1 :=
  ⟨by kernel_rfl, by kernel_rfl, by kernel_rfl, by kernel_rfl, by kernel_rfl, by kernel_rfl, by kernel_rfl, by kernel_rfl, fun _ _ => by kernel_rfl, fun _ _ _ _ _ => by kernel_rfl, fun _ _ => by kernel_rfl, fun _ _ _ _ _ => by kernel_rfl, fun _ _ => by kernel_rfl, fun _ _ _ => by kernel_rfl, fun _ _ => by kernel_rfl, fun _ _ _ => by kernel_rfl, by kernel_rfl, by kernel_rfl, by kernel_rfl, fun _ _ => by kernel_rfl, fun _ _ _ _ _ _ _ _ _ _ => by kernel_rfl, by kernel_rfl, by kernel_rfl, fun _ _ => by kernel_rfl, fun _ _ _ => by kernel_rfl, by kernel_rfl, fun _ _ => by kernel_rfl, fun _ _ _ _ _ _ _ _ _ _ => by kernel_rfl, fun _ _ => by kernel_rfl, fun _ _ _ _ _ _ _ _ _ _ => by kernel_rfl, fun _ _ => by kernel_rfl, fun _ _ _ _ _ _ _ _ _ _ => by kernel_rfl, fun _ _ => by kernel_rfl, fun _ _ _ _ _ _ _ _ _ _ => by kernel_rfl, fun _ _ => by kernel_rfl, fun _ _ _ _ _ _ _ _ _ _ => by kernel_rfl, by kernel_rfl, by kernel_rfl, Tryz.underlying4, Tryz.underlying9, Tryz.underlying22, Tryz.underlying23, Tryz.underlying30, Tryz.underlying35, by kernel_rfl, by kernel_rfl⟩
def mem (f : Nat) (args : List AV) : Option AV := match f, args with
  | 5, [] => some (.bool true)
  | _, _ => none
abbrev CT : Cfg := cfgP mem
/-- An outcome. -/
structure O where
  k : Int
  s : List UInt8
  o : AV
  L : List (List AV)
  h : Sl 1 o L
def O.c (x : O) : List AV := [.int .i64 x.k, .str x.s, x.o]
def O.eq (x y : O) : Bool := decide (x.k = y.k) && decide (x.s = y.s)
theorem c12 (N : Nat) (x y : O) : callPure Tryz.prog CT (run Tryz.prog CT (N + 20)) 12 [.agg x.c, .agg y.c] = some (.bool (x.eq y)) := by
  refine callPure_of rfl (CQ.of Tryz.func12 rfl (by simp [Tryz.f12]) ?_)
  simp only [Tryz.f12, O.c, nvR, nvS, nvL, tF, Nat.reduceAdd, Nat.reduceLT, Nat.reduceEqDiff, Nat.reduceMul, Nat.reduceLeDiff, Nat.add_lt_add_iff_right, Nat.lt_add_left_iff_pos, Nat.add_eq_zero_iff, decide_true, decide_false, eq_self, if_true, if_false, and_self, true_and, and_true, reduceCtorEq, ge_iff_le, Nat.le_refl, Nat.zero_le]
  refine WX_split (fun h => ?_) (fun h => ?_) <;> simp only [h, nvR, nvS, nvL, tF, Nat.reduceAdd, Nat.reduceLT, Nat.reduceEqDiff, Nat.reduceMul, Nat.reduceLeDiff, Nat.add_lt_add_iff_right, Nat.lt_add_left_iff_pos, Nat.add_eq_zero_iff, decide_true, decide_false, eq_self, if_true, if_false, and_self, true_and, and_true, reduceCtorEq, ge_iff_le, Nat.le_refl, Nat.zero_le] <;> exact ⟨_, rfl, by simp only [O.eq, h, nvR, nvS, nvL, tF, Nat.reduceAdd, Nat.reduceLT, Nat.reduceEqDiff, Nat.reduceMul, Nat.reduceLeDiff, Nat.add_lt_add_iff_right, Nat.lt_add_left_iff_pos, Nat.add_eq_zero_iff, decide_true, decide_false, eq_self, if_true, if_false, and_self, true_and, and_true, reduceCtorEq, ge_iff_le, Nat.le_refl, Nat.zero_le]⟩
/-- A report. -/
structure Rp where
  k : Int
  l : AV
  t : Int
  o : Int
  i : Int
  s : Int
  n : Int
  v : Int
  m0 : Int
  m1 : Int
  L : List (List AV)
  h : Sl 2 l L
def Rp.c (x : Rp) : List AV := [.int .i64 x.k, x.l, .int .i64 x.t, .int .i64 x.o, .int .i64 x.i, .int .i64 x.s, .int .i64 x.n, .int .i64 x.v, .int .i64 x.m0, .int .i64 x.m1]
def Rp.eq (x y : Rp) : Bool := decide (x.k = y.k) && (decide (x.t = y.t) && (decide (x.o = y.o) && (decide (x.i = y.i) && decide (x.v = y.v))))
theorem c14 (N : Nat) (x y : Rp) : callPure Tryz.prog CT (run Tryz.prog CT (N + 20)) 14 [.agg x.c, .agg y.c] = some (.bool (x.eq y)) := by
  refine callPure_of rfl (CQ.of Tryz.func14 rfl (by simp [Tryz.f14]) ?_)
  simp only [Tryz.f14, Rp.c, nvR, nvS, nvL, tF, Nat.reduceAdd, Nat.reduceLT, Nat.reduceEqDiff, Nat.reduceMul, Nat.reduceLeDiff, Nat.add_lt_add_iff_right, Nat.lt_add_left_iff_pos, Nat.add_eq_zero_iff, decide_true, decide_false, eq_self, if_true, if_false, and_self, true_and, and_true, reduceCtorEq, ge_iff_le, Nat.le_refl, Nat.zero_le]
  refine WX_split (fun h1 => ?_) (fun h1 => ?_) <;> simp only [h1, nvR, nvS, nvL, tF, Nat.reduceAdd, Nat.reduceLT, Nat.reduceEqDiff, Nat.reduceMul, Nat.reduceLeDiff, Nat.add_lt_add_iff_right, Nat.lt_add_left_iff_pos, Nat.add_eq_zero_iff, decide_true, decide_false, eq_self, if_true, if_false, and_self, true_and, and_true, reduceCtorEq, ge_iff_le, Nat.le_refl, Nat.zero_le]
  · refine WX_split (fun h2 => ?_) (fun h2 => ?_) <;> simp only [h2, nvR, nvS, nvL, tF, Nat.reduceAdd, Nat.reduceLT, Nat.reduceEqDiff, Nat.reduceMul, Nat.reduceLeDiff, Nat.add_lt_add_iff_right, Nat.lt_add_left_iff_pos, Nat.add_eq_zero_iff, decide_true, decide_false, eq_self, if_true, if_false, and_self, true_and, and_true, reduceCtorEq, ge_iff_le, Nat.le_refl, Nat.zero_le]
    · refine WX_split (fun h3 => ?_) (fun h3 => ?_) <;> simp only [h3, nvR, nvS, nvL, tF, Nat.reduceAdd, Nat.reduceLT, Nat.reduceEqDiff, Nat.reduceMul, Nat.reduceLeDiff, Nat.add_lt_add_iff_right, Nat.lt_add_left_iff_pos, Nat.add_eq_zero_iff, decide_true, decide_false, eq_self, if_true, if_false, and_self, true_and, and_true, reduceCtorEq, ge_iff_le, Nat.le_refl, Nat.zero_le]
      · refine WX_split (fun h4 => ?_) (fun h4 => ?_) <;> simp only [h4, nvR, nvS, nvL, tF, Nat.reduceAdd, Nat.reduceLT, Nat.reduceEqDiff, Nat.reduceMul, Nat.reduceLeDiff, Nat.add_lt_add_iff_right, Nat.lt_add_left_iff_pos, Nat.add_eq_zero_iff, decide_true, decide_false, eq_self, if_true, if_false, and_self, true_and, and_true, reduceCtorEq, ge_iff_le, Nat.le_refl, Nat.zero_le]
        · exact ⟨_, rfl, by simp only [Rp.eq, h1, h2, h3, h4, nvR, nvS, nvL, tF, Nat.reduceAdd, Nat.reduceLT, Nat.reduceEqDiff, Nat.reduceMul, Nat.reduceLeDiff, Nat.add_lt_add_iff_right, Nat.lt_add_left_iff_pos, Nat.add_eq_zero_iff, decide_true, decide_false, eq_self, if_true, if_false, and_self, true_and, and_true, reduceCtorEq, ge_iff_le, Nat.le_refl, Nat.zero_le]⟩
        · exact ⟨_, rfl, by simp only [Rp.eq, h1, h2, h3, h4, nvR, nvS, nvL, tF, Nat.reduceAdd, Nat.reduceLT, Nat.reduceEqDiff, Nat.reduceMul, Nat.reduceLeDiff, Nat.add_lt_add_iff_right, Nat.lt_add_left_iff_pos, Nat.add_eq_zero_iff, decide_true, decide_false, eq_self, if_true, if_false, and_self, true_and, and_true, reduceCtorEq, ge_iff_le, Nat.le_refl, Nat.zero_le]⟩
      · exact ⟨_, rfl, by simp only [Rp.eq, h1, h2, h3, nvR, nvS, nvL, tF, Nat.reduceAdd, Nat.reduceLT, Nat.reduceEqDiff, Nat.reduceMul, Nat.reduceLeDiff, Nat.add_lt_add_iff_right, Nat.lt_add_left_iff_pos, Nat.add_eq_zero_iff, decide_true, decide_false, eq_self, if_true, if_false, and_self, true_and, and_true, reduceCtorEq, ge_iff_le, Nat.le_refl, Nat.zero_le]⟩
    · exact ⟨_, rfl, by simp only [Rp.eq, h1, h2, nvR, nvS, nvL, tF, Nat.reduceAdd, Nat.reduceLT, Nat.reduceEqDiff, Nat.reduceMul, Nat.reduceLeDiff, Nat.add_lt_add_iff_right, Nat.lt_add_left_iff_pos, Nat.add_eq_zero_iff, decide_true, decide_false, eq_self, if_true, if_false, and_self, true_and, and_true, reduceCtorEq, ge_iff_le, Nat.le_refl, Nat.zero_le]⟩
  · exact ⟨_, rfl, by simp only [Rp.eq, h1, nvR, nvS, nvL, tF, Nat.reduceAdd, Nat.reduceLT, Nat.reduceEqDiff, Nat.reduceMul, Nat.reduceLeDiff, Nat.add_lt_add_iff_right, Nat.lt_add_left_iff_pos, Nat.add_eq_zero_iff, decide_true, decide_false, eq_self, if_true, if_false, and_self, true_and, and_true, reduceCtorEq, ge_iff_le, Nat.le_refl, Nat.zero_le]⟩
theorem c28 (N : Nat) (x y : Rp) : callPure Tryz.prog CT (run Tryz.prog CT (N + 20)) 28 [.agg x.c, .agg y.c] = some (.bool (x.eq y)) := by
  refine callPure_of rfl (CQ.of Tryz.func28 rfl (by simp [Tryz.f28]) ?_)
  simp only [Tryz.f28, Rp.c, nvR, nvS, nvL, tF, Nat.reduceAdd, Nat.reduceLT, Nat.reduceEqDiff, Nat.reduceMul, Nat.reduceLeDiff, Nat.add_lt_add_iff_right, Nat.lt_add_left_iff_pos, Nat.add_eq_zero_iff, decide_true, decide_false, eq_self, if_true, if_false, and_self, true_and, and_true, reduceCtorEq, ge_iff_le, Nat.le_refl, Nat.zero_le]
  refine WX_split (fun h1 => ?_) (fun h1 => ?_) <;> simp only [h1, nvR, nvS, nvL, tF, Nat.reduceAdd, Nat.reduceLT, Nat.reduceEqDiff, Nat.reduceMul, Nat.reduceLeDiff, Nat.add_lt_add_iff_right, Nat.lt_add_left_iff_pos, Nat.add_eq_zero_iff, decide_true, decide_false, eq_self, if_true, if_false, and_self, true_and, and_true, reduceCtorEq, ge_iff_le, Nat.le_refl, Nat.zero_le]
  · refine WX_split (fun h2 => ?_) (fun h2 => ?_) <;> simp only [h2, nvR, nvS, nvL, tF, Nat.reduceAdd, Nat.reduceLT, Nat.reduceEqDiff, Nat.reduceMul, Nat.reduceLeDiff, Nat.add_lt_add_iff_right, Nat.lt_add_left_iff_pos, Nat.add_eq_zero_iff, decide_true, decide_false, eq_self, if_true, if_false, and_self, true_and, and_true, reduceCtorEq, ge_iff_le, Nat.le_refl, Nat.zero_le]
    · refine WX_split (fun h3 => ?_) (fun h3 => ?_) <;> simp only [h3, nvR, nvS, nvL, tF, Nat.reduceAdd, Nat.reduceLT, Nat.reduceEqDiff, Nat.reduceMul, Nat.reduceLeDiff, Nat.add_lt_add_iff_right, Nat.lt_add_left_iff_pos, Nat.add_eq_zero_iff, decide_true, decide_false, eq_self, if_true, if_false, and_self, true_and, and_true, reduceCtorEq, ge_iff_le, Nat.le_refl, Nat.zero_le]
      · refine WX_split (fun h4 => ?_) (fun h4 => ?_) <;> simp only [h4, nvR, nvS, nvL, tF, Nat.reduceAdd, Nat.reduceLT, Nat.reduceEqDiff, Nat.reduceMul, Nat.reduceLeDiff, Nat.add_lt_add_iff_right, Nat.lt_add_left_iff_pos, Nat.add_eq_zero_iff, decide_true, decide_false, eq_self, if_true, if_false, and_self, true_and, and_true, reduceCtorEq, ge_iff_le, Nat.le_refl, Nat.zero_le]
        · exact ⟨_, rfl, by simp only [Rp.eq, h1, h2, h3, h4, nvR, nvS, nvL, tF, Nat.reduceAdd, Nat.reduceLT, Nat.reduceEqDiff, Nat.reduceMul, Nat.reduceLeDiff, Nat.add_lt_add_iff_right, Nat.lt_add_left_iff_pos, Nat.add_eq_zero_iff, decide_true, decide_false, eq_self, if_true, if_false, and_self, true_and, and_true, reduceCtorEq, ge_iff_le, Nat.le_refl, Nat.zero_le]⟩
        · exact ⟨_, rfl, by simp only [Rp.eq, h1, h2, h3, h4, nvR, nvS, nvL, tF, Nat.reduceAdd, Nat.reduceLT, Nat.reduceEqDiff, Nat.reduceMul, Nat.reduceLeDiff, Nat.add_lt_add_iff_right, Nat.lt_add_left_iff_pos, Nat.add_eq_zero_iff, decide_true, decide_false, eq_self, if_true, if_false, and_self, true_and, and_true, reduceCtorEq, ge_iff_le, Nat.le_refl, Nat.zero_le]⟩
      · exact ⟨_, rfl, by simp only [Rp.eq, h1, h2, h3, nvR, nvS, nvL, tF, Nat.reduceAdd, Nat.reduceLT, Nat.reduceEqDiff, Nat.reduceMul, Nat.reduceLeDiff, Nat.add_lt_add_iff_right, Nat.lt_add_left_iff_pos, Nat.add_eq_zero_iff, decide_true, decide_false, eq_self, if_true, if_false, and_self, true_and, and_true, reduceCtorEq, ge_iff_le, Nat.le_refl, Nat.zero_le]⟩
    · exact ⟨_, rfl, by simp only [Rp.eq, h1, h2, nvR, nvS, nvL, tF, Nat.reduceAdd, Nat.reduceLT, Nat.reduceEqDiff, Nat.reduceMul, Nat.reduceLeDiff, Nat.add_lt_add_iff_right, Nat.lt_add_left_iff_pos, Nat.add_eq_zero_iff, decide_true, decide_false, eq_self, if_true, if_false, and_self, true_and, and_true, reduceCtorEq, ge_iff_le, Nat.le_refl, Nat.zero_le]⟩
  · exact ⟨_, rfl, by simp only [Rp.eq, h1, nvR, nvS, nvL, tF, Nat.reduceAdd, Nat.reduceLT, Nat.reduceEqDiff, Nat.reduceMul, Nat.reduceLeDiff, Nat.add_lt_add_iff_right, Nat.lt_add_left_iff_pos, Nat.add_eq_zero_iff, decide_true, decide_false, eq_self, if_true, if_false, and_self, true_and, and_true, reduceCtorEq, ge_iff_le, Nat.le_refl, Nat.zero_le]⟩
theorem c26 (N : Nat) (x y : O) : callPure Tryz.prog CT (run Tryz.prog CT (N + 40)) 26 [.agg y.c, .pptr [.fn 12 [] []], .pptr x.c] = some (.bool (x.eq y)) := by
  have hx : ∀ d, isPure (d + 1) x.o = true := fun d => x.h.pure
  have hy : ∀ d, isPure (d + 1) y.o = true := fun d => y.h.pure
  have e12 := fun N => c12 N x y
  refine callPure_of rfl (CQ.of Tryz.func26 rfl (by simp [Tryz.f26]) ?_)
  simp only [O.c] at e12
  simp only [Tryz.f26, O.c, e12, hx, hy, nvR, nvS, nvL, tF, Nat.reduceAdd, Nat.reduceLT, Nat.reduceEqDiff, Nat.reduceMul, Nat.reduceLeDiff, Nat.add_lt_add_iff_right, Nat.lt_add_left_iff_pos, Nat.add_eq_zero_iff, decide_true, decide_false, eq_self, if_true, if_false, and_self, true_and, and_true, reduceCtorEq, ge_iff_le, Nat.le_refl, Nat.zero_le]
  exact ⟨_, rfl, rfl⟩
theorem c27 (N : Nat) (x y : Rp) : callPure Tryz.prog CT (run Tryz.prog CT (N + 40)) 27 [.agg y.c, .pptr [.fn 14 [] []], .pptr x.c] = some (.bool (x.eq y)) := by
  have hx : ∀ d, isPure (d + 1) x.l = true := fun d => x.h.pure
  have hy : ∀ d, isPure (d + 1) y.l = true := fun d => y.h.pure
  have e12 := fun N => c14 N x y
  refine callPure_of rfl (CQ.of Tryz.func27 rfl (by simp [Tryz.f27]) ?_)
  simp only [Rp.c] at e12
  simp only [Tryz.f27, Rp.c, e12, hx, hy, nvR, nvS, nvL, tF, Nat.reduceAdd, Nat.reduceLT, Nat.reduceEqDiff, Nat.reduceMul, Nat.reduceLeDiff, Nat.add_lt_add_iff_right, Nat.lt_add_left_iff_pos, Nat.add_eq_zero_iff, decide_true, decide_false, eq_self, if_true, if_false, and_self, true_and, and_true, reduceCtorEq, ge_iff_le, Nat.le_refl, Nat.zero_le]
  exact ⟨_, rfl, rfl⟩
/-- What slices.IndexFunc hands back. -/
def idx {α : Type} (p : α → Bool) (l : List α) : Int := match l.findIdx? p with
  | some i => i
  | none => -1
theorem idx_at {α : Type} {p : α → Bool} {l : List α} {i : Nat} (hi : i < l.length) (h : p l[i] = true) (hb : ∀ j (hj : j < i), p (l[j]'(by omega)) = false) : idx p l = i := by
  have : l.findIdx? p = some i := by
    rw [List.findIdx?_eq_some_iff_getElem]
    exact ⟨hi, h, fun j hj => by simp [hb j hj]⟩
  simp [idx, this]
theorem idx_no {α : Type} {p : α → Bool} {l : List α} (hb : ∀ j (hj : j < l.length), p l[j] = false) : idx p l = -1 := by
  have : l.findIdx? p = none := by
    rw [List.findIdx?_eq_none_iff]
    intro x hx
    obtain ⟨j, hj, rfl⟩ := List.getElem_of_mem hx
    exact hb j hj
  simp [idx, this]
theorem idx_any {α : Type} {p : α → Bool} {l : List α} : decide (0 ≤ idx p l) = l.any p := by
  cases h : l.findIdx? p with
  | none =>
    have hn := List.findIdx?_eq_none_iff.1 h
    have : l.any p = false := by
      rw [List.any_eq_false]
      intro x hx
      simp [hn x hx]
    simp [idx, h, this]
  | some i =>
    obtain ⟨hi, hp, _⟩ := List.findIdx?_eq_some_iff_getElem.1 h
    have : l.any p = true := List.any_eq_true.2 ⟨_, List.getElem_mem hi, hp⟩
    simp [idx, h, this]
theorem c31 (N : Nat) {a e : AV} {l : List O} {p : O → Bool} (ha : Sl 3 a (l.map O.c)) (hl : l.length ≤ 40) (he : ∀ (N : Nat) (x : O) (σ : Heap), callV Tryz.prog CT (run Tryz.prog CT (N + 50)) e [.agg x.c] σ = some (.ret (.bool (p x)), σ)) :
    callPure Tryz.prog CT (run Tryz.prog CT (N + 120)) 31 [a, e] = some (.int .i64 (idx p l)) := by
  simp only [O.c] at he
  have hlen : lenV Tryz.prog 22 a = some (.int .i64 (l.length : Int)) := by rw [ha.len Tryz.underlying22, List.length_map]
  refine callPure_of rfl (CQ.of Tryz.func31 rfl (by simp [Tryz.f31]) ?_)
  simp only [Tryz.f31, hlen, nvR, nvS, nvL, tF, Nat.reduceAdd, Nat.reduceLT, Nat.reduceEqDiff, Nat.reduceMul, Nat.reduceLeDiff, Nat.add_lt_add_iff_right, Nat.lt_add_left_iff_pos, Nat.add_eq_zero_iff, decide_true, decide_false, eq_self, if_true, if_false, and_self, true_and, and_true, reduceCtorEq, ge_iff_le, Nat.le_refl, Nat.zero_le]
  refine W_loop (fun j fr σ => ∃ (i : Nat) (tm : PT AV), i + j = l.length ∧ fr = ⟨tm, 19, [], none⟩ ∧ tm.get 0 = some a ∧ tm.get 1 = some e ∧ tm.get 7 = some (.int .i64 (l.length : Int)) ∧ tm.get 8 = some (.int .i64 (i : Int)) ∧ ∀ j (hj : j < i), ∀ h : j < l.length, p l[j] = false) (k := l.length) (by omega)
    ⟨0, _, by omega, rfl, by simp only [nvR, nvS, nvL, tF, Nat.reduceAdd, Nat.reduceLT, Nat.reduceEqDiff, Nat.reduceMul, Nat.reduceLeDiff, Nat.add_lt_add_iff_right, Nat.lt_add_left_iff_pos, Nat.add_eq_zero_iff, decide_true, decide_false, eq_self, if_true, if_false, and_self, true_and, and_true, reduceCtorEq, ge_iff_le, Nat.le_refl, Nat.zero_le], by simp only [nvR, nvS, nvL, tF, Nat.reduceAdd, Nat.reduceLT, Nat.reduceEqDiff, Nat.reduceMul, Nat.reduceLeDiff, Nat.add_lt_add_iff_right, Nat.lt_add_left_iff_pos, Nat.add_eq_zero_iff, decide_true, decide_false, eq_self, if_true, if_false, and_self, true_and, and_true, reduceCtorEq, ge_iff_le, Nat.le_refl, Nat.zero_le], by simp only [nvR, nvS, nvL, tF, Nat.reduceAdd, Nat.reduceLT, Nat.reduceEqDiff, Nat.reduceMul, Nat.reduceLeDiff, Nat.add_lt_add_iff_right, Nat.lt_add_left_iff_pos, Nat.add_eq_zero_iff, decide_true, decide_false, eq_self, if_true, if_false, and_self, true_and, and_true, reduceCtorEq, ge_iff_le, Nat.le_refl, Nat.zero_le], by simp only [nvR, nvS, nvL, tF, Nat.reduceAdd, Nat.reduceLT, Nat.reduceEqDiff, Nat.reduceMul, Nat.reduceLeDiff, Nat.add_lt_add_iff_right, Nat.lt_add_left_iff_pos, Nat.add_eq_zero_iff, decide_true, decide_false, eq_self, if_true, if_false, and_self, true_and, and_true, reduceCtorEq, ge_iff_le, Nat.le_refl, Nat.zero_le]; rfl, fun j hj => absurd hj (Nat.not_lt_zero _)⟩ ?_
  rintro j fr σ ⟨i, tm, hij, rfl, h0, h1, h7, h8, hb⟩
  simp only [h7, h8, nvR, nvS, nvL, tF, Nat.reduceAdd, Nat.reduceLT, Nat.reduceEqDiff, Nat.reduceMul, Nat.reduceLeDiff, Nat.add_lt_add_iff_right, Nat.lt_add_left_iff_pos, Nat.add_eq_zero_iff, decide_true, decide_false, eq_self, if_true, if_false, and_self, true_and, and_true, reduceCtorEq, ge_iff_le, Nat.le_refl, Nat.zero_le]
  refine condW_split (fun h => ?_) (fun h => ?_)
  · have hi : i < l.length := by simpa using h
    have hidx := ha.idx (P := Tryz.prog) (k := i) Tryz.underlying22 (by kernel_rfl) (by simpa using hi)
    rw [List.getElem_map] at hidx
    simp only [h0, h1, h7, h8, hidx, O.c, he, nvR, nvS, nvL, tF, Nat.reduceAdd, Nat.reduceLT, Nat.reduceEqDiff, Nat.reduceMul, Nat.reduceLeDiff, Nat.add_lt_add_iff_right, Nat.lt_add_left_iff_pos, Nat.add_eq_zero_iff, decide_true, decide_false, eq_self, if_true, if_false, and_self, true_and, and_true, reduceCtorEq, ge_iff_le, Nat.le_refl, Nat.zero_le]
    refine condW_split (fun hp => ?_) (fun hp => ?_)
    · simp only [h0, h1, h7, h8, nvR, nvS, nvL, tF, Nat.reduceAdd, Nat.reduceLT, Nat.reduceEqDiff, Nat.reduceMul, Nat.reduceLeDiff, Nat.add_lt_add_iff_right, Nat.lt_add_left_iff_pos, Nat.add_eq_zero_iff, decide_true, decide_false, eq_self, if_true, if_false, and_self, true_and, and_true, reduceCtorEq, ge_iff_le, Nat.le_refl, Nat.zero_le]
      exact ⟨_, rfl, by rw [idx_at hi hp (fun j hj => hb j hj _)]; rfl⟩
    · simp only [h0, h1, h7, h8, nvR, nvS, nvL, tF, Nat.reduceAdd, Nat.reduceLT, Nat.reduceEqDiff, Nat.reduceMul, Nat.reduceLeDiff, Nat.add_lt_add_iff_right, Nat.lt_add_left_iff_pos, Nat.add_eq_zero_iff, decide_true, decide_false, eq_self, if_true, if_false, and_self, true_and, and_true, reduceCtorEq, ge_iff_le, Nat.le_refl, Nat.zero_le]
      refine loop_next (j - 1) (by omega) ⟨i + 1, _, by omega, rfl, by simp only [h0, nvR, nvS, nvL, tF, Nat.reduceAdd, Nat.reduceLT, Nat.reduceEqDiff, Nat.reduceMul, Nat.reduceLeDiff, Nat.add_lt_add_iff_right, Nat.lt_add_left_iff_pos, Nat.add_eq_zero_iff, decide_true, decide_false, eq_self, if_true, if_false, and_self, true_and, and_true, reduceCtorEq, ge_iff_le, Nat.le_refl, Nat.zero_le], by simp only [h1, nvR, nvS, nvL, tF, Nat.reduceAdd, Nat.reduceLT, Nat.reduceEqDiff, Nat.reduceMul, Nat.reduceLeDiff, Nat.add_lt_add_iff_right, Nat.lt_add_left_iff_pos, Nat.add_eq_zero_iff, decide_true, decide_false, eq_self, if_true, if_false, and_self, true_and, and_true, reduceCtorEq, ge_iff_le, Nat.le_refl, Nat.zero_le], by simp only [h7, nvR, nvS, nvL, tF, Nat.reduceAdd, Nat.reduceLT, Nat.reduceEqDiff, Nat.reduceMul, Nat.reduceLeDiff, Nat.add_lt_add_iff_right, Nat.lt_add_left_iff_pos, Nat.add_eq_zero_iff, decide_true, decide_false, eq_self, if_true, if_false, and_self, true_and, and_true, reduceCtorEq, ge_iff_le, Nat.le_refl, Nat.zero_le], ?_, fun k hk hkl => ?_⟩
      · simp only [nvR, nvS, nvL, tF, Nat.reduceAdd, Nat.reduceLT, Nat.reduceEqDiff, Nat.reduceMul, Nat.reduceLeDiff, Nat.add_lt_add_iff_right, Nat.lt_add_left_iff_pos, Nat.add_eq_zero_iff, decide_true, decide_false, eq_self, if_true, if_false, and_self, true_and, and_true, reduceCtorEq, ge_iff_le, Nat.le_refl, Nat.zero_le]
        rw [wrapF_id (by omega) (by omega)]
        rfl
      · by_cases hki : k = i
        · subst hki; exact hp
        · exact hb k (by omega) hkl
  · have hi : i = l.length := by
        (have h' : ¬ ((i : Int) < l.length) := (by simpa using h); omega)
    simp only [nvR, nvS, nvL, tF, Nat.reduceAdd, Nat.reduceLT, Nat.reduceEqDiff, Nat.reduceMul, Nat.reduceLeDiff, Nat.add_lt_add_iff_right, Nat.lt_add_left_iff_pos, Nat.add_eq_zero_iff, decide_true, decide_false, eq_self, if_true, if_false, and_self, true_and, and_true, reduceCtorEq, ge_iff_le, Nat.le_refl, Nat.zero_le]
    exact ⟨_, rfl, by rw [idx_no (fun j hj => hb j (by omega) hj)]; rfl⟩
theorem c36 (N : Nat) {a e : AV} {l : List Rp} {p : Rp → Bool} (ha : Sl 10 a (l.map Rp.c)) (hl : l.length ≤ 40) (he : ∀ (N : Nat) (x : Rp) (σ : Heap), callV Tryz.prog CT (run Tryz.prog CT (N + 50)) e [.agg x.c] σ = some (.ret (.bool (p x)), σ)) :
    callPure Tryz.prog CT (run Tryz.prog CT (N + 120)) 36 [a, e] = some (.int .i64 (idx p l)) := by
  simp only [Rp.c] at he
  have hlen : lenV Tryz.prog 23 a = some (.int .i64 (l.length : Int)) := by rw [ha.len Tryz.underlying23, List.length_map]
  refine callPure_of rfl (CQ.of Tryz.func36 rfl (by simp [Tryz.f36]) ?_)
  simp only [Tryz.f36, hlen, nvR, nvS, nvL, tF, Nat.reduceAdd, Nat.reduceLT, Nat.reduceEqDiff, Nat.reduceMul, Nat.reduceLeDiff, Nat.add_lt_add_iff_right, Nat.lt_add_left_iff_pos, Nat.add_eq_zero_iff, decide_true, decide_false, eq_self, if_true, if_false, and_self, true_and, and_true, reduceCtorEq, ge_iff_le, Nat.le_refl, Nat.zero_le]
  refine W_loop (fun j fr σ => ∃ (i : Nat) (tm : PT AV), i + j = l.length ∧ fr = ⟨tm, 19, [], none⟩ ∧ tm.get 0 = some a ∧ tm.get 1 = some e ∧ tm.get 7 = some (.int .i64 (l.length : Int)) ∧ tm.get 8 = some (.int .i64 (i : Int)) ∧ ∀ j (hj : j < i), ∀ h : j < l.length, p l[j] = false) (k := l.length) (by omega)
    ⟨0, _, by omega, rfl, by simp only [nvR, nvS, nvL, tF, Nat.reduceAdd, Nat.reduceLT, Nat.reduceEqDiff, Nat.reduceMul, Nat.reduceLeDiff, Nat.add_lt_add_iff_right, Nat.lt_add_left_iff_pos, Nat.add_eq_zero_iff, decide_true, decide_false, eq_self, if_true, if_false, and_self, true_and, and_true, reduceCtorEq, ge_iff_le, Nat.le_refl, Nat.zero_le], by simp only [nvR, nvS, nvL, tF, Nat.reduceAdd, Nat.reduceLT, Nat.reduceEqDiff, Nat.reduceMul, Nat.reduceLeDiff, Nat.add_lt_add_iff_right, Nat.lt_add_left_iff_pos, Nat.add_eq_zero_iff, decide_true, decide_false, eq_self, if_true, if_false, and_self, true_and, and_true, reduceCtorEq, ge_iff_le, Nat.le_refl, Nat.zero_le], by simp only [nvR, nvS, nvL, tF, Nat.reduceAdd, Nat.reduceLT, Nat.reduceEqDiff, Nat.reduceMul, Nat.reduceLeDiff, Nat.add_lt_add_iff_right, Nat.lt_add_left_iff_pos, Nat.add_eq_zero_iff, decide_true, decide_false, eq_self, if_true, if_false, and_self, true_and, and_true, reduceCtorEq, ge_iff_le, Nat.le_refl, Nat.zero_le], by simp only [nvR, nvS, nvL, tF, Nat.reduceAdd, Nat.reduceLT, Nat.reduceEqDiff, Nat.reduceMul, Nat.reduceLeDiff, Nat.add_lt_add_iff_right, Nat.lt_add_left_iff_pos, Nat.add_eq_zero_iff, decide_true, decide_false, eq_self, if_true, if_false, and_self, true_and, and_true, reduceCtorEq, ge_iff_le, Nat.le_refl, Nat.zero_le]; rfl, fun j hj => absurd hj (Nat.not_lt_zero _)⟩ ?_
  rintro j fr σ ⟨i, tm, hij, rfl, h0, h1, h7, h8, hb⟩
  simp only [h7, h8, nvR, nvS, nvL, tF, Nat.reduceAdd, Nat.reduceLT, Nat.reduceEqDiff, Nat.reduceMul, Nat.reduceLeDiff, Nat.add_lt_add_iff_right, Nat.lt_add_left_iff_pos, Nat.add_eq_zero_iff, decide_true, decide_false, eq_self, if_true, if_false, and_self, true_and, and_true, reduceCtorEq, ge_iff_le, Nat.le_refl, Nat.zero_le]
  refine condW_split (fun h => ?_) (fun h => ?_)
  · have hi : i < l.length := by simpa using h
    have hidx := ha.idx (P := Tryz.prog) (k := i) Tryz.underlying23 (by kernel_rfl) (by simpa using hi)
    rw [List.getElem_map] at hidx
    simp only [h0, h1, h7, h8, hidx, Rp.c, he, nvR, nvS, nvL, tF, Nat.reduceAdd, Nat.reduceLT, Nat.reduceEqDiff, Nat.reduceMul, Nat.reduceLeDiff, Nat.add_lt_add_iff_right, Nat.lt_add_left_iff_pos, Nat.add_eq_zero_iff, decide_true, decide_false, eq_self, if_true, if_false, and_self, true_and, and_true, reduceCtorEq, ge_iff_le, Nat.le_refl, Nat.zero_le]
    refine condW_split (fun hp => ?_) (fun hp => ?_)
    · simp only [h0, h1, h7, h8, nvR, nvS, nvL, tF, Nat.reduceAdd, Nat.reduceLT, Nat.reduceEqDiff, Nat.reduceMul, Nat.reduceLeDiff, Nat.add_lt_add_iff_right, Nat.lt_add_left_iff_pos, Nat.add_eq_zero_iff, decide_true, decide_false, eq_self, if_true, if_false, and_self, true_and, and_true, reduceCtorEq, ge_iff_le, Nat.le_refl, Nat.zero_le]
      exact ⟨_, rfl, by rw [idx_at hi hp (fun j hj => hb j hj _)]; rfl⟩
    · simp only [h0, h1, h7, h8, nvR, nvS, nvL, tF, Nat.reduceAdd, Nat.reduceLT, Nat.reduceEqDiff, Nat.reduceMul, Nat.reduceLeDiff, Nat.add_lt_add_iff_right, Nat.lt_add_left_iff_pos, Nat.add_eq_zero_iff, decide_true, decide_false, eq_self, if_true, if_false, and_self, true_and, and_true, reduceCtorEq, ge_iff_le, Nat.le_refl, Nat.zero_le]
      refine loop_next (j - 1) (by omega) ⟨i + 1, _, by omega, rfl, by simp only [h0, nvR, nvS, nvL, tF, Nat.reduceAdd, Nat.reduceLT, Nat.reduceEqDiff, Nat.reduceMul, Nat.reduceLeDiff, Nat.add_lt_add_iff_right, Nat.lt_add_left_iff_pos, Nat.add_eq_zero_iff, decide_true, decide_false, eq_self, if_true, if_false, and_self, true_and, and_true, reduceCtorEq, ge_iff_le, Nat.le_refl, Nat.zero_le], by simp only [h1, nvR, nvS, nvL, tF, Nat.reduceAdd, Nat.reduceLT, Nat.reduceEqDiff, Nat.reduceMul, Nat.reduceLeDiff, Nat.add_lt_add_iff_right, Nat.lt_add_left_iff_pos, Nat.add_eq_zero_iff, decide_true, decide_false, eq_self, if_true, if_false, and_self, true_and, and_true, reduceCtorEq, ge_iff_le, Nat.le_refl, Nat.zero_le], by simp only [h7, nvR, nvS, nvL, tF, Nat.reduceAdd, Nat.reduceLT, Nat.reduceEqDiff, Nat.reduceMul, Nat.reduceLeDiff, Nat.add_lt_add_iff_right, Nat.lt_add_left_iff_pos, Nat.add_eq_zero_iff, decide_true, decide_false, eq_self, if_true, if_false, and_self, true_and, and_true, reduceCtorEq, ge_iff_le, Nat.le_refl, Nat.zero_le], ?_, fun k hk hkl => ?_⟩
      · simp only [nvR, nvS, nvL, tF, Nat.reduceAdd, Nat.reduceLT, Nat.reduceEqDiff, Nat.reduceMul, Nat.reduceLeDiff, Nat.add_lt_add_iff_right, Nat.lt_add_left_iff_pos, Nat.add_eq_zero_iff, decide_true, decide_false, eq_self, if_true, if_false, and_self, true_and, and_true, reduceCtorEq, ge_iff_le, Nat.le_refl, Nat.zero_le]
        rw [wrapF_id (by omega) (by omega)]
        rfl
      · by_cases hki : k = i
        · subst hki; exact hp
        · exact hb k (by omega) hkl
  · have hi : i = l.length := by
        (have h' : ¬ ((i : Int) < l.length) := (by simpa using h); omega)
    simp only [nvR, nvS, nvL, tF, Nat.reduceAdd, Nat.reduceLT, Nat.reduceEqDiff, Nat.reduceMul, Nat.reduceLeDiff, Nat.add_lt_add_iff_right, Nat.lt_add_left_iff_pos, Nat.add_eq_zero_iff, decide_true, decide_false, eq_self, if_true, if_false, and_self, true_and, and_true, reduceCtorEq, ge_iff_le, Nat.le_refl, Nat.zero_le]
    exact ⟨_, rfl, by rw [idx_no (fun j hj => hb j (by omega) hj)]; rfl⟩
theorem c19 (N : Nat) {a e : AV} {l : List O} {p : O → Bool} (ha : Sl 3 a (l.map O.c)) (hl : l.length ≤ 40) (hp : ∀ d, isPure (d + 2) e = true) (he : ∀ (N : Nat) (x : O) (σ : Heap), callV Tryz.prog CT (run Tryz.prog CT (N + 50)) e [.agg x.c] σ = some (.ret (.bool (p x)), σ)) :
    callPure Tryz.prog CT (run Tryz.prog CT (N + 140)) 19 [a, e] = some (.bool (l.any p)) := by
  have hpa : ∀ d, isPure (d + 1) a = true := fun d => ha.pure
  have e1 := fun N => c31 N ha hl he
  refine callPure_of rfl (CQ.of Tryz.func19 rfl (by simp [Tryz.f19]) ?_)
  simp only [Tryz.f19, hpa, hp, e1, idx_any, nvR, nvS, nvL, tF, Nat.reduceAdd, Nat.reduceLT, Nat.reduceEqDiff, Nat.reduceMul, Nat.reduceLeDiff, Nat.add_lt_add_iff_right, Nat.lt_add_left_iff_pos, Nat.add_eq_zero_iff, decide_true, decide_false, eq_self, if_true, if_false, and_self, true_and, and_true, reduceCtorEq, ge_iff_le, Nat.le_refl, Nat.zero_le]
  exact ⟨_, rfl, rfl⟩
theorem c23 (N : Nat) {a e : AV} {l : List Rp} {p : Rp → Bool} (ha : Sl 10 a (l.map Rp.c)) (hl : l.length ≤ 40) (hp : ∀ d, isPure (d + 2) e = true) (he : ∀ (N : Nat) (x : Rp) (σ : Heap), callV Tryz.prog CT (run Tryz.prog CT (N + 50)) e [.agg x.c] σ = some (.ret (.bool (p x)), σ)) :
    callPure Tryz.prog CT (run Tryz.prog CT (N + 140)) 23 [a, e] = some (.bool (l.any p)) := by
  have hpa : ∀ d, isPure (d + 1) a = true := fun d => ha.pure
  have e1 := fun N => c36 N ha hl he
  refine callPure_of rfl (CQ.of Tryz.func23 rfl (by simp [Tryz.f23]) ?_)
  simp only [Tryz.f23, hpa, hp, e1, idx_any, nvR, nvS, nvL, tF, Nat.reduceAdd, Nat.reduceLT, Nat.reduceEqDiff, Nat.reduceMul, Nat.reduceLeDiff, Nat.add_lt_add_iff_right, Nat.lt_add_left_iff_pos, Nat.add_eq_zero_iff, decide_true, decide_false, eq_self, if_true, if_false, and_self, true_and, and_true, reduceCtorEq, ge_iff_le, Nat.le_refl, Nat.zero_le]
  exact ⟨_, rfl, rfl⟩
theorem c11 (N : Nat) {a b : AV} {l m : List O} (ha : Sl 3 a (l.map O.c)) (hb : Sl 3 b (m.map O.c)) (hl : l.length ≤ 40) (hm : m.length ≤ 40) :
    callPure Tryz.prog CT (run Tryz.prog CT (N + 300)) 11 [a, b, .fn 12 [] []] = some (.bool (l.all fun x => m.any fun y => x.eq y)) := by
  have hpb : ∀ d, isPure (d + 1) b = true := fun d => hb.pure
  have hfb : ∀ d σ lim, freeze σ lim (d + 1) b = some b := fun d σ lim => hb.freeze
  have hlen : lenV Tryz.prog 22 a = some (.int .i64 (l.length : Int)) := by rw [ha.len Tryz.underlying22, List.length_map]
  refine callPure_of rfl (CQ.of Tryz.func11 rfl (by simp [Tryz.f11]) ?_)
  simp only [Tryz.f11, hlen, nvR, nvS, nvL, tF, Nat.reduceAdd, Nat.reduceLT, Nat.reduceEqDiff, Nat.reduceMul, Nat.reduceLeDiff, Nat.add_lt_add_iff_right, Nat.lt_add_left_iff_pos, Nat.add_eq_zero_iff, decide_true, decide_false, eq_self, if_true, if_false, and_self, true_and, and_true, reduceCtorEq, ge_iff_le, Nat.le_refl, Nat.zero_le]
  refine W_loop (fun j fr σ => ∃ (i : Nat) (tm : PT AV), i + j = l.length ∧ fr = ⟨tm, 20, [], none⟩ ∧ tm.get 0 = some a ∧ tm.get 1 = some b ∧ tm.get 5 = some (.ptr 0 0) ∧ tm.get 9 = some a ∧ tm.get 10 = some (.int .i64 (l.length : Int)) ∧ tm.get 11 = some (.int .i64 (i : Int)) ∧
      σ.get 0 = some (.cells 50 true [.fn 12 [] []]) ∧ ∀ j (hj : j < i), ∀ h : j < l.length, (m.any fun y => l[j].eq y) = true) (k := l.length) (by omega)
    ⟨0, _, by omega, rfl, by simp only [nvR, nvS, nvL, tF, Nat.reduceAdd, Nat.reduceLT, Nat.reduceEqDiff, Nat.reduceMul, Nat.reduceLeDiff, Nat.add_lt_add_iff_right, Nat.lt_add_left_iff_pos, Nat.add_eq_zero_iff, decide_true, decide_false, eq_self, if_true, if_false, and_self, true_and, and_true, reduceCtorEq, ge_iff_le, Nat.le_refl, Nat.zero_le], by simp only [nvR, nvS, nvL, tF, Nat.reduceAdd, Nat.reduceLT, Nat.reduceEqDiff, Nat.reduceMul, Nat.reduceLeDiff, Nat.add_lt_add_iff_right, Nat.lt_add_left_iff_pos, Nat.add_eq_zero_iff, decide_true, decide_false, eq_self, if_true, if_false, and_self, true_and, and_true, reduceCtorEq, ge_iff_le, Nat.le_refl, Nat.zero_le], by simp only [nvR, nvS, nvL, tF, Nat.reduceAdd, Nat.reduceLT, Nat.reduceEqDiff, Nat.reduceMul, Nat.reduceLeDiff, Nat.add_lt_add_iff_right, Nat.lt_add_left_iff_pos, Nat.add_eq_zero_iff, decide_true, decide_false, eq_self, if_true, if_false, and_self, true_and, and_true, reduceCtorEq, ge_iff_le, Nat.le_refl, Nat.zero_le], by simp only [nvR, nvS, nvL, tF, Nat.reduceAdd, Nat.reduceLT, Nat.reduceEqDiff, Nat.reduceMul, Nat.reduceLeDiff, Nat.add_lt_add_iff_right, Nat.lt_add_left_iff_pos, Nat.add_eq_zero_iff, decide_true, decide_false, eq_self, if_true, if_false, and_self, true_and, and_true, reduceCtorEq, ge_iff_le, Nat.le_refl, Nat.zero_le], by simp only [nvR, nvS, nvL, tF, Nat.reduceAdd, Nat.reduceLT, Nat.reduceEqDiff, Nat.reduceMul, Nat.reduceLeDiff, Nat.add_lt_add_iff_right, Nat.lt_add_left_iff_pos, Nat.add_eq_zero_iff, decide_true, decide_false, eq_self, if_true, if_false, and_self, true_and, and_true, reduceCtorEq, ge_iff_le, Nat.le_refl, Nat.zero_le], by simp only [nvR, nvS, nvL, tF, Nat.reduceAdd, Nat.reduceLT, Nat.reduceEqDiff, Nat.reduceMul, Nat.reduceLeDiff, Nat.add_lt_add_iff_right, Nat.lt_add_left_iff_pos, Nat.add_eq_zero_iff, decide_true, decide_false, eq_self, if_true, if_false, and_self, true_and, and_true, reduceCtorEq, ge_iff_le, Nat.le_refl, Nat.zero_le]; rfl, by simp only [nvR, nvS, nvL, tF, Nat.reduceAdd, Nat.reduceLT, Nat.reduceEqDiff, Nat.reduceMul, Nat.reduceLeDiff, Nat.add_lt_add_iff_right, Nat.lt_add_left_iff_pos, Nat.add_eq_zero_iff, decide_true, decide_false, eq_self, if_true, if_false, and_self, true_and, and_true, reduceCtorEq, ge_iff_le, Nat.le_refl, Nat.zero_le], fun j hj => absurd hj (Nat.not_lt_zero _)⟩ ?_
  rintro j fr σ ⟨i, tm, hij, rfl, h0, h1, h5, h9, h10, h11, hσ, hb'⟩
  simp only [h10, h11, nvR, nvS, nvL, tF, Nat.reduceAdd, Nat.reduceLT, Nat.reduceEqDiff, Nat.reduceMul, Nat.reduceLeDiff, Nat.add_lt_add_iff_right, Nat.lt_add_left_iff_pos, Nat.add_eq_zero_iff, decide_true, decide_false, eq_self, if_true, if_false, and_self, true_and, and_true, reduceCtorEq, ge_iff_le, Nat.le_refl, Nat.zero_le]
  refine condW_split (fun h => ?_) (fun h => ?_)
  · have hi : i < l.length := by simpa using h
    have hidx := ha.idx (P := Tryz.prog) (k := i) Tryz.underlying22 (by kernel_rfl) (by simpa using hi)
    rw [List.getElem_map] at hidx
    have hx : ∀ d σ lim, freeze σ lim (d + 1) l[i].o = some l[i].o := fun d σ lim => l[i].h.freeze
    have hpx : ∀ d, isPure (d + 1) l[i].o = true := fun d => l[i].h.pure
    have ho : AV.oneC l[i].o = true := l[i].h.oneC
    have hz : (0 = σ.next + 2) = False := by simp
    have e1 := fun N => c19 N (e := .fn 26 [] [.pptr [.fn 12 [] []], .pptr l[i].c]) (p := fun y => l[i].eq y) hb hm (by intro d; simp only [nvR, nvS, nvL, tF, Nat.reduceAdd, Nat.reduceLT, Nat.reduceEqDiff, Nat.reduceMul, Nat.reduceLeDiff, Nat.add_lt_add_iff_right, Nat.lt_add_left_iff_pos, Nat.add_eq_zero_iff, decide_true, decide_false, eq_self, if_true, if_false, and_self, true_and, and_true, reduceCtorEq, ge_iff_le, Nat.le_refl, Nat.zero_le])
      (by
        intro N y σ
        have hy : ∀ d, isPure (d + 1) y.o = true := fun d => y.h.pure
        have e2 := fun N => c26 N l[i] y
        simp only [O.c] at e2
        simp only [callV_fn, O.c, hy, e2, nvR, nvS, nvL, tF, Nat.reduceAdd, Nat.reduceLT, Nat.reduceEqDiff, Nat.reduceMul, Nat.reduceLeDiff, Nat.add_lt_add_iff_right, Nat.lt_add_left_iff_pos, Nat.add_eq_zero_iff, decide_true, decide_false, eq_self, if_true, if_false, and_self, true_and, and_true, reduceCtorEq, ge_iff_le, Nat.le_refl, Nat.zero_le])
    simp only [O.c] at e1
    simp only [h0, h1, h5, h9, h10, h11, hσ, hidx, O.c, hz, ho, hpb, hfb, hx, hpx, e1, nvR, nvS, nvL, tF, Nat.reduceAdd, Nat.reduceLT, Nat.reduceEqDiff, Nat.reduceMul, Nat.reduceLeDiff, Nat.add_lt_add_iff_right, Nat.lt_add_left_iff_pos, Nat.add_eq_zero_iff, decide_true, decide_false, eq_self, if_true, if_false, and_self, true_and, and_true, reduceCtorEq, ge_iff_le, Nat.le_refl, Nat.zero_le]
    refine condW_split (fun hp => ?_) (fun hp => ?_)
    · simp only [nvR, nvS, nvL, tF, Nat.reduceAdd, Nat.reduceLT, Nat.reduceEqDiff, Nat.reduceMul, Nat.reduceLeDiff, Nat.add_lt_add_iff_right, Nat.lt_add_left_iff_pos, Nat.add_eq_zero_iff, decide_true, decide_false, eq_self, if_true, if_false, and_self, true_and, and_true, reduceCtorEq, ge_iff_le, Nat.le_refl, Nat.zero_le]
      refine ⟨_, rfl, ?_⟩
      have : (l.all fun x => m.any fun y => x.eq y) = false := by
        rw [List.all_eq_false]
        exact ⟨l[i], List.getElem_mem hi, by simpa using hp⟩
      rw [this]
      rfl
    · simp only [h0, h1, h5, h9, h10, h11, hσ, hz, nvR, nvS, nvL, tF, Nat.reduceAdd, Nat.reduceLT, Nat.reduceEqDiff, Nat.reduceMul, Nat.reduceLeDiff, Nat.add_lt_add_iff_right, Nat.lt_add_left_iff_pos, Nat.add_eq_zero_iff, decide_true, decide_false, eq_self, if_true, if_false, and_self, true_and, and_true, reduceCtorEq, ge_iff_le, Nat.le_refl, Nat.zero_le]
      refine loop_next (j - 1) (by omega) ⟨i + 1, _, by omega, rfl, by simp only [h0, nvR, nvS, nvL, tF, Nat.reduceAdd, Nat.reduceLT, Nat.reduceEqDiff, Nat.reduceMul, Nat.reduceLeDiff, Nat.add_lt_add_iff_right, Nat.lt_add_left_iff_pos, Nat.add_eq_zero_iff, decide_true, decide_false, eq_self, if_true, if_false, and_self, true_and, and_true, reduceCtorEq, ge_iff_le, Nat.le_refl, Nat.zero_le], by simp only [h1, nvR, nvS, nvL, tF, Nat.reduceAdd, Nat.reduceLT, Nat.reduceEqDiff, Nat.reduceMul, Nat.reduceLeDiff, Nat.add_lt_add_iff_right, Nat.lt_add_left_iff_pos, Nat.add_eq_zero_iff, decide_true, decide_false, eq_self, if_true, if_false, and_self, true_and, and_true, reduceCtorEq, ge_iff_le, Nat.le_refl, Nat.zero_le], by simp only [h5, nvR, nvS, nvL, tF, Nat.reduceAdd, Nat.reduceLT, Nat.reduceEqDiff, Nat.reduceMul, Nat.reduceLeDiff, Nat.add_lt_add_iff_right, Nat.lt_add_left_iff_pos, Nat.add_eq_zero_iff, decide_true, decide_false, eq_self, if_true, if_false, and_self, true_and, and_true, reduceCtorEq, ge_iff_le, Nat.le_refl, Nat.zero_le], by simp only [h9, nvR, nvS, nvL, tF, Nat.reduceAdd, Nat.reduceLT, Nat.reduceEqDiff, Nat.reduceMul, Nat.reduceLeDiff, Nat.add_lt_add_iff_right, Nat.lt_add_left_iff_pos, Nat.add_eq_zero_iff, decide_true, decide_false, eq_self, if_true, if_false, and_self, true_and, and_true, reduceCtorEq, ge_iff_le, Nat.le_refl, Nat.zero_le], by simp only [h10, nvR, nvS, nvL, tF, Nat.reduceAdd, Nat.reduceLT, Nat.reduceEqDiff, Nat.reduceMul, Nat.reduceLeDiff, Nat.add_lt_add_iff_right, Nat.lt_add_left_iff_pos, Nat.add_eq_zero_iff, decide_true, decide_false, eq_self, if_true, if_false, and_self, true_and, and_true, reduceCtorEq, ge_iff_le, Nat.le_refl, Nat.zero_le], ?_, by simp only [hz, hσ, nvR, nvS, nvL, tF, Nat.reduceAdd, Nat.reduceLT, Nat.reduceEqDiff, Nat.reduceMul, Nat.reduceLeDiff, Nat.add_lt_add_iff_right, Nat.lt_add_left_iff_pos, Nat.add_eq_zero_iff, decide_true, decide_false, eq_self, if_true, if_false, and_self, true_and, and_true, reduceCtorEq, ge_iff_le, Nat.le_refl, Nat.zero_le], fun k hk hkl => ?_⟩
      · simp only [nvR, nvS, nvL, tF, Nat.reduceAdd, Nat.reduceLT, Nat.reduceEqDiff, Nat.reduceMul, Nat.reduceLeDiff, Nat.add_lt_add_iff_right, Nat.lt_add_left_iff_pos, Nat.add_eq_zero_iff, decide_true, decide_false, eq_self, if_true, if_false, and_self, true_and, and_true, reduceCtorEq, ge_iff_le, Nat.le_refl, Nat.zero_le]
        rw [wrapF_id (by omega) (by omega)]
        rfl
      · by_cases hki : k = i
        · subst hki
          simpa using hp
        · exact hb' k (by omega) hkl
  · have hi : i = l.length := by
        (have h' : ¬ ((i : Int) < l.length) := (by simpa using h); omega)
    simp only [nvR, nvS, nvL, tF, Nat.reduceAdd, Nat.reduceLT, Nat.reduceEqDiff, Nat.reduceMul, Nat.reduceLeDiff, Nat.add_lt_add_iff_right, Nat.lt_add_left_iff_pos, Nat.add_eq_zero_iff, decide_true, decide_false, eq_self, if_true, if_false, and_self, true_and, and_true, reduceCtorEq, ge_iff_le, Nat.le_refl, Nat.zero_le]
    refine ⟨_, rfl, ?_⟩
    have : (l.all fun x => m.any fun y => x.eq y) = true := by
      rw [List.all_eq_true]
      intro x hx
      obtain ⟨k, hk, rfl⟩ := List.getElem_of_mem hx
      exact hb' k (by omega) hk
    rw [this]
    rfl
theorem c13 (N : Nat) {a b : AV} {l m : List Rp} (ha : Sl 10 a (l.map Rp.c)) (hb : Sl 10 b (m.map Rp.c)) (hl : l.length ≤ 40) (hm : m.length ≤ 40) :
    callPure Tryz.prog CT (run Tryz.prog CT (N + 300)) 13 [a, b, .fn 14 [] []] = some (.bool (l.all fun x => m.any fun y => x.eq y)) := by
  have hpb : ∀ d, isPure (d + 1) b = true := fun d => hb.pure
  have hfb : ∀ d σ lim, freeze σ lim (d + 1) b = some b := fun d σ lim => hb.freeze
  have hlen : lenV Tryz.prog 23 a = some (.int .i64 (l.length : Int)) := by rw [ha.len Tryz.underlying23, List.length_map]
  refine callPure_of rfl (CQ.of Tryz.func13 rfl (by simp [Tryz.f13]) ?_)
  simp only [Tryz.f13, hlen, nvR, nvS, nvL, tF, Nat.reduceAdd, Nat.reduceLT, Nat.reduceEqDiff, Nat.reduceMul, Nat.reduceLeDiff, Nat.add_lt_add_iff_right, Nat.lt_add_left_iff_pos, Nat.add_eq_zero_iff, decide_true, decide_false, eq_self, if_true, if_false, and_self, true_and, and_true, reduceCtorEq, ge_iff_le, Nat.le_refl, Nat.zero_le]
  refine W_loop (fun j fr σ => ∃ (i : Nat) (tm : PT AV), i + j = l.length ∧ fr = ⟨tm, 20, [], none⟩ ∧ tm.get 0 = some a ∧ tm.get 1 = some b ∧ tm.get 5 = some (.ptr 0 0) ∧ tm.get 9 = some a ∧ tm.get 10 = some (.int .i64 (l.length : Int)) ∧ tm.get 11 = some (.int .i64 (i : Int)) ∧
      σ.get 0 = some (.cells 52 true [.fn 14 [] []]) ∧ ∀ j (hj : j < i), ∀ h : j < l.length, (m.any fun y => l[j].eq y) = true) (k := l.length) (by omega)
    ⟨0, _, by omega, rfl, by simp only [nvR, nvS, nvL, tF, Nat.reduceAdd, Nat.reduceLT, Nat.reduceEqDiff, Nat.reduceMul, Nat.reduceLeDiff, Nat.add_lt_add_iff_right, Nat.lt_add_left_iff_pos, Nat.add_eq_zero_iff, decide_true, decide_false, eq_self, if_true, if_false, and_self, true_and, and_true, reduceCtorEq, ge_iff_le, Nat.le_refl, Nat.zero_le], by simp only [nvR, nvS, nvL, tF, Nat.reduceAdd, Nat.reduceLT, Nat.reduceEqDiff, Nat.reduceMul, Nat.reduceLeDiff, Nat.add_lt_add_iff_right, Nat.lt_add_left_iff_pos, Nat.add_eq_zero_iff, decide_true, decide_false, eq_self, if_true, if_false, and_self, true_and, and_true, reduceCtorEq, ge_iff_le, Nat.le_refl, Nat.zero_le], by simp only [nvR, nvS, nvL, tF, Nat.reduceAdd, Nat.reduceLT, Nat.reduceEqDiff, Nat.reduceMul, Nat.reduceLeDiff, Nat.add_lt_add_iff_right, Nat.lt_add_left_iff_pos, Nat.add_eq_zero_iff, decide_true, decide_false, eq_self, if_true, if_false, and_self, true_and, and_true, reduceCtorEq, ge_iff_le, Nat.le_refl, Nat.zero_le], by simp only [nvR, nvS, nvL, tF, Nat.reduceAdd, Nat.reduceLT, Nat.reduceEqDiff, Nat.reduceMul, Nat.reduceLeDiff, Nat.add_lt_add_iff_right, Nat.lt_add_left_iff_pos, Nat.add_eq_zero_iff, decide_true, decide_false, eq_self, if_true, if_false, and_self, true_and, and_true, reduceCtorEq, ge_iff_le, Nat.le_refl, Nat.zero_le], by simp only [nvR, nvS, nvL, tF, Nat.reduceAdd, Nat.reduceLT, Nat.reduceEqDiff, Nat.reduceMul, Nat.reduceLeDiff, Nat.add_lt_add_iff_right, Nat.lt_add_left_iff_pos, Nat.add_eq_zero_iff, decide_true, decide_false, eq_self, if_true, if_false, and_self, true_and, and_true, reduceCtorEq, ge_iff_le, Nat.le_refl, Nat.zero_le], by simp only [nvR, nvS, nvL, tF, Nat.reduceAdd, Nat.reduceLT, Nat.reduceEqDiff, Nat.reduceMul, Nat.reduceLeDiff, Nat.add_lt_add_iff_right, Nat.lt_add_left_iff_pos, Nat.add_eq_zero_iff, decide_true, decide_false, eq_self, if_true, if_false, and_self, true_and, and_true, reduceCtorEq, ge_iff_le, Nat.le_refl, Nat.zero_le]; rfl, by simp only [nvR, nvS, nvL, tF, Nat.reduceAdd, Nat.reduceLT, Nat.reduceEqDiff, Nat.reduceMul, Nat.reduceLeDiff, Nat.add_lt_add_iff_right, Nat.lt_add_left_iff_pos, Nat.add_eq_zero_iff, decide_true, decide_false, eq_self, if_true, if_false, and_self, true_and, and_true, reduceCtorEq, ge_iff_le, Nat.le_refl, Nat.zero_le], fun j hj => absurd hj (Nat.not_lt_zero _)⟩ ?_
  rintro j fr σ ⟨i, tm, hij, rfl, h0, h1, h5, h9, h10, h11, hσ, hb'⟩
  simp only [h10, h11, nvR, nvS, nvL, tF, Nat.reduceAdd, Nat.reduceLT, Nat.reduceEqDiff, Nat.reduceMul, Nat.reduceLeDiff, Nat.add_lt_add_iff_right, Nat.lt_add_left_iff_pos, Nat.add_eq_zero_iff, decide_true, decide_false, eq_self, if_true, if_false, and_self, true_and, and_true, reduceCtorEq, ge_iff_le, Nat.le_refl, Nat.zero_le]
  refine condW_split (fun h => ?_) (fun h => ?_)
  · have hi : i < l.length := by simpa using h
    have hidx := ha.idx (P := Tryz.prog) (k := i) Tryz.underlying23 (by kernel_rfl) (by simpa using hi)
    rw [List.getElem_map] at hidx
    have hx : ∀ d σ lim, freeze σ lim (d + 1) l[i].l = some l[i].l := fun d σ lim => l[i].h.freeze
    have hpx : ∀ d, isPure (d + 1) l[i].l = true := fun d => l[i].h.pure
    have ho : AV.oneC l[i].l = true := l[i].h.oneC
    have hz : (0 = σ.next + 2) = False := by simp
    have e1 := fun N => c23 N (e := .fn 27 [] [.pptr [.fn 14 [] []], .pptr l[i].c]) (p := fun y => l[i].eq y) hb hm (by intro d; simp only [nvR, nvS, nvL, tF, Nat.reduceAdd, Nat.reduceLT, Nat.reduceEqDiff, Nat.reduceMul, Nat.reduceLeDiff, Nat.add_lt_add_iff_right, Nat.lt_add_left_iff_pos, Nat.add_eq_zero_iff, decide_true, decide_false, eq_self, if_true, if_false, and_self, true_and, and_true, reduceCtorEq, ge_iff_le, Nat.le_refl, Nat.zero_le])
      (by
        intro N y σ
        have hy : ∀ d, isPure (d + 1) y.l = true := fun d => y.h.pure
        have e2 := fun N => c27 N l[i] y
        simp only [Rp.c] at e2
        simp only [callV_fn, Rp.c, hy, e2, nvR, nvS, nvL, tF, Nat.reduceAdd, Nat.reduceLT, Nat.reduceEqDiff, Nat.reduceMul, Nat.reduceLeDiff, Nat.add_lt_add_iff_right, Nat.lt_add_left_iff_pos, Nat.add_eq_zero_iff, decide_true, decide_false, eq_self, if_true, if_false, and_self, true_and, and_true, reduceCtorEq, ge_iff_le, Nat.le_refl, Nat.zero_le])
    simp only [Rp.c] at e1
    simp only [h0, h1, h5, h9, h10, h11, hσ, hidx, Rp.c, hz, ho, hpb, hfb, hx, hpx, e1, nvR, nvS, nvL, tF, Nat.reduceAdd, Nat.reduceLT, Nat.reduceEqDiff, Nat.reduceMul, Nat.reduceLeDiff, Nat.add_lt_add_iff_right, Nat.lt_add_left_iff_pos, Nat.add_eq_zero_iff, decide_true, decide_false, eq_self, if_true, if_false, and_self, true_and, and_true, reduceCtorEq, ge_iff_le, Nat.le_refl, Nat.zero_le]
    refine condW_split (fun hp => ?_) (fun hp => ?_)
    · simp only [nvR, nvS, nvL, tF, Nat.reduceAdd, Nat.reduceLT, Nat.reduceEqDiff, Nat.reduceMul, Nat.reduceLeDiff, Nat.add_lt_add_iff_right, Nat.lt_add_left_iff_pos, Nat.add_eq_zero_iff, decide_true, decide_false, eq_self, if_true, if_false, and_self, true_and, and_true, reduceCtorEq, ge_iff_le, Nat.le_refl, Nat.zero_le]
      refine ⟨_, rfl, ?_⟩
      have : (l.all fun x => m.any fun y => x.eq y) = false := by
        rw [List.all_eq_false]
        exact ⟨l[i], List.getElem_mem hi, by simpa using hp⟩
      rw [this]
      rfl
    · simp only [h0, h1, h5, h9, h10, h11, hσ, hz, nvR, nvS, nvL, tF, Nat.reduceAdd, Nat.reduceLT, Nat.reduceEqDiff, Nat.reduceMul, Nat.reduceLeDiff, Nat.add_lt_add_iff_right, Nat.lt_add_left_iff_pos, Nat.add_eq_zero_iff, decide_true, decide_false, eq_self, if_true, if_false, and_self, true_and, and_true, reduceCtorEq, ge_iff_le, Nat.le_refl, Nat.zero_le]
      refine loop_next (j - 1) (by omega) ⟨i + 1, _, by omega, rfl, by simp only [h0, nvR, nvS, nvL, tF, Nat.reduceAdd, Nat.reduceLT, Nat.reduceEqDiff, Nat.reduceMul, Nat.reduceLeDiff, Nat.add_lt_add_iff_right, Nat.lt_add_left_iff_pos, Nat.add_eq_zero_iff, decide_true, decide_false, eq_self, if_true, if_false, and_self, true_and, and_true, reduceCtorEq, ge_iff_le, Nat.le_refl, Nat.zero_le], by simp only [h1, nvR, nvS, nvL, tF, Nat.reduceAdd, Nat.reduceLT, Nat.reduceEqDiff, Nat.reduceMul, Nat.reduceLeDiff, Nat.add_lt_add_iff_right, Nat.lt_add_left_iff_pos, Nat.add_eq_zero_iff, decide_true, decide_false, eq_self, if_true, if_false, and_self, true_and, and_true, reduceCtorEq, ge_iff_le, Nat.le_refl, Nat.zero_le], by simp only [h5, nvR, nvS, nvL, tF, Nat.reduceAdd, Nat.reduceLT, Nat.reduceEqDiff, Nat.reduceMul, Nat.reduceLeDiff, Nat.add_lt_add_iff_right, Nat.lt_add_left_iff_pos, Nat.add_eq_zero_iff, decide_true, decide_false, eq_self, if_true, if_false, and_self, true_and, and_true, reduceCtorEq, ge_iff_le, Nat.le_refl, Nat.zero_le], by simp only [h9, nvR, nvS, nvL, tF, Nat.reduceAdd, Nat.reduceLT, Nat.reduceEqDiff, Nat.reduceMul, Nat.reduceLeDiff, Nat.add_lt_add_iff_right, Nat.lt_add_left_iff_pos, Nat.add_eq_zero_iff, decide_true, decide_false, eq_self, if_true, if_false, and_self, true_and, and_true, reduceCtorEq, ge_iff_le, Nat.le_refl, Nat.zero_le], by simp only [h10, nvR, nvS, nvL, tF, Nat.reduceAdd, Nat.reduceLT, Nat.reduceEqDiff, Nat.reduceMul, Nat.reduceLeDiff, Nat.add_lt_add_iff_right, Nat.lt_add_left_iff_pos, Nat.add_eq_zero_iff, decide_true, decide_false, eq_self, if_true, if_false, and_self, true_and, and_true, reduceCtorEq, ge_iff_le, Nat.le_refl, Nat.zero_le], ?_, by simp only [hz, hσ, nvR, nvS, nvL, tF, Nat.reduceAdd, Nat.reduceLT, Nat.reduceEqDiff, Nat.reduceMul, Nat.reduceLeDiff, Nat.add_lt_add_iff_right, Nat.lt_add_left_iff_pos, Nat.add_eq_zero_iff, decide_true, decide_false, eq_self, if_true, if_false, and_self, true_and, and_true, reduceCtorEq, ge_iff_le, Nat.le_refl, Nat.zero_le], fun k hk hkl => ?_⟩
      · simp only [nvR, nvS, nvL, tF, Nat.reduceAdd, Nat.reduceLT, Nat.reduceEqDiff, Nat.reduceMul, Nat.reduceLeDiff, Nat.add_lt_add_iff_right, Nat.lt_add_left_iff_pos, Nat.add_eq_zero_iff, decide_true, decide_false, eq_self, if_true, if_false, and_self, true_and, and_true, reduceCtorEq, ge_iff_le, Nat.le_refl, Nat.zero_le]
        rw [wrapF_id (by omega) (by omega)]
        rfl
      · by_cases hki : k = i
        · subst hki
          simpa using hp
        · exact hb' k (by omega) hkl
  · have hi : i = l.length := by
        (have h' : ¬ ((i : Int) < l.length) := (by simpa using h); omega)
    simp only [nvR, nvS, nvL, tF, Nat.reduceAdd, Nat.reduceLT, Nat.reduceEqDiff, Nat.reduceMul, Nat.reduceLeDiff, Nat.add_lt_add_iff_right, Nat.lt_add_left_iff_pos, Nat.add_eq_zero_iff, decide_true, decide_false, eq_self, if_true, if_false, and_self, true_and, and_true, reduceCtorEq, ge_iff_le, Nat.le_refl, Nat.zero_le]
    refine ⟨_, rfl, ?_⟩
    have : (l.all fun x => m.any fun y => x.eq y) = true := by
      rw [List.all_eq_true]
      intro x hx
      obtain ⟨k, hk, rfl⟩ := List.getElem_of_mem hx
      exact hb' k (by omega) hk
    rw [this]
    rfl
theorem c15 (N : Nat) {a : AV} {l : List O} (x : O) (ha : Sl 3 a (l.map O.c)) (hl : l.length ≤ 40) : callPure Tryz.prog CT (run Tryz.prog CT (N + 300)) 15 [a, .agg x.c] = some (.bool (l.any fun y => y.eq x)) := by
  have hlen : lenV Tryz.prog 22 a = some (.int .i64 (l.length : Int)) := by rw [ha.len Tryz.underlying22, List.length_map]
  refine callPure_of rfl (CQ.of Tryz.func15 rfl (by simp [Tryz.f15]) ?_)
  simp only [Tryz.f15, hlen, O.c, nvR, nvS, nvL, tF, Nat.reduceAdd, Nat.reduceLT, Nat.reduceEqDiff, Nat.reduceMul, Nat.reduceLeDiff, Nat.add_lt_add_iff_right, Nat.lt_add_left_iff_pos, Nat.add_eq_zero_iff, decide_true, decide_false, eq_self, if_true, if_false, and_self, true_and, and_true, reduceCtorEq, ge_iff_le, Nat.le_refl, Nat.zero_le]
  refine W_loop (fun j fr σ => ∃ (i : Nat) (tm : PT AV), i + j = l.length ∧ fr = ⟨tm, 30, [], none⟩ ∧ tm.get 0 = some a ∧ tm.get 3 = some (.ptr 0 0) ∧ tm.get 5 = some (.int .i64 (i : Int)) ∧ 0 < σ.next ∧
      σ.get 0 = some (.cells 37 true x.c) ∧ ∀ j (hj : j < i), ∀ h : j < l.length, l[j].eq x = false) (k := l.length) (by omega)
    ⟨0, _, by omega, rfl, by simp only [nvR, nvS, nvL, tF, Nat.reduceAdd, Nat.reduceLT, Nat.reduceEqDiff, Nat.reduceMul, Nat.reduceLeDiff, Nat.add_lt_add_iff_right, Nat.lt_add_left_iff_pos, Nat.add_eq_zero_iff, decide_true, decide_false, eq_self, if_true, if_false, and_self, true_and, and_true, reduceCtorEq, ge_iff_le, Nat.le_refl, Nat.zero_le], by simp only [nvR, nvS, nvL, tF, Nat.reduceAdd, Nat.reduceLT, Nat.reduceEqDiff, Nat.reduceMul, Nat.reduceLeDiff, Nat.add_lt_add_iff_right, Nat.lt_add_left_iff_pos, Nat.add_eq_zero_iff, decide_true, decide_false, eq_self, if_true, if_false, and_self, true_and, and_true, reduceCtorEq, ge_iff_le, Nat.le_refl, Nat.zero_le], by simp only [nvR, nvS, nvL, tF, Nat.reduceAdd, Nat.reduceLT, Nat.reduceEqDiff, Nat.reduceMul, Nat.reduceLeDiff, Nat.add_lt_add_iff_right, Nat.lt_add_left_iff_pos, Nat.add_eq_zero_iff, decide_true, decide_false, eq_self, if_true, if_false, and_self, true_and, and_true, reduceCtorEq, ge_iff_le, Nat.le_refl, Nat.zero_le]; rfl, by simp only [nvR, nvS, nvL, tF, Nat.reduceAdd, Nat.reduceLT, Nat.reduceEqDiff, Nat.reduceMul, Nat.reduceLeDiff, Nat.add_lt_add_iff_right, Nat.lt_add_left_iff_pos, Nat.add_eq_zero_iff, decide_true, decide_false, eq_self, if_true, if_false, and_self, true_and, and_true, reduceCtorEq, ge_iff_le, Nat.le_refl, Nat.zero_le], by simp only [O.c, nvR, nvS, nvL, tF, Nat.reduceAdd, Nat.reduceLT, Nat.reduceEqDiff, Nat.reduceMul, Nat.reduceLeDiff, Nat.add_lt_add_iff_right, Nat.lt_add_left_iff_pos, Nat.add_eq_zero_iff, decide_true, decide_false, eq_self, if_true, if_false, and_self, true_and, and_true, reduceCtorEq, ge_iff_le, Nat.le_refl, Nat.zero_le], fun j hj => absurd hj (Nat.not_lt_zero _)⟩ ?_
  rintro j fr σ ⟨i, tm, hij, rfl, h0, h3, h5, hn, hσ, hb'⟩
  simp only [O.c] at hσ
  simp only [h0, h3, h5, hlen, nvR, nvS, nvL, tF, Nat.reduceAdd, Nat.reduceLT, Nat.reduceEqDiff, Nat.reduceMul, Nat.reduceLeDiff, Nat.add_lt_add_iff_right, Nat.lt_add_left_iff_pos, Nat.add_eq_zero_iff, decide_true, decide_false, eq_self, if_true, if_false, and_self, true_and, and_true, reduceCtorEq, ge_iff_le, Nat.le_refl, Nat.zero_le]
  refine condW_split (fun h => ?_) (fun h => ?_)
  · have hi : i < l.length := by simpa using h
    have hidx := ha.idx (P := Tryz.prog) (k := i) Tryz.underlying22 (by kernel_rfl) (by simpa using hi)
    rw [List.getElem_map] at hidx
    simp only [nvR, nvS, nvL, tF, Nat.reduceAdd, Nat.reduceLT, Nat.reduceEqDiff, Nat.reduceMul, Nat.reduceLeDiff, Nat.add_lt_add_iff_right, Nat.lt_add_left_iff_pos, Nat.add_eq_zero_iff, decide_true, decide_false, eq_self, if_true, if_false, and_self, true_and, and_true, reduceCtorEq, ge_iff_le, Nat.le_refl, Nat.zero_le]
    refine W_draw [] (by kernel_rfl) (by kernel_rfl) ?_
    have hnn : ∀ k, (0 < σ.next + k) = True := fun k => eq_true (by omega)
    have getb : ∀ (ops : Array Oper) (base i b : Nat) (σ : Heap), b < base → getLim σ (limD ops base i) b = σ.get b := fun _ _ _ _ _ h => getLim_old h
    simp only [h0, h3, h5, hidx, O.c, getb, hnn, hσ, nvR, nvS, nvL, tF, Nat.reduceAdd, Nat.reduceLT, Nat.reduceEqDiff, Nat.reduceMul, Nat.reduceLeDiff, Nat.add_lt_add_iff_right, Nat.lt_add_left_iff_pos, Nat.add_eq_zero_iff, decide_true, decide_false, eq_self, if_true, if_false, and_self, true_and, and_true, reduceCtorEq, ge_iff_le, Nat.le_refl, Nat.zero_le]
    refine WDX_split (fun h1 => ?_) (fun h1 => ?_) <;> simp only [h1, h0, h3, h5, hidx, O.c, getb, hnn, hσ, nvR, nvS, nvL, tF, Nat.reduceAdd, Nat.reduceLT, Nat.reduceEqDiff, Nat.reduceMul, Nat.reduceLeDiff, Nat.add_lt_add_iff_right, Nat.lt_add_left_iff_pos, Nat.add_eq_zero_iff, decide_true, decide_false, eq_self, if_true, if_false, and_self, true_and, and_true, reduceCtorEq, ge_iff_le, Nat.le_refl, Nat.zero_le]
    · refine condW_split (fun h2 => ?_) (fun h2 => ?_) <;> simp only [h0, h3, h5, hσ, nvR, nvS, nvL, tF, Nat.reduceAdd, Nat.reduceLT, Nat.reduceEqDiff, Nat.reduceMul, Nat.reduceLeDiff, Nat.add_lt_add_iff_right, Nat.lt_add_left_iff_pos, Nat.add_eq_zero_iff, decide_true, decide_false, eq_self, if_true, if_false, and_self, true_and, and_true, reduceCtorEq, ge_iff_le, Nat.le_refl, Nat.zero_le]
      · have hq : l[i].eq x = true := by simp only [O.eq, h1, h2, nvR, nvS, nvL, tF, Nat.reduceAdd, Nat.reduceLT, Nat.reduceEqDiff, Nat.reduceMul, Nat.reduceLeDiff, Nat.add_lt_add_iff_right, Nat.lt_add_left_iff_pos, Nat.add_eq_zero_iff, decide_true, decide_false, eq_self, if_true, if_false, and_self, true_and, and_true, reduceCtorEq, ge_iff_le, Nat.le_refl, Nat.zero_le]
        refine ⟨_, rfl, ?_⟩
        have : (l.any fun y => y.eq x) = true := List.any_eq_true.2 ⟨l[i], List.getElem_mem hi, hq⟩
        rw [this]
        rfl
      · have hq : l[i].eq x = false := by simp only [O.eq, h1, h2, nvR, nvS, nvL, tF, Nat.reduceAdd, Nat.reduceLT, Nat.reduceEqDiff, Nat.reduceMul, Nat.reduceLeDiff, Nat.add_lt_add_iff_right, Nat.lt_add_left_iff_pos, Nat.add_eq_zero_iff, decide_true, decide_false, eq_self, if_true, if_false, and_self, true_and, and_true, reduceCtorEq, ge_iff_le, Nat.le_refl, Nat.zero_le]
        refine loop_next (j - 1) (by omega) ⟨i + 1, _, by omega, rfl, by simp only [h0, nvR, nvS, nvL, tF, Nat.reduceAdd, Nat.reduceLT, Nat.reduceEqDiff, Nat.reduceMul, Nat.reduceLeDiff, Nat.add_lt_add_iff_right, Nat.lt_add_left_iff_pos, Nat.add_eq_zero_iff, decide_true, decide_false, eq_self, if_true, if_false, and_self, true_and, and_true, reduceCtorEq, ge_iff_le, Nat.le_refl, Nat.zero_le], by simp only [h3, nvR, nvS, nvL, tF, Nat.reduceAdd, Nat.reduceLT, Nat.reduceEqDiff, Nat.reduceMul, Nat.reduceLeDiff, Nat.add_lt_add_iff_right, Nat.lt_add_left_iff_pos, Nat.add_eq_zero_iff, decide_true, decide_false, eq_self, if_true, if_false, and_self, true_and, and_true, reduceCtorEq, ge_iff_le, Nat.le_refl, Nat.zero_le], ?_, by simp only [hnn, nvR, nvS, nvL, tF, Nat.reduceAdd, Nat.reduceLT, Nat.reduceEqDiff, Nat.reduceMul, Nat.reduceLeDiff, Nat.add_lt_add_iff_right, Nat.lt_add_left_iff_pos, Nat.add_eq_zero_iff, decide_true, decide_false, eq_self, if_true, if_false, and_self, true_and, and_true, reduceCtorEq, ge_iff_le, Nat.le_refl, Nat.zero_le], by simp only [hσ, nvR, nvS, nvL, tF, Nat.reduceAdd, Nat.reduceLT, Nat.reduceEqDiff, Nat.reduceMul, Nat.reduceLeDiff, Nat.add_lt_add_iff_right, Nat.lt_add_left_iff_pos, Nat.add_eq_zero_iff, decide_true, decide_false, eq_self, if_true, if_false, and_self, true_and, and_true, reduceCtorEq, ge_iff_le, Nat.le_refl, Nat.zero_le], fun k hk hkl => ?_⟩
        · simp only [nvR, nvS, nvL, tF, Nat.reduceAdd, Nat.reduceLT, Nat.reduceEqDiff, Nat.reduceMul, Nat.reduceLeDiff, Nat.add_lt_add_iff_right, Nat.lt_add_left_iff_pos, Nat.add_eq_zero_iff, decide_true, decide_false, eq_self, if_true, if_false, and_self, true_and, and_true, reduceCtorEq, ge_iff_le, Nat.le_refl, Nat.zero_le]
          rw [wrapF_id (by omega) (by omega)]
          rfl
        · by_cases hki : k = i
          · subst hki
            exact hq
          · exact hb' k (by omega) hkl
    · have hq : l[i].eq x = false := by simp only [O.eq, h1, nvR, nvS, nvL, tF, Nat.reduceAdd, Nat.reduceLT, Nat.reduceEqDiff, Nat.reduceMul, Nat.reduceLeDiff, Nat.add_lt_add_iff_right, Nat.lt_add_left_iff_pos, Nat.add_eq_zero_iff, decide_true, decide_false, eq_self, if_true, if_false, and_self, true_and, and_true, reduceCtorEq, ge_iff_le, Nat.le_refl, Nat.zero_le]
      refine loop_next (j - 1) (by omega) ⟨i + 1, _, by omega, rfl, by simp only [h0, nvR, nvS, nvL, tF, Nat.reduceAdd, Nat.reduceLT, Nat.reduceEqDiff, Nat.reduceMul, Nat.reduceLeDiff, Nat.add_lt_add_iff_right, Nat.lt_add_left_iff_pos, Nat.add_eq_zero_iff, decide_true, decide_false, eq_self, if_true, if_false, and_self, true_and, and_true, reduceCtorEq, ge_iff_le, Nat.le_refl, Nat.zero_le], by simp only [h3, nvR, nvS, nvL, tF, Nat.reduceAdd, Nat.reduceLT, Nat.reduceEqDiff, Nat.reduceMul, Nat.reduceLeDiff, Nat.add_lt_add_iff_right, Nat.lt_add_left_iff_pos, Nat.add_eq_zero_iff, decide_true, decide_false, eq_self, if_true, if_false, and_self, true_and, and_true, reduceCtorEq, ge_iff_le, Nat.le_refl, Nat.zero_le], ?_, by simp only [hnn, nvR, nvS, nvL, tF, Nat.reduceAdd, Nat.reduceLT, Nat.reduceEqDiff, Nat.reduceMul, Nat.reduceLeDiff, Nat.add_lt_add_iff_right, Nat.lt_add_left_iff_pos, Nat.add_eq_zero_iff, decide_true, decide_false, eq_self, if_true, if_false, and_self, true_and, and_true, reduceCtorEq, ge_iff_le, Nat.le_refl, Nat.zero_le], by simp only [hσ, nvR, nvS, nvL, tF, Nat.reduceAdd, Nat.reduceLT, Nat.reduceEqDiff, Nat.reduceMul, Nat.reduceLeDiff, Nat.add_lt_add_iff_right, Nat.lt_add_left_iff_pos, Nat.add_eq_zero_iff, decide_true, decide_false, eq_self, if_true, if_false, and_self, true_and, and_true, reduceCtorEq, ge_iff_le, Nat.le_refl, Nat.zero_le], fun k hk hkl => ?_⟩
      · simp only [nvR, nvS, nvL, tF, Nat.reduceAdd, Nat.reduceLT, Nat.reduceEqDiff, Nat.reduceMul, Nat.reduceLeDiff, Nat.add_lt_add_iff_right, Nat.lt_add_left_iff_pos, Nat.add_eq_zero_iff, decide_true, decide_false, eq_self, if_true, if_false, and_self, true_and, and_true, reduceCtorEq, ge_iff_le, Nat.le_refl, Nat.zero_le]
        rw [wrapF_id (by omega) (by omega)]
        rfl
      · by_cases hki : k = i
        · subst hki
          exact hq
        · exact hb' k (by omega) hkl
  · have hi : i = l.length := by
        (have h' : ¬ ((i : Int) < l.length) := (by simpa using h); omega)
    simp only [nvR, nvS, nvL, tF, Nat.reduceAdd, Nat.reduceLT, Nat.reduceEqDiff, Nat.reduceMul, Nat.reduceLeDiff, Nat.add_lt_add_iff_right, Nat.lt_add_left_iff_pos, Nat.add_eq_zero_iff, decide_true, decide_false, eq_self, if_true, if_false, and_self, true_and, and_true, reduceCtorEq, ge_iff_le, Nat.le_refl, Nat.zero_le]
    refine ⟨_, rfl, ?_⟩
    have : (l.any fun y => y.eq x) = false := by
      rw [List.any_eq_false]
      intro y hy
      obtain ⟨k, hk, rfl⟩ := List.getElem_of_mem hy
      rw [hb' k (by omega) hk]
      simp
    rw [this]
    rfl
theorem c16 (N : Nat) {a : AV} {l : List Rp} (x : Rp) (ha : Sl 10 a (l.map Rp.c)) (hl : l.length ≤ 40) : callPure Tryz.prog CT (run Tryz.prog CT (N + 300)) 16 [a, .agg x.c] = some (.bool (l.any fun y => y.eq x)) := by
  have hlen : lenV Tryz.prog 23 a = some (.int .i64 (l.length : Int)) := by rw [ha.len Tryz.underlying23, List.length_map]
  refine callPure_of rfl (CQ.of Tryz.func16 rfl (by simp [Tryz.f16]) ?_)
  simp only [Tryz.f16, hlen, Rp.c, nvR, nvS, nvL, tF, Nat.reduceAdd, Nat.reduceLT, Nat.reduceEqDiff, Nat.reduceMul, Nat.reduceLeDiff, Nat.add_lt_add_iff_right, Nat.lt_add_left_iff_pos, Nat.add_eq_zero_iff, decide_true, decide_false, eq_self, if_true, if_false, and_self, true_and, and_true, reduceCtorEq, ge_iff_le, Nat.le_refl, Nat.zero_le]
  refine W_loop (fun j fr σ => ∃ (i : Nat) (tm : PT AV), i + j = l.length ∧ fr = ⟨tm, 18, [], none⟩ ∧ tm.get 0 = some a ∧ tm.get 3 = some (.ptr 0 0) ∧ tm.get 5 = some (.int .i64 (i : Int)) ∧ 0 < σ.next ∧
      σ.get 0 = some (.cells 34 true x.c) ∧ ∀ j (hj : j < i), ∀ h : j < l.length, l[j].eq x = false) (k := l.length) (by omega)
    ⟨0, _, by omega, rfl, by simp only [nvR, nvS, nvL, tF, Nat.reduceAdd, Nat.reduceLT, Nat.reduceEqDiff, Nat.reduceMul, Nat.reduceLeDiff, Nat.add_lt_add_iff_right, Nat.lt_add_left_iff_pos, Nat.add_eq_zero_iff, decide_true, decide_false, eq_self, if_true, if_false, and_self, true_and, and_true, reduceCtorEq, ge_iff_le, Nat.le_refl, Nat.zero_le], by simp only [nvR, nvS, nvL, tF, Nat.reduceAdd, Nat.reduceLT, Nat.reduceEqDiff, Nat.reduceMul, Nat.reduceLeDiff, Nat.add_lt_add_iff_right, Nat.lt_add_left_iff_pos, Nat.add_eq_zero_iff, decide_true, decide_false, eq_self, if_true, if_false, and_self, true_and, and_true, reduceCtorEq, ge_iff_le, Nat.le_refl, Nat.zero_le], by simp only [nvR, nvS, nvL, tF, Nat.reduceAdd, Nat.reduceLT, Nat.reduceEqDiff, Nat.reduceMul, Nat.reduceLeDiff, Nat.add_lt_add_iff_right, Nat.lt_add_left_iff_pos, Nat.add_eq_zero_iff, decide_true, decide_false, eq_self, if_true, if_false, and_self, true_and, and_true, reduceCtorEq, ge_iff_le, Nat.le_refl, Nat.zero_le]; rfl, by simp only [nvR, nvS, nvL, tF, Nat.reduceAdd, Nat.reduceLT, Nat.reduceEqDiff, Nat.reduceMul, Nat.reduceLeDiff, Nat.add_lt_add_iff_right, Nat.lt_add_left_iff_pos, Nat.add_eq_zero_iff, decide_true, decide_false, eq_self, if_true, if_false, and_self, true_and, and_true, reduceCtorEq, ge_iff_le, Nat.le_refl, Nat.zero_le], by simp only [Rp.c, nvR, nvS, nvL, tF, Nat.reduceAdd, Nat.reduceLT, Nat.reduceEqDiff, Nat.reduceMul, Nat.reduceLeDiff, Nat.add_lt_add_iff_right, Nat.lt_add_left_iff_pos, Nat.add_eq_zero_iff, decide_true, decide_false, eq_self, if_true, if_false, and_self, true_and, and_true, reduceCtorEq, ge_iff_le, Nat.le_refl, Nat.zero_le], fun j hj => absurd hj (Nat.not_lt_zero _)⟩ ?_
  rintro j fr σ ⟨i, tm, hij, rfl, h0, h3, h5, hn, hσ, hb'⟩
  simp only [Rp.c] at hσ
  simp only [h0, h3, h5, hlen, nvR, nvS, nvL, tF, Nat.reduceAdd, Nat.reduceLT, Nat.reduceEqDiff, Nat.reduceMul, Nat.reduceLeDiff, Nat.add_lt_add_iff_right, Nat.lt_add_left_iff_pos, Nat.add_eq_zero_iff, decide_true, decide_false, eq_self, if_true, if_false, and_self, true_and, and_true, reduceCtorEq, ge_iff_le, Nat.le_refl, Nat.zero_le]
  refine condW_split (fun h => ?_) (fun h => ?_)
  · have hi : i < l.length := by simpa using h
    have hidx := ha.idx (P := Tryz.prog) (k := i) Tryz.underlying23 (by kernel_rfl) (by simpa using hi)
    rw [List.getElem_map] at hidx
    simp only [nvR, nvS, nvL, tF, Nat.reduceAdd, Nat.reduceLT, Nat.reduceEqDiff, Nat.reduceMul, Nat.reduceLeDiff, Nat.add_lt_add_iff_right, Nat.lt_add_left_iff_pos, Nat.add_eq_zero_iff, decide_true, decide_false, eq_self, if_true, if_false, and_self, true_and, and_true, reduceCtorEq, ge_iff_le, Nat.le_refl, Nat.zero_le]
    refine W_draw [] (by kernel_rfl) (by kernel_rfl) ?_
    have hnn : ∀ k, (0 < σ.next + k) = True := fun k => eq_true (by omega)
    have getb : ∀ (ops : Array Oper) (base i b : Nat) (σ : Heap), b < base → getLim σ (limD ops base i) b = σ.get b := fun _ _ _ _ _ h => getLim_old h
    have hx : ∀ d, isPure (d + 1) x.l = true := fun d => x.h.pure
    have hy : ∀ d, isPure (d + 1) l[i].l = true := fun d => l[i].h.pure
    have e1 := fun N => c28 N l[i] x
    simp only [Rp.c] at e1
    simp only [h0, h3, h5, hidx, Rp.c, getb, hnn, hσ, hx, hy, e1, nvR, nvS, nvL, tF, Nat.reduceAdd, Nat.reduceLT, Nat.reduceEqDiff, Nat.reduceMul, Nat.reduceLeDiff, Nat.add_lt_add_iff_right, Nat.lt_add_left_iff_pos, Nat.add_eq_zero_iff, decide_true, decide_false, eq_self, if_true, if_false, and_self, true_and, and_true, reduceCtorEq, ge_iff_le, Nat.le_refl, Nat.zero_le]
    refine condW_split (fun hq => ?_) (fun hq => ?_) <;> simp only [h0, h3, h5, hσ, nvR, nvS, nvL, tF, Nat.reduceAdd, Nat.reduceLT, Nat.reduceEqDiff, Nat.reduceMul, Nat.reduceLeDiff, Nat.add_lt_add_iff_right, Nat.lt_add_left_iff_pos, Nat.add_eq_zero_iff, decide_true, decide_false, eq_self, if_true, if_false, and_self, true_and, and_true, reduceCtorEq, ge_iff_le, Nat.le_refl, Nat.zero_le]
    · refine ⟨_, rfl, ?_⟩
      have : (l.any fun y => y.eq x) = true := List.any_eq_true.2 ⟨l[i], List.getElem_mem hi, hq⟩
      rw [this]
      rfl
    · refine loop_next (j - 1) (by omega) ⟨i + 1, _, by omega, rfl, by simp only [h0, nvR, nvS, nvL, tF, Nat.reduceAdd, Nat.reduceLT, Nat.reduceEqDiff, Nat.reduceMul, Nat.reduceLeDiff, Nat.add_lt_add_iff_right, Nat.lt_add_left_iff_pos, Nat.add_eq_zero_iff, decide_true, decide_false, eq_self, if_true, if_false, and_self, true_and, and_true, reduceCtorEq, ge_iff_le, Nat.le_refl, Nat.zero_le], by simp only [h3, nvR, nvS, nvL, tF, Nat.reduceAdd, Nat.reduceLT, Nat.reduceEqDiff, Nat.reduceMul, Nat.reduceLeDiff, Nat.add_lt_add_iff_right, Nat.lt_add_left_iff_pos, Nat.add_eq_zero_iff, decide_true, decide_false, eq_self, if_true, if_false, and_self, true_and, and_true, reduceCtorEq, ge_iff_le, Nat.le_refl, Nat.zero_le], ?_, by simp only [hnn, nvR, nvS, nvL, tF, Nat.reduceAdd, Nat.reduceLT, Nat.reduceEqDiff, Nat.reduceMul, Nat.reduceLeDiff, Nat.add_lt_add_iff_right, Nat.lt_add_left_iff_pos, Nat.add_eq_zero_iff, decide_true, decide_false, eq_self, if_true, if_false, and_self, true_and, and_true, reduceCtorEq, ge_iff_le, Nat.le_refl, Nat.zero_le], by simp only [hσ, nvR, nvS, nvL, tF, Nat.reduceAdd, Nat.reduceLT, Nat.reduceEqDiff, Nat.reduceMul, Nat.reduceLeDiff, Nat.add_lt_add_iff_right, Nat.lt_add_left_iff_pos, Nat.add_eq_zero_iff, decide_true, decide_false, eq_self, if_true, if_false, and_self, true_and, and_true, reduceCtorEq, ge_iff_le, Nat.le_refl, Nat.zero_le], fun k hk hkl => ?_⟩
      · simp only [nvR, nvS, nvL, tF, Nat.reduceAdd, Nat.reduceLT, Nat.reduceEqDiff, Nat.reduceMul, Nat.reduceLeDiff, Nat.add_lt_add_iff_right, Nat.lt_add_left_iff_pos, Nat.add_eq_zero_iff, decide_true, decide_false, eq_self, if_true, if_false, and_self, true_and, and_true, reduceCtorEq, ge_iff_le, Nat.le_refl, Nat.zero_le]
        rw [wrapF_id (by omega) (by omega)]
        rfl
      · by_cases hki : k = i
        · subst hki
          exact hq
        · exact hb' k (by omega) hkl
  · have hi : i = l.length := by
        (have h' : ¬ ((i : Int) < l.length) := (by simpa using h); omega)
    simp only [nvR, nvS, nvL, tF, Nat.reduceAdd, Nat.reduceLT, Nat.reduceEqDiff, Nat.reduceMul, Nat.reduceLeDiff, Nat.add_lt_add_iff_right, Nat.lt_add_left_iff_pos, Nat.add_eq_zero_iff, decide_true, decide_false, eq_self, if_true, if_false, and_self, true_and, and_true, reduceCtorEq, ge_iff_le, Nat.le_refl, Nat.zero_le]
    refine ⟨_, rfl, ?_⟩
    have : (l.any fun y => y.eq x) = false := by
      rw [List.any_eq_false]
      intro y hy
      obtain ⟨k, hk, rfl⟩ := List.getElem_of_mem hy
      rw [hb' k (by omega) hk]
      simp
    rw [this]
    rfl
/-- An exploration. -/
structure X where
  d : Bool
  n : Int
  m : Int
  oa : AV
  ol : List O
  fa : AV
  fl : List Rp
  ho : Sl 3 oa (ol.map O.c)
  hf : Sl 10 fa (fl.map Rp.c)
def X.c (x : X) : List AV := [.bool x.d, .int .i64 x.n, .int .i64 x.m, x.oa, x.fa]
def X.small (x : X) : Prop := x.ol.length ≤ 40 ∧ x.fl.length ≤ 40
def X.same (x y : X) : Bool := (x.ol.all fun a => y.ol.any fun b => a.eq b) && ((y.ol.all fun a => x.ol.any fun b => a.eq b) && ((x.fl.all fun a => y.fl.any fun b => a.eq b) && (y.fl.all fun a => x.fl.any fun b => a.eq b)))
theorem c6 (N : Nat) (x y : X) (hx : x.small) (hy : y.small) : callPure Tryz.prog CT (run Tryz.prog CT (N + 400)) 6 [.agg x.c, .agg y.c] = some (.bool (x.same y)) := by
  have p1 : ∀ d, isPure (d + 1) x.oa = true := fun d => x.ho.pure
  have p2 : ∀ d, isPure (d + 1) x.fa = true := fun d => x.hf.pure
  have p3 : ∀ d, isPure (d + 1) y.oa = true := fun d => y.ho.pure
  have p4 : ∀ d, isPure (d + 1) y.fa = true := fun d => y.hf.pure
  have e1 := fun N => c11 N x.ho y.ho hx.1 hy.1
  have e2 := fun N => c11 N y.ho x.ho hy.1 hx.1
  have e3 := fun N => c13 N x.hf y.hf hx.2 hy.2
  have e4 := fun N => c13 N y.hf x.hf hy.2 hx.2
  refine callPure_of rfl (CQ.of Tryz.func6 rfl (by simp [Tryz.f6]) ?_)
  simp only [Tryz.f6, X.c, p1, p2, p3, p4, e1, e2, e3, e4, nvR, nvS, nvL, tF, Nat.reduceAdd, Nat.reduceLT, Nat.reduceEqDiff, Nat.reduceMul, Nat.reduceLeDiff, Nat.add_lt_add_iff_right, Nat.lt_add_left_iff_pos, Nat.add_eq_zero_iff, decide_true, decide_false, eq_self, if_true, if_false, and_self, true_and, and_true, reduceCtorEq, ge_iff_le, Nat.le_refl, Nat.zero_le]
  refine WX_split (fun h1 => ?_) (fun h1 => ?_) <;> simp only [h1, p1, p2, p3, p4, e1, e2, e3, e4, nvR, nvS, nvL, tF, Nat.reduceAdd, Nat.reduceLT, Nat.reduceEqDiff, Nat.reduceMul, Nat.reduceLeDiff, Nat.add_lt_add_iff_right, Nat.lt_add_left_iff_pos, Nat.add_eq_zero_iff, decide_true, decide_false, eq_self, if_true, if_false, and_self, true_and, and_true, reduceCtorEq, ge_iff_le, Nat.le_refl, Nat.zero_le]
  · refine WX_split (fun h2 => ?_) (fun h2 => ?_) <;> simp only [h2, p1, p2, p3, p4, e1, e2, e3, e4, nvR, nvS, nvL, tF, Nat.reduceAdd, Nat.reduceLT, Nat.reduceEqDiff, Nat.reduceMul, Nat.reduceLeDiff, Nat.add_lt_add_iff_right, Nat.lt_add_left_iff_pos, Nat.add_eq_zero_iff, decide_true, decide_false, eq_self, if_true, if_false, and_self, true_and, and_true, reduceCtorEq, ge_iff_le, Nat.le_refl, Nat.zero_le]
    · refine WX_split (fun h3 => ?_) (fun h3 => ?_) <;> simp only [h3, p1, p2, p3, p4, e1, e2, e3, e4, nvR, nvS, nvL, tF, Nat.reduceAdd, Nat.reduceLT, Nat.reduceEqDiff, Nat.reduceMul, Nat.reduceLeDiff, Nat.add_lt_add_iff_right, Nat.lt_add_left_iff_pos, Nat.add_eq_zero_iff, decide_true, decide_false, eq_self, if_true, if_false, and_self, true_and, and_true, reduceCtorEq, ge_iff_le, Nat.le_refl, Nat.zero_le]
      · exact ⟨_, rfl, by simp only [X.same, h1, h2, h3, nvR, nvS, nvL, tF, Nat.reduceAdd, Nat.reduceLT, Nat.reduceEqDiff, Nat.reduceMul, Nat.reduceLeDiff, Nat.add_lt_add_iff_right, Nat.lt_add_left_iff_pos, Nat.add_eq_zero_iff, decide_true, decide_false, eq_self, if_true, if_false, and_self, true_and, and_true, reduceCtorEq, ge_iff_le, Nat.le_refl, Nat.zero_le]⟩
      · exact ⟨_, rfl, by simp only [X.same, h1, h2, h3, nvR, nvS, nvL, tF, Nat.reduceAdd, Nat.reduceLT, Nat.reduceEqDiff, Nat.reduceMul, Nat.reduceLeDiff, Nat.add_lt_add_iff_right, Nat.lt_add_left_iff_pos, Nat.add_eq_zero_iff, decide_true, decide_false, eq_self, if_true, if_false, and_self, true_and, and_true, reduceCtorEq, ge_iff_le, Nat.le_refl, Nat.zero_le]⟩
    · exact ⟨_, rfl, by simp only [X.same, h1, h2, nvR, nvS, nvL, tF, Nat.reduceAdd, Nat.reduceLT, Nat.reduceEqDiff, Nat.reduceMul, Nat.reduceLeDiff, Nat.add_lt_add_iff_right, Nat.lt_add_left_iff_pos, Nat.add_eq_zero_iff, decide_true, decide_false, eq_self, if_true, if_false, and_self, true_and, and_true, reduceCtorEq, ge_iff_le, Nat.le_refl, Nat.zero_le]⟩
  · exact ⟨_, rfl, by simp only [X.same, h1, nvR, nvS, nvL, tF, Nat.reduceAdd, Nat.reduceLT, Nat.reduceEqDiff, Nat.reduceMul, Nat.reduceLeDiff, Nat.add_lt_add_iff_right, Nat.lt_add_left_iff_pos, Nat.add_eq_zero_iff, decide_true, decide_false, eq_self, if_true, if_false, and_self, true_and, and_true, reduceCtorEq, ge_iff_le, Nat.le_refl, Nat.zero_le]⟩
theorem O.eq_comm (x y : O) : x.eq y = y.eq x := by simp only [O.eq, _root_.eq_comm]
theorem Rp.eq_comm (x y : Rp) : x.eq y = y.eq x := by simp only [Rp.eq, _root_.eq_comm]
theorem c7 (N : Nat) (x y : X) (hx : x.small) (hy : y.small) : callPure Tryz.prog CT (run Tryz.prog CT (N + 400)) 7 [.agg x.c, .agg y.c] = some (.bool (x.same y)) := by
  refine callPure_of rfl (CQ.of Tryz.func7 rfl (by simp [Tryz.f7]) ?_)
  simp only [Tryz.f7, X.c, nvR, nvS, nvL, tF, Nat.reduceAdd, Nat.reduceLT, Nat.reduceEqDiff, Nat.reduceMul, Nat.reduceLeDiff, Nat.add_lt_add_iff_right, Nat.lt_add_left_iff_pos, Nat.add_eq_zero_iff, decide_true, decide_false, eq_self, if_true, if_false, and_self, true_and, and_true, reduceCtorEq, ge_iff_le, Nat.le_refl, Nat.zero_le]
  refine W_loop (fun j fr σ => ∃ (i : Nat) (tm : PT AV), i + j = x.ol.length ∧ fr = ⟨tm, 73, [], none⟩ ∧ tm.get 2 = some (.ptr 0 0) ∧ tm.get 3 = some (.ptr 1 0) ∧ tm.get 5 = some (.int .i64 (i : Int)) ∧ 1 < σ.next ∧
      σ.get 0 = some (.cells 25 true x.c) ∧ σ.get 1 = some (.cells 25 true y.c) ∧ ∀ j (hj : j < i), ∀ h : j < x.ol.length, (y.ol.any fun b => b.eq x.ol[j]) = true) (k := x.ol.length) (by have := hx.1; have := hx.2; have := hy.1; have := hy.2; omega)
    ⟨0, _, by omega, rfl, by simp only [nvR, nvS, nvL, tF, Nat.reduceAdd, Nat.reduceLT, Nat.reduceEqDiff, Nat.reduceMul, Nat.reduceLeDiff, Nat.add_lt_add_iff_right, Nat.lt_add_left_iff_pos, Nat.add_eq_zero_iff, decide_true, decide_false, eq_self, if_true, if_false, and_self, true_and, and_true, reduceCtorEq, ge_iff_le, Nat.le_refl, Nat.zero_le], by simp only [nvR, nvS, nvL, tF, Nat.reduceAdd, Nat.reduceLT, Nat.reduceEqDiff, Nat.reduceMul, Nat.reduceLeDiff, Nat.add_lt_add_iff_right, Nat.lt_add_left_iff_pos, Nat.add_eq_zero_iff, decide_true, decide_false, eq_self, if_true, if_false, and_self, true_and, and_true, reduceCtorEq, ge_iff_le, Nat.le_refl, Nat.zero_le], by simp only [nvR, nvS, nvL, tF, Nat.reduceAdd, Nat.reduceLT, Nat.reduceEqDiff, Nat.reduceMul, Nat.reduceLeDiff, Nat.add_lt_add_iff_right, Nat.lt_add_left_iff_pos, Nat.add_eq_zero_iff, decide_true, decide_false, eq_self, if_true, if_false, and_self, true_and, and_true, reduceCtorEq, ge_iff_le, Nat.le_refl, Nat.zero_le]; rfl, by simp only [nvR, nvS, nvL, tF, Nat.reduceAdd, Nat.reduceLT, Nat.reduceEqDiff, Nat.reduceMul, Nat.reduceLeDiff, Nat.add_lt_add_iff_right, Nat.lt_add_left_iff_pos, Nat.add_eq_zero_iff, decide_true, decide_false, eq_self, if_true, if_false, and_self, true_and, and_true, reduceCtorEq, ge_iff_le, Nat.le_refl, Nat.zero_le], by simp only [X.c, nvR, nvS, nvL, tF, Nat.reduceAdd, Nat.reduceLT, Nat.reduceEqDiff, Nat.reduceMul, Nat.reduceLeDiff, Nat.add_lt_add_iff_right, Nat.lt_add_left_iff_pos, Nat.add_eq_zero_iff, decide_true, decide_false, eq_self, if_true, if_false, and_self, true_and, and_true, reduceCtorEq, ge_iff_le, Nat.le_refl, Nat.zero_le], by simp only [X.c, nvR, nvS, nvL, tF, Nat.reduceAdd, Nat.reduceLT, Nat.reduceEqDiff, Nat.reduceMul, Nat.reduceLeDiff, Nat.add_lt_add_iff_right, Nat.lt_add_left_iff_pos, Nat.add_eq_zero_iff, decide_true, decide_false, eq_self, if_true, if_false, and_self, true_and, and_true, reduceCtorEq, ge_iff_le, Nat.le_refl, Nat.zero_le], fun j hj => absurd hj (Nat.not_lt_zero _)⟩ ?_
  skip
  rintro j fr σ ⟨i, tm, hij, rfl, h2, h3, h5, hn, hσ0, hσ1, hb'⟩
  have hnn : ∀ k, (0 < σ.next + k) = True := fun k => eq_true (by omega)
  have hnm : ∀ k, (1 < σ.next + k) = True := fun k => eq_true (by omega)
  simp only [X.c] at hσ0 hσ1
  have hlen : lenV Tryz.prog 22 x.oa = some (.int .i64 (x.ol.length : Int)) := by rw [x.ho.len Tryz.underlying22, List.length_map]
  simp only [h2, h3, h5, hσ0, hσ1, hlen, nvR, nvS, nvL, tF, Nat.reduceAdd, Nat.reduceLT, Nat.reduceEqDiff, Nat.reduceMul, Nat.reduceLeDiff, Nat.add_lt_add_iff_right, Nat.lt_add_left_iff_pos, Nat.add_eq_zero_iff, decide_true, decide_false, eq_self, if_true, if_false, and_self, true_and, and_true, reduceCtorEq, ge_iff_le, Nat.le_refl, Nat.zero_le]
  refine condW_split (fun h => ?_) (fun h => ?_)
  · have hi : i < x.ol.length := by simpa using h
    have hidx := x.ho.idx (P := Tryz.prog) (k := i) Tryz.underlying22 (by kernel_rfl) (by simpa using hi)
    rw [List.getElem_map] at hidx
    simp only [nvR, nvS, nvL, tF, Nat.reduceAdd, Nat.reduceLT, Nat.reduceEqDiff, Nat.reduceMul, Nat.reduceLeDiff, Nat.add_lt_add_iff_right, Nat.lt_add_left_iff_pos, Nat.add_eq_zero_iff, decide_true, decide_false, eq_self, if_true, if_false, and_self, true_and, and_true, reduceCtorEq, ge_iff_le, Nat.le_refl, Nat.zero_le]
    refine W_draw [] (by kernel_rfl) (by kernel_rfl) ?_
    have hy' : ∀ d, isPure (d + 1) x.ol[i].o = true := fun d => x.ol[i].h.pure
    have hp' : ∀ d, isPure (d + 1) y.oa = true := fun d => y.ho.pure
    have getb : ∀ (ops : Array Oper) (base i b : Nat) (σ : Heap), b < base → getLim σ (limD ops base i) b = σ.get b := fun _ _ _ _ _ h => getLim_old h
    have e1 := fun N => c15 N x.ol[i] y.ho hy.1
    simp only [O.c] at e1
    simp only [h2, h3, h5, hσ0, hσ1, hidx, O.c, getb, hnn, hnm, hy', hp', e1, nvR, nvS, nvL, tF, Nat.reduceAdd, Nat.reduceLT, Nat.reduceEqDiff, Nat.reduceMul, Nat.reduceLeDiff, Nat.add_lt_add_iff_right, Nat.lt_add_left_iff_pos, Nat.add_eq_zero_iff, decide_true, decide_false, eq_self, if_true, if_false, and_self, true_and, and_true, reduceCtorEq, ge_iff_le, Nat.le_refl, Nat.zero_le]
    refine condW_split (fun hq => ?_) (fun hq => ?_) <;> simp only [h2, h3, h5, hσ0, hσ1, nvR, nvS, nvL, tF, Nat.reduceAdd, Nat.reduceLT, Nat.reduceEqDiff, Nat.reduceMul, Nat.reduceLeDiff, Nat.add_lt_add_iff_right, Nat.lt_add_left_iff_pos, Nat.add_eq_zero_iff, decide_true, decide_false, eq_self, if_true, if_false, and_self, true_and, and_true, reduceCtorEq, ge_iff_le, Nat.le_refl, Nat.zero_le]
    · refine ⟨_, rfl, ?_⟩
      have hf : (x.ol.all fun a => y.ol.any fun b => a.eq b) = false := by
        rw [List.all_eq_false]
        refine ⟨x.ol[i], List.getElem_mem hi, ?_⟩
        simp only [O.eq_comm x.ol[i]]
        simpa using hq
      simp only [X.same, hf, nvR, nvS, nvL, tF, Nat.reduceAdd, Nat.reduceLT, Nat.reduceEqDiff, Nat.reduceMul, Nat.reduceLeDiff, Nat.add_lt_add_iff_right, Nat.lt_add_left_iff_pos, Nat.add_eq_zero_iff, decide_true, decide_false, eq_self, if_true, if_false, and_self, true_and, and_true, reduceCtorEq, ge_iff_le, Nat.le_refl, Nat.zero_le]
    · refine loop_next (j - 1) (by omega) ⟨i + 1, _, by omega, rfl, by simp only [h2, nvR, nvS, nvL, tF, Nat.reduceAdd, Nat.reduceLT, Nat.reduceEqDiff, Nat.reduceMul, Nat.reduceLeDiff, Nat.add_lt_add_iff_right, Nat.lt_add_left_iff_pos, Nat.add_eq_zero_iff, decide_true, decide_false, eq_self, if_true, if_false, and_self, true_and, and_true, reduceCtorEq, ge_iff_le, Nat.le_refl, Nat.zero_le], by simp only [h3, nvR, nvS, nvL, tF, Nat.reduceAdd, Nat.reduceLT, Nat.reduceEqDiff, Nat.reduceMul, Nat.reduceLeDiff, Nat.add_lt_add_iff_right, Nat.lt_add_left_iff_pos, Nat.add_eq_zero_iff, decide_true, decide_false, eq_self, if_true, if_false, and_self, true_and, and_true, reduceCtorEq, ge_iff_le, Nat.le_refl, Nat.zero_le], ?_, by simp only [hnm, hnn, nvR, nvS, nvL, tF, Nat.reduceAdd, Nat.reduceLT, Nat.reduceEqDiff, Nat.reduceMul, Nat.reduceLeDiff, Nat.add_lt_add_iff_right, Nat.lt_add_left_iff_pos, Nat.add_eq_zero_iff, decide_true, decide_false, eq_self, if_true, if_false, and_self, true_and, and_true, reduceCtorEq, ge_iff_le, Nat.le_refl, Nat.zero_le], by simp only [hσ0, X.c, nvR, nvS, nvL, tF, Nat.reduceAdd, Nat.reduceLT, Nat.reduceEqDiff, Nat.reduceMul, Nat.reduceLeDiff, Nat.add_lt_add_iff_right, Nat.lt_add_left_iff_pos, Nat.add_eq_zero_iff, decide_true, decide_false, eq_self, if_true, if_false, and_self, true_and, and_true, reduceCtorEq, ge_iff_le, Nat.le_refl, Nat.zero_le], by simp only [hσ1, X.c, nvR, nvS, nvL, tF, Nat.reduceAdd, Nat.reduceLT, Nat.reduceEqDiff, Nat.reduceMul, Nat.reduceLeDiff, Nat.add_lt_add_iff_right, Nat.lt_add_left_iff_pos, Nat.add_eq_zero_iff, decide_true, decide_false, eq_self, if_true, if_false, and_self, true_and, and_true, reduceCtorEq, ge_iff_le, Nat.le_refl, Nat.zero_le], fun k hk hkl => ?_⟩
      · simp only [nvR, nvS, nvL, tF, Nat.reduceAdd, Nat.reduceLT, Nat.reduceEqDiff, Nat.reduceMul, Nat.reduceLeDiff, Nat.add_lt_add_iff_right, Nat.lt_add_left_iff_pos, Nat.add_eq_zero_iff, decide_true, decide_false, eq_self, if_true, if_false, and_self, true_and, and_true, reduceCtorEq, ge_iff_le, Nat.le_refl, Nat.zero_le]
        rw [wrapF_id (by have := hx.1; have := hx.2; have := hy.1; have := hy.2; omega) (by have := hx.1; have := hx.2; have := hy.1; have := hy.2; omega)]
        rfl
      · by_cases hki : k = i
        · subst hki
          simpa using hq
        · exact hb' k (by omega) hkl
  · have hi : i = x.ol.length := by
        (have h' : ¬ ((i : Int) < x.ol.length) := (by simpa using h); omega)
    have hd0 : (x.ol.all fun a => y.ol.any fun b => a.eq b) = true := by
      rw [List.all_eq_true]
      intro a ha
      obtain ⟨k, hk, rfl⟩ := List.getElem_of_mem ha
      simp only [O.eq_comm x.ol[k]]
      exact hb' k (by omega) hk
    simp only [h2, h3, hσ0, hσ1, nvR, nvS, nvL, tF, Nat.reduceAdd, Nat.reduceLT, Nat.reduceEqDiff, Nat.reduceMul, Nat.reduceLeDiff, Nat.add_lt_add_iff_right, Nat.lt_add_left_iff_pos, Nat.add_eq_zero_iff, decide_true, decide_false, eq_self, if_true, if_false, and_self, true_and, and_true, reduceCtorEq, ge_iff_le, Nat.le_refl, Nat.zero_le]
    refine W_loop (fun j fr σ => ∃ (i : Nat) (tm : PT AV), i + j = y.ol.length ∧ fr = ⟨tm, 73, [], none⟩ ∧ tm.get 2 = some (.ptr 0 0) ∧ tm.get 3 = some (.ptr 1 0) ∧ tm.get 6 = some (.int .i64 (i : Int)) ∧ 1 < σ.next ∧
        σ.get 0 = some (.cells 25 true x.c) ∧ σ.get 1 = some (.cells 25 true y.c) ∧ ∀ j (hj : j < i), ∀ h : j < y.ol.length, (x.ol.any fun b => b.eq y.ol[j]) = true) (k := y.ol.length) (by have := hx.1; have := hx.2; have := hy.1; have := hy.2; omega)
      ⟨0, _, by omega, rfl, by simp only [h2, h3, nvR, nvS, nvL, tF, Nat.reduceAdd, Nat.reduceLT, Nat.reduceEqDiff, Nat.reduceMul, Nat.reduceLeDiff, Nat.add_lt_add_iff_right, Nat.lt_add_left_iff_pos, Nat.add_eq_zero_iff, decide_true, decide_false, eq_self, if_true, if_false, and_self, true_and, and_true, reduceCtorEq, ge_iff_le, Nat.le_refl, Nat.zero_le], by simp only [h2, h3, nvR, nvS, nvL, tF, Nat.reduceAdd, Nat.reduceLT, Nat.reduceEqDiff, Nat.reduceMul, Nat.reduceLeDiff, Nat.add_lt_add_iff_right, Nat.lt_add_left_iff_pos, Nat.add_eq_zero_iff, decide_true, decide_false, eq_self, if_true, if_false, and_self, true_and, and_true, reduceCtorEq, ge_iff_le, Nat.le_refl, Nat.zero_le], by simp only [nvR, nvS, nvL, tF, Nat.reduceAdd, Nat.reduceLT, Nat.reduceEqDiff, Nat.reduceMul, Nat.reduceLeDiff, Nat.add_lt_add_iff_right, Nat.lt_add_left_iff_pos, Nat.add_eq_zero_iff, decide_true, decide_false, eq_self, if_true, if_false, and_self, true_and, and_true, reduceCtorEq, ge_iff_le, Nat.le_refl, Nat.zero_le]; rfl, by first | omega | (simp only [nvR, nvS, nvL, tF, Nat.reduceAdd, Nat.reduceLT, Nat.reduceEqDiff, Nat.reduceMul, Nat.reduceLeDiff, Nat.add_lt_add_iff_right, Nat.lt_add_left_iff_pos, Nat.add_eq_zero_iff, decide_true, decide_false, eq_self, if_true, if_false, and_self, true_and, and_true, reduceCtorEq, ge_iff_le, Nat.le_refl, Nat.zero_le]; omega), by simp only [X.c, hσ0, nvR, nvS, nvL, tF, Nat.reduceAdd, Nat.reduceLT, Nat.reduceEqDiff, Nat.reduceMul, Nat.reduceLeDiff, Nat.add_lt_add_iff_right, Nat.lt_add_left_iff_pos, Nat.add_eq_zero_iff, decide_true, decide_false, eq_self, if_true, if_false, and_self, true_and, and_true, reduceCtorEq, ge_iff_le, Nat.le_refl, Nat.zero_le], by simp only [X.c, hσ1, nvR, nvS, nvL, tF, Nat.reduceAdd, Nat.reduceLT, Nat.reduceEqDiff, Nat.reduceMul, Nat.reduceLeDiff, Nat.add_lt_add_iff_right, Nat.lt_add_left_iff_pos, Nat.add_eq_zero_iff, decide_true, decide_false, eq_self, if_true, if_false, and_self, true_and, and_true, reduceCtorEq, ge_iff_le, Nat.le_refl, Nat.zero_le], fun j hj => absurd hj (Nat.not_lt_zero _)⟩ ?_
    clear hn hσ0 hσ1 h2 h3 hb'
    rintro j fr σ ⟨i, tm, hij, rfl, h2, h3, h5, hn, hσ0, hσ1, hb'⟩
    have hnn : ∀ k, (0 < σ.next + k) = True := fun k => eq_true (by omega)
    have hnm : ∀ k, (1 < σ.next + k) = True := fun k => eq_true (by omega)
    simp only [X.c] at hσ0 hσ1
    have hlen : lenV Tryz.prog 22 y.oa = some (.int .i64 (y.ol.length : Int)) := by rw [y.ho.len Tryz.underlying22, List.length_map]
    simp only [h2, h3, h5, hσ0, hσ1, hlen, nvR, nvS, nvL, tF, Nat.reduceAdd, Nat.reduceLT, Nat.reduceEqDiff, Nat.reduceMul, Nat.reduceLeDiff, Nat.add_lt_add_iff_right, Nat.lt_add_left_iff_pos, Nat.add_eq_zero_iff, decide_true, decide_false, eq_self, if_true, if_false, and_self, true_and, and_true, reduceCtorEq, ge_iff_le, Nat.le_refl, Nat.zero_le]
    refine condW_split (fun h => ?_) (fun h => ?_)
    · have hi : i < y.ol.length := by simpa using h
      have hidx := y.ho.idx (P := Tryz.prog) (k := i) Tryz.underlying22 (by kernel_rfl) (by simpa using hi)
      rw [List.getElem_map] at hidx
      simp only [nvR, nvS, nvL, tF, Nat.reduceAdd, Nat.reduceLT, Nat.reduceEqDiff, Nat.reduceMul, Nat.reduceLeDiff, Nat.add_lt_add_iff_right, Nat.lt_add_left_iff_pos, Nat.add_eq_zero_iff, decide_true, decide_false, eq_self, if_true, if_false, and_self, true_and, and_true, reduceCtorEq, ge_iff_le, Nat.le_refl, Nat.zero_le]
      refine W_draw [] (by kernel_rfl) (by kernel_rfl) ?_
      have hy' : ∀ d, isPure (d + 1) y.ol[i].o = true := fun d => y.ol[i].h.pure
      have hp' : ∀ d, isPure (d + 1) x.oa = true := fun d => x.ho.pure
      have getb : ∀ (ops : Array Oper) (base i b : Nat) (σ : Heap), b < base → getLim σ (limD ops base i) b = σ.get b := fun _ _ _ _ _ h => getLim_old h
      have e1 := fun N => c15 N y.ol[i] x.ho hx.1
      simp only [O.c] at e1
      simp only [h2, h3, h5, hσ0, hσ1, hidx, O.c, getb, hnn, hnm, hy', hp', e1, nvR, nvS, nvL, tF, Nat.reduceAdd, Nat.reduceLT, Nat.reduceEqDiff, Nat.reduceMul, Nat.reduceLeDiff, Nat.add_lt_add_iff_right, Nat.lt_add_left_iff_pos, Nat.add_eq_zero_iff, decide_true, decide_false, eq_self, if_true, if_false, and_self, true_and, and_true, reduceCtorEq, ge_iff_le, Nat.le_refl, Nat.zero_le]
      refine condW_split (fun hq => ?_) (fun hq => ?_) <;> simp only [h2, h3, h5, hσ0, hσ1, nvR, nvS, nvL, tF, Nat.reduceAdd, Nat.reduceLT, Nat.reduceEqDiff, Nat.reduceMul, Nat.reduceLeDiff, Nat.add_lt_add_iff_right, Nat.lt_add_left_iff_pos, Nat.add_eq_zero_iff, decide_true, decide_false, eq_self, if_true, if_false, and_self, true_and, and_true, reduceCtorEq, ge_iff_le, Nat.le_refl, Nat.zero_le]
      · refine ⟨_, rfl, ?_⟩
        have hf : (y.ol.all fun a => x.ol.any fun b => a.eq b) = false := by
          rw [List.all_eq_false]
          refine ⟨y.ol[i], List.getElem_mem hi, ?_⟩
          simp only [O.eq_comm y.ol[i]]
          simpa using hq
        simp only [X.same, hf, hd0, nvR, nvS, nvL, tF, Nat.reduceAdd, Nat.reduceLT, Nat.reduceEqDiff, Nat.reduceMul, Nat.reduceLeDiff, Nat.add_lt_add_iff_right, Nat.lt_add_left_iff_pos, Nat.add_eq_zero_iff, decide_true, decide_false, eq_self, if_true, if_false, and_self, true_and, and_true, reduceCtorEq, ge_iff_le, Nat.le_refl, Nat.zero_le]
      · refine loop_next (j - 1) (by omega) ⟨i + 1, _, by omega, rfl, by simp only [h2, nvR, nvS, nvL, tF, Nat.reduceAdd, Nat.reduceLT, Nat.reduceEqDiff, Nat.reduceMul, Nat.reduceLeDiff, Nat.add_lt_add_iff_right, Nat.lt_add_left_iff_pos, Nat.add_eq_zero_iff, decide_true, decide_false, eq_self, if_true, if_false, and_self, true_and, and_true, reduceCtorEq, ge_iff_le, Nat.le_refl, Nat.zero_le], by simp only [h3, nvR, nvS, nvL, tF, Nat.reduceAdd, Nat.reduceLT, Nat.reduceEqDiff, Nat.reduceMul, Nat.reduceLeDiff, Nat.add_lt_add_iff_right, Nat.lt_add_left_iff_pos, Nat.add_eq_zero_iff, decide_true, decide_false, eq_self, if_true, if_false, and_self, true_and, and_true, reduceCtorEq, ge_iff_le, Nat.le_refl, Nat.zero_le], ?_, by simp only [hnm, hnn, nvR, nvS, nvL, tF, Nat.reduceAdd, Nat.reduceLT, Nat.reduceEqDiff, Nat.reduceMul, Nat.reduceLeDiff, Nat.add_lt_add_iff_right, Nat.lt_add_left_iff_pos, Nat.add_eq_zero_iff, decide_true, decide_false, eq_self, if_true, if_false, and_self, true_and, and_true, reduceCtorEq, ge_iff_le, Nat.le_refl, Nat.zero_le], by simp only [hσ0, X.c, nvR, nvS, nvL, tF, Nat.reduceAdd, Nat.reduceLT, Nat.reduceEqDiff, Nat.reduceMul, Nat.reduceLeDiff, Nat.add_lt_add_iff_right, Nat.lt_add_left_iff_pos, Nat.add_eq_zero_iff, decide_true, decide_false, eq_self, if_true, if_false, and_self, true_and, and_true, reduceCtorEq, ge_iff_le, Nat.le_refl, Nat.zero_le], by simp only [hσ1, X.c, nvR, nvS, nvL, tF, Nat.reduceAdd, Nat.reduceLT, Nat.reduceEqDiff, Nat.reduceMul, Nat.reduceLeDiff, Nat.add_lt_add_iff_right, Nat.lt_add_left_iff_pos, Nat.add_eq_zero_iff, decide_true, decide_false, eq_self, if_true, if_false, and_self, true_and, and_true, reduceCtorEq, ge_iff_le, Nat.le_refl, Nat.zero_le], fun k hk hkl => ?_⟩
        · simp only [nvR, nvS, nvL, tF, Nat.reduceAdd, Nat.reduceLT, Nat.reduceEqDiff, Nat.reduceMul, Nat.reduceLeDiff, Nat.add_lt_add_iff_right, Nat.lt_add_left_iff_pos, Nat.add_eq_zero_iff, decide_true, decide_false, eq_self, if_true, if_false, and_self, true_and, and_true, reduceCtorEq, ge_iff_le, Nat.le_refl, Nat.zero_le]
          rw [wrapF_id (by have := hx.1; have := hx.2; have := hy.1; have := hy.2; omega) (by have := hx.1; have := hx.2; have := hy.1; have := hy.2; omega)]
          rfl
        · by_cases hki : k = i
          · subst hki
            simpa using hq
          · exact hb' k (by omega) hkl
    · have hi : i = y.ol.length := by
          (have h' : ¬ ((i : Int) < y.ol.length) := (by simpa using h); omega)
      have hd1 : (y.ol.all fun a => x.ol.any fun b => a.eq b) = true := by
        rw [List.all_eq_true]
        intro a ha
        obtain ⟨k, hk, rfl⟩ := List.getElem_of_mem ha
        simp only [O.eq_comm y.ol[k]]
        exact hb' k (by omega) hk
      simp only [h2, h3, hσ0, hσ1, nvR, nvS, nvL, tF, Nat.reduceAdd, Nat.reduceLT, Nat.reduceEqDiff, Nat.reduceMul, Nat.reduceLeDiff, Nat.add_lt_add_iff_right, Nat.lt_add_left_iff_pos, Nat.add_eq_zero_iff, decide_true, decide_false, eq_self, if_true, if_false, and_self, true_and, and_true, reduceCtorEq, ge_iff_le, Nat.le_refl, Nat.zero_le]
      refine W_loop (fun j fr σ => ∃ (i : Nat) (tm : PT AV), i + j = x.fl.length ∧ fr = ⟨tm, 73, [], none⟩ ∧ tm.get 2 = some (.ptr 0 0) ∧ tm.get 3 = some (.ptr 1 0) ∧ tm.get 7 = some (.int .i64 (i : Int)) ∧ 1 < σ.next ∧
          σ.get 0 = some (.cells 25 true x.c) ∧ σ.get 1 = some (.cells 25 true y.c) ∧ ∀ j (hj : j < i), ∀ h : j < x.fl.length, (y.fl.any fun b => b.eq x.fl[j]) = true) (k := x.fl.length) (by have := hx.1; have := hx.2; have := hy.1; have := hy.2; omega)
        ⟨0, _, by omega, rfl, by simp only [h2, h3, nvR, nvS, nvL, tF, Nat.reduceAdd, Nat.reduceLT, Nat.reduceEqDiff, Nat.reduceMul, Nat.reduceLeDiff, Nat.add_lt_add_iff_right, Nat.lt_add_left_iff_pos, Nat.add_eq_zero_iff, decide_true, decide_false, eq_self, if_true, if_false, and_self, true_and, and_true, reduceCtorEq, ge_iff_le, Nat.le_refl, Nat.zero_le], by simp only [h2, h3, nvR, nvS, nvL, tF, Nat.reduceAdd, Nat.reduceLT, Nat.reduceEqDiff, Nat.reduceMul, Nat.reduceLeDiff, Nat.add_lt_add_iff_right, Nat.lt_add_left_iff_pos, Nat.add_eq_zero_iff, decide_true, decide_false, eq_self, if_true, if_false, and_self, true_and, and_true, reduceCtorEq, ge_iff_le, Nat.le_refl, Nat.zero_le], by simp only [nvR, nvS, nvL, tF, Nat.reduceAdd, Nat.reduceLT, Nat.reduceEqDiff, Nat.reduceMul, Nat.reduceLeDiff, Nat.add_lt_add_iff_right, Nat.lt_add_left_iff_pos, Nat.add_eq_zero_iff, decide_true, decide_false, eq_self, if_true, if_false, and_self, true_and, and_true, reduceCtorEq, ge_iff_le, Nat.le_refl, Nat.zero_le]; rfl, by first | omega | (simp only [nvR, nvS, nvL, tF, Nat.reduceAdd, Nat.reduceLT, Nat.reduceEqDiff, Nat.reduceMul, Nat.reduceLeDiff, Nat.add_lt_add_iff_right, Nat.lt_add_left_iff_pos, Nat.add_eq_zero_iff, decide_true, decide_false, eq_self, if_true, if_false, and_self, true_and, and_true, reduceCtorEq, ge_iff_le, Nat.le_refl, Nat.zero_le]; omega), by simp only [X.c, hσ0, nvR, nvS, nvL, tF, Nat.reduceAdd, Nat.reduceLT, Nat.reduceEqDiff, Nat.reduceMul, Nat.reduceLeDiff, Nat.add_lt_add_iff_right, Nat.lt_add_left_iff_pos, Nat.add_eq_zero_iff, decide_true, decide_false, eq_self, if_true, if_false, and_self, true_and, and_true, reduceCtorEq, ge_iff_le, Nat.le_refl, Nat.zero_le], by simp only [X.c, hσ1, nvR, nvS, nvL, tF, Nat.reduceAdd, Nat.reduceLT, Nat.reduceEqDiff, Nat.reduceMul, Nat.reduceLeDiff, Nat.add_lt_add_iff_right, Nat.lt_add_left_iff_pos, Nat.add_eq_zero_iff, decide_true, decide_false, eq_self, if_true, if_false, and_self, true_and, and_true, reduceCtorEq, ge_iff_le, Nat.le_refl, Nat.zero_le], fun j hj => absurd hj (Nat.not_lt_zero _)⟩ ?_
      clear hn hσ0 hσ1 h2 h3 hb'
      rintro j fr σ ⟨i, tm, hij, rfl, h2, h3, h5, hn, hσ0, hσ1, hb'⟩
      have hnn : ∀ k, (0 < σ.next + k) = True := fun k => eq_true (by omega)
      have hnm : ∀ k, (1 < σ.next + k) = True := fun k => eq_true (by omega)
      simp only [X.c] at hσ0 hσ1
      have hlen : lenV Tryz.prog 23 x.fa = some (.int .i64 (x.fl.length : Int)) := by rw [x.hf.len Tryz.underlying23, List.length_map]
      simp only [h2, h3, h5, hσ0, hσ1, hlen, nvR, nvS, nvL, tF, Nat.reduceAdd, Nat.reduceLT, Nat.reduceEqDiff, Nat.reduceMul, Nat.reduceLeDiff, Nat.add_lt_add_iff_right, Nat.lt_add_left_iff_pos, Nat.add_eq_zero_iff, decide_true, decide_false, eq_self, if_true, if_false, and_self, true_and, and_true, reduceCtorEq, ge_iff_le, Nat.le_refl, Nat.zero_le]
      refine condW_split (fun h => ?_) (fun h => ?_)
      · have hi : i < x.fl.length := by simpa using h
        have hidx := x.hf.idx (P := Tryz.prog) (k := i) Tryz.underlying23 (by kernel_rfl) (by simpa using hi)
        rw [List.getElem_map] at hidx
        simp only [nvR, nvS, nvL, tF, Nat.reduceAdd, Nat.reduceLT, Nat.reduceEqDiff, Nat.reduceMul, Nat.reduceLeDiff, Nat.add_lt_add_iff_right, Nat.lt_add_left_iff_pos, Nat.add_eq_zero_iff, decide_true, decide_false, eq_self, if_true, if_false, and_self, true_and, and_true, reduceCtorEq, ge_iff_le, Nat.le_refl, Nat.zero_le]
        refine W_draw [] (by kernel_rfl) (by kernel_rfl) ?_
        have hy' : ∀ d, isPure (d + 1) x.fl[i].l = true := fun d => x.fl[i].h.pure
        have hp' : ∀ d, isPure (d + 1) y.fa = true := fun d => y.hf.pure
        have getb : ∀ (ops : Array Oper) (base i b : Nat) (σ : Heap), b < base → getLim σ (limD ops base i) b = σ.get b := fun _ _ _ _ _ h => getLim_old h
        have e1 := fun N => c16 N x.fl[i] y.hf hy.2
        simp only [Rp.c] at e1
        simp only [h2, h3, h5, hσ0, hσ1, hidx, Rp.c, getb, hnn, hnm, hy', hp', e1, nvR, nvS, nvL, tF, Nat.reduceAdd, Nat.reduceLT, Nat.reduceEqDiff, Nat.reduceMul, Nat.reduceLeDiff, Nat.add_lt_add_iff_right, Nat.lt_add_left_iff_pos, Nat.add_eq_zero_iff, decide_true, decide_false, eq_self, if_true, if_false, and_self, true_and, and_true, reduceCtorEq, ge_iff_le, Nat.le_refl, Nat.zero_le]
        refine condW_split (fun hq => ?_) (fun hq => ?_) <;> simp only [h2, h3, h5, hσ0, hσ1, nvR, nvS, nvL, tF, Nat.reduceAdd, Nat.reduceLT, Nat.reduceEqDiff, Nat.reduceMul, Nat.reduceLeDiff, Nat.add_lt_add_iff_right, Nat.lt_add_left_iff_pos, Nat.add_eq_zero_iff, decide_true, decide_false, eq_self, if_true, if_false, and_self, true_and, and_true, reduceCtorEq, ge_iff_le, Nat.le_refl, Nat.zero_le]
        · refine ⟨_, rfl, ?_⟩
          have hf : (x.fl.all fun a => y.fl.any fun b => a.eq b) = false := by
            rw [List.all_eq_false]
            refine ⟨x.fl[i], List.getElem_mem hi, ?_⟩
            simp only [Rp.eq_comm x.fl[i]]
            simpa using hq
          simp only [X.same, hf, hd0, hd1, nvR, nvS, nvL, tF, Nat.reduceAdd, Nat.reduceLT, Nat.reduceEqDiff, Nat.reduceMul, Nat.reduceLeDiff, Nat.add_lt_add_iff_right, Nat.lt_add_left_iff_pos, Nat.add_eq_zero_iff, decide_true, decide_false, eq_self, if_true, if_false, and_self, true_and, and_true, reduceCtorEq, ge_iff_le, Nat.le_refl, Nat.zero_le]
        · refine loop_next (j - 1) (by omega) ⟨i + 1, _, by omega, rfl, by simp only [h2, nvR, nvS, nvL, tF, Nat.reduceAdd, Nat.reduceLT, Nat.reduceEqDiff, Nat.reduceMul, Nat.reduceLeDiff, Nat.add_lt_add_iff_right, Nat.lt_add_left_iff_pos, Nat.add_eq_zero_iff, decide_true, decide_false, eq_self, if_true, if_false, and_self, true_and, and_true, reduceCtorEq, ge_iff_le, Nat.le_refl, Nat.zero_le], by simp only [h3, nvR, nvS, nvL, tF, Nat.reduceAdd, Nat.reduceLT, Nat.reduceEqDiff, Nat.reduceMul, Nat.reduceLeDiff, Nat.add_lt_add_iff_right, Nat.lt_add_left_iff_pos, Nat.add_eq_zero_iff, decide_true, decide_false, eq_self, if_true, if_false, and_self, true_and, and_true, reduceCtorEq, ge_iff_le, Nat.le_refl, Nat.zero_le], ?_, by simp only [hnm, hnn, nvR, nvS, nvL, tF, Nat.reduceAdd, Nat.reduceLT, Nat.reduceEqDiff, Nat.reduceMul, Nat.reduceLeDiff, Nat.add_lt_add_iff_right, Nat.lt_add_left_iff_pos, Nat.add_eq_zero_iff, decide_true, decide_false, eq_self, if_true, if_false, and_self, true_and, and_true, reduceCtorEq, ge_iff_le, Nat.le_refl, Nat.zero_le], by simp only [hσ0, X.c, nvR, nvS, nvL, tF, Nat.reduceAdd, Nat.reduceLT, Nat.reduceEqDiff, Nat.reduceMul, Nat.reduceLeDiff, Nat.add_lt_add_iff_right, Nat.lt_add_left_iff_pos, Nat.add_eq_zero_iff, decide_true, decide_false, eq_self, if_true, if_false, and_self, true_and, and_true, reduceCtorEq, ge_iff_le, Nat.le_refl, Nat.zero_le], by simp only [hσ1, X.c, nvR, nvS, nvL, tF, Nat.reduceAdd, Nat.reduceLT, Nat.reduceEqDiff, Nat.reduceMul, Nat.reduceLeDiff, Nat.add_lt_add_iff_right, Nat.lt_add_left_iff_pos, Nat.add_eq_zero_iff, decide_true, decide_false, eq_self, if_true, if_false, and_self, true_and, and_true, reduceCtorEq, ge_iff_le, Nat.le_refl, Nat.zero_le], fun k hk hkl => ?_⟩
          · simp only [nvR, nvS, nvL, tF, Nat.reduceAdd, Nat.reduceLT, Nat.reduceEqDiff, Nat.reduceMul, Nat.reduceLeDiff, Nat.add_lt_add_iff_right, Nat.lt_add_left_iff_pos, Nat.add_eq_zero_iff, decide_true, decide_false, eq_self, if_true, if_false, and_self, true_and, and_true, reduceCtorEq, ge_iff_le, Nat.le_refl, Nat.zero_le]
            rw [wrapF_id (by have := hx.1; have := hx.2; have := hy.1; have := hy.2; omega) (by have := hx.1; have := hx.2; have := hy.1; have := hy.2; omega)]
            rfl
          · by_cases hki : k = i
            · subst hki
              simpa using hq
            · exact hb' k (by omega) hkl
      · have hi : i = x.fl.length := by
            (have h' : ¬ ((i : Int) < x.fl.length) := (by simpa using h); omega)
        have hd2 : (x.fl.all fun a => y.fl.any fun b => a.eq b) = true := by
          rw [List.all_eq_true]
          intro a ha
          obtain ⟨k, hk, rfl⟩ := List.getElem_of_mem ha
          simp only [Rp.eq_comm x.fl[k]]
          exact hb' k (by omega) hk
        simp only [h2, h3, hσ0, hσ1, nvR, nvS, nvL, tF, Nat.reduceAdd, Nat.reduceLT, Nat.reduceEqDiff, Nat.reduceMul, Nat.reduceLeDiff, Nat.add_lt_add_iff_right, Nat.lt_add_left_iff_pos, Nat.add_eq_zero_iff, decide_true, decide_false, eq_self, if_true, if_false, and_self, true_and, and_true, reduceCtorEq, ge_iff_le, Nat.le_refl, Nat.zero_le]
        refine W_loop (fun j fr σ => ∃ (i : Nat) (tm : PT AV), i + j = y.fl.length ∧ fr = ⟨tm, 73, [], none⟩ ∧ tm.get 2 = some (.ptr 0 0) ∧ tm.get 3 = some (.ptr 1 0) ∧ tm.get 8 = some (.int .i64 (i : Int)) ∧ 1 < σ.next ∧
            σ.get 0 = some (.cells 25 true x.c) ∧ σ.get 1 = some (.cells 25 true y.c) ∧ ∀ j (hj : j < i), ∀ h : j < y.fl.length, (x.fl.any fun b => b.eq y.fl[j]) = true) (k := y.fl.length) (by have := hx.1; have := hx.2; have := hy.1; have := hy.2; omega)
          ⟨0, _, by omega, rfl, by simp only [h2, h3, nvR, nvS, nvL, tF, Nat.reduceAdd, Nat.reduceLT, Nat.reduceEqDiff, Nat.reduceMul, Nat.reduceLeDiff, Nat.add_lt_add_iff_right, Nat.lt_add_left_iff_pos, Nat.add_eq_zero_iff, decide_true, decide_false, eq_self, if_true, if_false, and_self, true_and, and_true, reduceCtorEq, ge_iff_le, Nat.le_refl, Nat.zero_le], by simp only [h2, h3, nvR, nvS, nvL, tF, Nat.reduceAdd, Nat.reduceLT, Nat.reduceEqDiff, Nat.reduceMul, Nat.reduceLeDiff, Nat.add_lt_add_iff_right, Nat.lt_add_left_iff_pos, Nat.add_eq_zero_iff, decide_true, decide_false, eq_self, if_true, if_false, and_self, true_and, and_true, reduceCtorEq, ge_iff_le, Nat.le_refl, Nat.zero_le], by simp only [nvR, nvS, nvL, tF, Nat.reduceAdd, Nat.reduceLT, Nat.reduceEqDiff, Nat.reduceMul, Nat.reduceLeDiff, Nat.add_lt_add_iff_right, Nat.lt_add_left_iff_pos, Nat.add_eq_zero_iff, decide_true, decide_false, eq_self, if_true, if_false, and_self, true_and, and_true, reduceCtorEq, ge_iff_le, Nat.le_refl, Nat.zero_le]; rfl, by first | omega | (simp only [nvR, nvS, nvL, tF, Nat.reduceAdd, Nat.reduceLT, Nat.reduceEqDiff, Nat.reduceMul, Nat.reduceLeDiff, Nat.add_lt_add_iff_right, Nat.lt_add_left_iff_pos, Nat.add_eq_zero_iff, decide_true, decide_false, eq_self, if_true, if_false, and_self, true_and, and_true, reduceCtorEq, ge_iff_le, Nat.le_refl, Nat.zero_le]; omega), by simp only [X.c, hσ0, nvR, nvS, nvL, tF, Nat.reduceAdd, Nat.reduceLT, Nat.reduceEqDiff, Nat.reduceMul, Nat.reduceLeDiff, Nat.add_lt_add_iff_right, Nat.lt_add_left_iff_pos, Nat.add_eq_zero_iff, decide_true, decide_false, eq_self, if_true, if_false, and_self, true_and, and_true, reduceCtorEq, ge_iff_le, Nat.le_refl, Nat.zero_le], by simp only [X.c, hσ1, nvR, nvS, nvL, tF, Nat.reduceAdd, Nat.reduceLT, Nat.reduceEqDiff, Nat.reduceMul, Nat.reduceLeDiff, Nat.add_lt_add_iff_right, Nat.lt_add_left_iff_pos, Nat.add_eq_zero_iff, decide_true, decide_false, eq_self, if_true, if_false, and_self, true_and, and_true, reduceCtorEq, ge_iff_le, Nat.le_refl, Nat.zero_le], fun j hj => absurd hj (Nat.not_lt_zero _)⟩ ?_
        clear hn hσ0 hσ1 h2 h3 hb'
        rintro j fr σ ⟨i, tm, hij, rfl, h2, h3, h5, hn, hσ0, hσ1, hb'⟩
        have hnn : ∀ k, (0 < σ.next + k) = True := fun k => eq_true (by omega)
        have hnm : ∀ k, (1 < σ.next + k) = True := fun k => eq_true (by omega)
        simp only [X.c] at hσ0 hσ1
        have hlen : lenV Tryz.prog 23 y.fa = some (.int .i64 (y.fl.length : Int)) := by rw [y.hf.len Tryz.underlying23, List.length_map]
        simp only [h2, h3, h5, hσ0, hσ1, hlen, nvR, nvS, nvL, tF, Nat.reduceAdd, Nat.reduceLT, Nat.reduceEqDiff, Nat.reduceMul, Nat.reduceLeDiff, Nat.add_lt_add_iff_right, Nat.lt_add_left_iff_pos, Nat.add_eq_zero_iff, decide_true, decide_false, eq_self, if_true, if_false, and_self, true_and, and_true, reduceCtorEq, ge_iff_le, Nat.le_refl, Nat.zero_le]
        refine condW_split (fun h => ?_) (fun h => ?_)
        · have hi : i < y.fl.length := by simpa using h
          have hidx := y.hf.idx (P := Tryz.prog) (k := i) Tryz.underlying23 (by kernel_rfl) (by simpa using hi)
          rw [List.getElem_map] at hidx
          simp only [nvR, nvS, nvL, tF, Nat.reduceAdd, Nat.reduceLT, Nat.reduceEqDiff, Nat.reduceMul, Nat.reduceLeDiff, Nat.add_lt_add_iff_right, Nat.lt_add_left_iff_pos, Nat.add_eq_zero_iff, decide_true, decide_false, eq_self, if_true, if_false, and_self, true_and, and_true, reduceCtorEq, ge_iff_le, Nat.le_refl, Nat.zero_le]
          refine W_draw [] (by kernel_rfl) (by kernel_rfl) ?_
          have hy' : ∀ d, isPure (d + 1) y.fl[i].l = true := fun d => y.fl[i].h.pure
          have hp' : ∀ d, isPure (d + 1) x.fa = true := fun d => x.hf.pure
          have getb : ∀ (ops : Array Oper) (base i b : Nat) (σ : Heap), b < base → getLim σ (limD ops base i) b = σ.get b := fun _ _ _ _ _ h => getLim_old h
          have e1 := fun N => c16 N y.fl[i] x.hf hx.2
          simp only [Rp.c] at e1
          simp only [h2, h3, h5, hσ0, hσ1, hidx, Rp.c, getb, hnn, hnm, hy', hp', e1, nvR, nvS, nvL, tF, Nat.reduceAdd, Nat.reduceLT, Nat.reduceEqDiff, Nat.reduceMul, Nat.reduceLeDiff, Nat.add_lt_add_iff_right, Nat.lt_add_left_iff_pos, Nat.add_eq_zero_iff, decide_true, decide_false, eq_self, if_true, if_false, and_self, true_and, and_true, reduceCtorEq, ge_iff_le, Nat.le_refl, Nat.zero_le]
          refine condW_split (fun hq => ?_) (fun hq => ?_) <;> simp only [h2, h3, h5, hσ0, hσ1, nvR, nvS, nvL, tF, Nat.reduceAdd, Nat.reduceLT, Nat.reduceEqDiff, Nat.reduceMul, Nat.reduceLeDiff, Nat.add_lt_add_iff_right, Nat.lt_add_left_iff_pos, Nat.add_eq_zero_iff, decide_true, decide_false, eq_self, if_true, if_false, and_self, true_and, and_true, reduceCtorEq, ge_iff_le, Nat.le_refl, Nat.zero_le]
          · refine ⟨_, rfl, ?_⟩
            have hf : (y.fl.all fun a => x.fl.any fun b => a.eq b) = false := by
              rw [List.all_eq_false]
              refine ⟨y.fl[i], List.getElem_mem hi, ?_⟩
              simp only [Rp.eq_comm y.fl[i]]
              simpa using hq
            simp only [X.same, hf, hd0, hd1, hd2, nvR, nvS, nvL, tF, Nat.reduceAdd, Nat.reduceLT, Nat.reduceEqDiff, Nat.reduceMul, Nat.reduceLeDiff, Nat.add_lt_add_iff_right, Nat.lt_add_left_iff_pos, Nat.add_eq_zero_iff, decide_true, decide_false, eq_self, if_true, if_false, and_self, true_and, and_true, reduceCtorEq, ge_iff_le, Nat.le_refl, Nat.zero_le]
          · refine loop_next (j - 1) (by omega) ⟨i + 1, _, by omega, rfl, by simp only [h2, nvR, nvS, nvL, tF, Nat.reduceAdd, Nat.reduceLT, Nat.reduceEqDiff, Nat.reduceMul, Nat.reduceLeDiff, Nat.add_lt_add_iff_right, Nat.lt_add_left_iff_pos, Nat.add_eq_zero_iff, decide_true, decide_false, eq_self, if_true, if_false, and_self, true_and, and_true, reduceCtorEq, ge_iff_le, Nat.le_refl, Nat.zero_le], by simp only [h3, nvR, nvS, nvL, tF, Nat.reduceAdd, Nat.reduceLT, Nat.reduceEqDiff, Nat.reduceMul, Nat.reduceLeDiff, Nat.add_lt_add_iff_right, Nat.lt_add_left_iff_pos, Nat.add_eq_zero_iff, decide_true, decide_false, eq_self, if_true, if_false, and_self, true_and, and_true, reduceCtorEq, ge_iff_le, Nat.le_refl, Nat.zero_le], ?_, by simp only [hnm, hnn, nvR, nvS, nvL, tF, Nat.reduceAdd, Nat.reduceLT, Nat.reduceEqDiff, Nat.reduceMul, Nat.reduceLeDiff, Nat.add_lt_add_iff_right, Nat.lt_add_left_iff_pos, Nat.add_eq_zero_iff, decide_true, decide_false, eq_self, if_true, if_false, and_self, true_and, and_true, reduceCtorEq, ge_iff_le, Nat.le_refl, Nat.zero_le], by simp only [hσ0, X.c, nvR, nvS, nvL, tF, Nat.reduceAdd, Nat.reduceLT, Nat.reduceEqDiff, Nat.reduceMul, Nat.reduceLeDiff, Nat.add_lt_add_iff_right, Nat.lt_add_left_iff_pos, Nat.add_eq_zero_iff, decide_true, decide_false, eq_self, if_true, if_false, and_self, true_and, and_true, reduceCtorEq, ge_iff_le, Nat.le_refl, Nat.zero_le], by simp only [hσ1, X.c, nvR, nvS, nvL, tF, Nat.reduceAdd, Nat.reduceLT, Nat.reduceEqDiff, Nat.reduceMul, Nat.reduceLeDiff, Nat.add_lt_add_iff_right, Nat.lt_add_left_iff_pos, Nat.add_eq_zero_iff, decide_true, decide_false, eq_self, if_true, if_false, and_self, true_and, and_true, reduceCtorEq, ge_iff_le, Nat.le_refl, Nat.zero_le], fun k hk hkl => ?_⟩
            · simp only [nvR, nvS, nvL, tF, Nat.reduceAdd, Nat.reduceLT, Nat.reduceEqDiff, Nat.reduceMul, Nat.reduceLeDiff, Nat.add_lt_add_iff_right, Nat.lt_add_left_iff_pos, Nat.add_eq_zero_iff, decide_true, decide_false, eq_self, if_true, if_false, and_self, true_and, and_true, reduceCtorEq, ge_iff_le, Nat.le_refl, Nat.zero_le]
              rw [wrapF_id (by have := hx.1; have := hx.2; have := hy.1; have := hy.2; omega) (by have := hx.1; have := hx.2; have := hy.1; have := hy.2; omega)]
              rfl
            · by_cases hki : k = i
              · subst hki
                simpa using hq
              · exact hb' k (by omega) hkl
        · have hi : i = y.fl.length := by
              (have h' : ¬ ((i : Int) < y.fl.length) := (by simpa using h); omega)
          have hd3 : (y.fl.all fun a => x.fl.any fun b => a.eq b) = true := by
            rw [List.all_eq_true]
            intro a ha
            obtain ⟨k, hk, rfl⟩ := List.getElem_of_mem ha
            simp only [Rp.eq_comm y.fl[k]]
            exact hb' k (by omega) hk
          simp only [h2, h3, hσ0, hσ1, nvR, nvS, nvL, tF, Nat.reduceAdd, Nat.reduceLT, Nat.reduceEqDiff, Nat.reduceMul, Nat.reduceLeDiff, Nat.add_lt_add_iff_right, Nat.lt_add_left_iff_pos, Nat.add_eq_zero_iff, decide_true, decide_false, eq_self, if_true, if_false, and_self, true_and, and_true, reduceCtorEq, ge_iff_le, Nat.le_refl, Nat.zero_le]
          refine ⟨_, rfl, ?_⟩
          simp only [X.same, hd0, hd1, hd2, hd3, nvR, nvS, nvL, tF, Nat.reduceAdd, Nat.reduceLT, Nat.reduceEqDiff, Nat.reduceMul, Nat.reduceLeDiff, Nat.add_lt_add_iff_right, Nat.lt_add_left_iff_pos, Nat.add_eq_zero_iff, decide_true, decide_false, eq_self, if_true, if_false, and_self, true_and, and_true, reduceCtorEq, ge_iff_le, Nat.le_refl, Nat.zero_le]
theorem c8 (N : Nat) (x : Rp) : callPure Tryz.prog CT (run Tryz.prog CT (N + 20)) 8 [.agg x.c] = some (.bool (decide (60 < (x.L.length : Int)))) := by
  have hlen : lenV Tryz.prog 30 x.l = some (.int .i64 (x.L.length : Int)) := x.h.len Tryz.underlying30
  refine callPure_of rfl (CQ.of Tryz.func8 rfl (by simp [Tryz.f8]) ?_)
  simp only [Tryz.f8, Rp.c, hlen, nvR, nvS, nvL, tF, Nat.reduceAdd, Nat.reduceLT, Nat.reduceEqDiff, Nat.reduceMul, Nat.reduceLeDiff, Nat.add_lt_add_iff_right, Nat.lt_add_left_iff_pos, Nat.add_eq_zero_iff, decide_true, decide_false, eq_self, if_true, if_false, and_self, true_and, and_true, reduceCtorEq, ge_iff_le, Nat.le_refl, Nat.zero_le]
  exact ⟨_, rfl, rfl⟩
def X.great (x : X) : Bool := (decide (40 < (x.ol.length : Int)) || decide (40 < (x.fl.length : Int))) || ((x.fl.any fun r => decide (60 < (r.L.length : Int))) || (x.ol.any fun o => decide (210 < (o.L.length : Int)) || decide (5000 < (o.s.length : Int))))
theorem c4 (N : Nat) (x : X) : callPure Tryz.prog CT (run Tryz.prog CT (N + 200)) 4 [.agg x.c] = some (.bool x.great) := by
  have hl1 : lenV Tryz.prog 22 x.oa = some (.int .i64 (x.ol.length : Int)) := by rw [x.ho.len Tryz.underlying22, List.length_map]
  have hl2 : lenV Tryz.prog 23 x.fa = some (.int .i64 (x.fl.length : Int)) := by rw [x.hf.len Tryz.underlying23, List.length_map]
  refine callPure_of rfl (CQ.of Tryz.func4 rfl (by simp [Tryz.f4]) ?_)
  simp only [Tryz.f4, X.c, hl1, hl2, nvR, nvS, nvL, tF, Nat.reduceAdd, Nat.reduceLT, Nat.reduceEqDiff, Nat.reduceMul, Nat.reduceLeDiff, Nat.add_lt_add_iff_right, Nat.lt_add_left_iff_pos, Nat.add_eq_zero_iff, decide_true, decide_false, eq_self, if_true, if_false, and_self, true_and, and_true, reduceCtorEq, ge_iff_le, Nat.le_refl, Nat.zero_le]
  refine WX_split (fun h1 => ?_) (fun h1 => ?_) <;> simp only [Bool.not_eq_true', Bool.not_eq_false'] at h1 <;> simp only [h1, hl1, hl2, nvR, nvS, nvL, tF, Nat.reduceAdd, Nat.reduceLT, Nat.reduceEqDiff, Nat.reduceMul, Nat.reduceLeDiff, Nat.add_lt_add_iff_right, Nat.lt_add_left_iff_pos, Nat.add_eq_zero_iff, decide_true, decide_false, eq_self, if_true, if_false, and_self, true_and, and_true, reduceCtorEq, ge_iff_le, Nat.le_refl, Nat.zero_le]
  · refine condW_split (fun h2 => ?_) (fun h2 => ?_) <;> simp only [h2, hl1, hl2, nvR, nvS, nvL, tF, Nat.reduceAdd, Nat.reduceLT, Nat.reduceEqDiff, Nat.reduceMul, Nat.reduceLeDiff, Nat.add_lt_add_iff_right, Nat.lt_add_left_iff_pos, Nat.add_eq_zero_iff, decide_true, decide_false, eq_self, if_true, if_false, and_self, true_and, and_true, reduceCtorEq, ge_iff_le, Nat.le_refl, Nat.zero_le]
    · exact ⟨_, rfl, by simp only [X.great, h1, h2, Bool.or_true, Bool.true_or, Bool.false_or, nvR, nvS, nvL, tF, Nat.reduceAdd, Nat.reduceLT, Nat.reduceEqDiff, Nat.reduceMul, Nat.reduceLeDiff, Nat.add_lt_add_iff_right, Nat.lt_add_left_iff_pos, Nat.add_eq_zero_iff, decide_true, decide_false, eq_self, if_true, if_false, and_self, true_and, and_true, reduceCtorEq, ge_iff_le, Nat.le_refl, Nat.zero_le]⟩
    · have hs1 : x.ol.length ≤ 40 := by have h' := h1; simp at h'; omega
      have hs2 : x.fl.length ≤ 40 := by have h' := h2; simp at h'; omega
      refine W_loop (fun j fr σ => ∃ (i : Nat) (tm : PT AV), i + j = x.fl.length ∧ fr = ⟨tm, 53, [], none⟩ ∧ tm.get 1 = some (.ptr 0 0) ∧ tm.get 3 = some (.int .i64 (i : Int)) ∧
          σ.get 0 = some (.cells 25 true x.c) ∧ ∀ j (hj : j < i), ∀ h : j < x.fl.length, decide (60 < (x.fl[j].L.length : Int)) = false) (k := x.fl.length) (by omega)
        ⟨0, _, by omega, rfl, by simp only [nvR, nvS, nvL, tF, Nat.reduceAdd, Nat.reduceLT, Nat.reduceEqDiff, Nat.reduceMul, Nat.reduceLeDiff, Nat.add_lt_add_iff_right, Nat.lt_add_left_iff_pos, Nat.add_eq_zero_iff, decide_true, decide_false, eq_self, if_true, if_false, and_self, true_and, and_true, reduceCtorEq, ge_iff_le, Nat.le_refl, Nat.zero_le], by simp only [nvR, nvS, nvL, tF, Nat.reduceAdd, Nat.reduceLT, Nat.reduceEqDiff, Nat.reduceMul, Nat.reduceLeDiff, Nat.add_lt_add_iff_right, Nat.lt_add_left_iff_pos, Nat.add_eq_zero_iff, decide_true, decide_false, eq_self, if_true, if_false, and_self, true_and, and_true, reduceCtorEq, ge_iff_le, Nat.le_refl, Nat.zero_le]; rfl, by simp only [X.c, nvR, nvS, nvL, tF, Nat.reduceAdd, Nat.reduceLT, Nat.reduceEqDiff, Nat.reduceMul, Nat.reduceLeDiff, Nat.add_lt_add_iff_right, Nat.lt_add_left_iff_pos, Nat.add_eq_zero_iff, decide_true, decide_false, eq_self, if_true, if_false, and_self, true_and, and_true, reduceCtorEq, ge_iff_le, Nat.le_refl, Nat.zero_le], fun j hj => absurd hj (Nat.not_lt_zero _)⟩ ?_
      rintro j fr σ ⟨i, tm, hij, rfl, g1, g3, hσ, hb⟩
      simp only [X.c] at hσ
      simp only [g1, g3, hσ, hl1, hl2, nvR, nvS, nvL, tF, Nat.reduceAdd, Nat.reduceLT, Nat.reduceEqDiff, Nat.reduceMul, Nat.reduceLeDiff, Nat.add_lt_add_iff_right, Nat.lt_add_left_iff_pos, Nat.add_eq_zero_iff, decide_true, decide_false, eq_self, if_true, if_false, and_self, true_and, and_true, reduceCtorEq, ge_iff_le, Nat.le_refl, Nat.zero_le]
      refine condW_split (fun h => ?_) (fun h => ?_)
      · have hi : i < x.fl.length := by simpa using h
        have hidx := x.hf.idx (P := Tryz.prog) (k := i) Tryz.underlying23 (by kernel_rfl) (by simpa using hi)
        rw [List.getElem_map] at hidx
        have hp : ∀ d, isPure (d + 1) x.fl[i].l = true := fun d => x.fl[i].h.pure
        have e1 := fun N => c8 N x.fl[i]
        simp only [Rp.c] at e1
        simp only [g1, g3, hσ, hidx, Rp.c, hp, e1, nvR, nvS, nvL, tF, Nat.reduceAdd, Nat.reduceLT, Nat.reduceEqDiff, Nat.reduceMul, Nat.reduceLeDiff, Nat.add_lt_add_iff_right, Nat.lt_add_left_iff_pos, Nat.add_eq_zero_iff, decide_true, decide_false, eq_self, if_true, if_false, and_self, true_and, and_true, reduceCtorEq, ge_iff_le, Nat.le_refl, Nat.zero_le]
        refine condW_split (fun hq => ?_) (fun hq => ?_) <;> simp only [g1, g3, hσ, nvR, nvS, nvL, tF, Nat.reduceAdd, Nat.reduceLT, Nat.reduceEqDiff, Nat.reduceMul, Nat.reduceLeDiff, Nat.add_lt_add_iff_right, Nat.lt_add_left_iff_pos, Nat.add_eq_zero_iff, decide_true, decide_false, eq_self, if_true, if_false, and_self, true_and, and_true, reduceCtorEq, ge_iff_le, Nat.le_refl, Nat.zero_le]
        · refine ⟨_, rfl, ?_⟩
          have hf : (x.fl.any fun r => decide (60 < (r.L.length : Int))) = true := List.any_eq_true.2 ⟨x.fl[i], List.getElem_mem hi, hq⟩
          simp only [X.great, hf, Bool.or_true, Bool.true_or, nvR, nvS, nvL, tF, Nat.reduceAdd, Nat.reduceLT, Nat.reduceEqDiff, Nat.reduceMul, Nat.reduceLeDiff, Nat.add_lt_add_iff_right, Nat.lt_add_left_iff_pos, Nat.add_eq_zero_iff, decide_true, decide_false, eq_self, if_true, if_false, and_self, true_and, and_true, reduceCtorEq, ge_iff_le, Nat.le_refl, Nat.zero_le]
        · refine loop_next (j - 1) (by omega) ⟨i + 1, _, by omega, rfl, by simp only [g1, nvR, nvS, nvL, tF, Nat.reduceAdd, Nat.reduceLT, Nat.reduceEqDiff, Nat.reduceMul, Nat.reduceLeDiff, Nat.add_lt_add_iff_right, Nat.lt_add_left_iff_pos, Nat.add_eq_zero_iff, decide_true, decide_false, eq_self, if_true, if_false, and_self, true_and, and_true, reduceCtorEq, ge_iff_le, Nat.le_refl, Nat.zero_le], ?_, by simp only [hσ, X.c, nvR, nvS, nvL, tF, Nat.reduceAdd, Nat.reduceLT, Nat.reduceEqDiff, Nat.reduceMul, Nat.reduceLeDiff, Nat.add_lt_add_iff_right, Nat.lt_add_left_iff_pos, Nat.add_eq_zero_iff, decide_true, decide_false, eq_self, if_true, if_false, and_self, true_and, and_true, reduceCtorEq, ge_iff_le, Nat.le_refl, Nat.zero_le], fun k hk hkl => ?_⟩
          · simp only [nvR, nvS, nvL, tF, Nat.reduceAdd, Nat.reduceLT, Nat.reduceEqDiff, Nat.reduceMul, Nat.reduceLeDiff, Nat.add_lt_add_iff_right, Nat.lt_add_left_iff_pos, Nat.add_eq_zero_iff, decide_true, decide_false, eq_self, if_true, if_false, and_self, true_and, and_true, reduceCtorEq, ge_iff_le, Nat.le_refl, Nat.zero_le]
            rw [wrapF_id (by omega) (by omega)]
            rfl
          · by_cases hki : k = i
            · subst hki
              exact hq
            · exact hb k (by omega) hkl
      · have hi : i = x.fl.length := by
              (have h' : ¬ ((i : Int) < x.fl.length) := (by simpa using h); omega)
        have hd0 : (x.fl.any fun r => decide (60 < (r.L.length : Int))) = false := by
          rw [List.any_eq_false]
          intro r hr
          obtain ⟨k, hk, rfl⟩ := List.getElem_of_mem hr
          rw [hb k (by omega) hk]
          simp
        simp only [g1, hσ, nvR, nvS, nvL, tF, Nat.reduceAdd, Nat.reduceLT, Nat.reduceEqDiff, Nat.reduceMul, Nat.reduceLeDiff, Nat.add_lt_add_iff_right, Nat.lt_add_left_iff_pos, Nat.add_eq_zero_iff, decide_true, decide_false, eq_self, if_true, if_false, and_self, true_and, and_true, reduceCtorEq, ge_iff_le, Nat.le_refl, Nat.zero_le]
        refine W_loop (fun j fr σ => ∃ (i : Nat) (tm : PT AV), i + j = x.ol.length ∧ fr = ⟨tm, 53, [], none⟩ ∧ tm.get 1 = some (.ptr 0 0) ∧ tm.get 4 = some (.int .i64 (i : Int)) ∧
            σ.get 0 = some (.cells 25 true x.c) ∧ ∀ j (hj : j < i), ∀ h : j < x.ol.length, (decide (210 < (x.ol[j].L.length : Int)) || decide (5000 < (x.ol[j].s.length : Int))) = false) (k := x.ol.length) (by omega)
          ⟨0, _, by omega, rfl, by simp only [g1, nvR, nvS, nvL, tF, Nat.reduceAdd, Nat.reduceLT, Nat.reduceEqDiff, Nat.reduceMul, Nat.reduceLeDiff, Nat.add_lt_add_iff_right, Nat.lt_add_left_iff_pos, Nat.add_eq_zero_iff, decide_true, decide_false, eq_self, if_true, if_false, and_self, true_and, and_true, reduceCtorEq, ge_iff_le, Nat.le_refl, Nat.zero_le], by simp only [nvR, nvS, nvL, tF, Nat.reduceAdd, Nat.reduceLT, Nat.reduceEqDiff, Nat.reduceMul, Nat.reduceLeDiff, Nat.add_lt_add_iff_right, Nat.lt_add_left_iff_pos, Nat.add_eq_zero_iff, decide_true, decide_false, eq_self, if_true, if_false, and_self, true_and, and_true, reduceCtorEq, ge_iff_le, Nat.le_refl, Nat.zero_le]; rfl, by simp only [X.c, hσ, nvR, nvS, nvL, tF, Nat.reduceAdd, Nat.reduceLT, Nat.reduceEqDiff, Nat.reduceMul, Nat.reduceLeDiff, Nat.add_lt_add_iff_right, Nat.lt_add_left_iff_pos, Nat.add_eq_zero_iff, decide_true, decide_false, eq_self, if_true, if_false, and_self, true_and, and_true, reduceCtorEq, ge_iff_le, Nat.le_refl, Nat.zero_le], fun j hj => absurd hj (Nat.not_lt_zero _)⟩ ?_
        clear hσ g1 g3 hb hij hi h
        rintro j fr σ ⟨i, tm, hij, rfl, g1, g3, hσ, hb⟩
        simp only [X.c] at hσ
        simp only [g1, g3, hσ, hl1, hl2, nvR, nvS, nvL, tF, Nat.reduceAdd, Nat.reduceLT, Nat.reduceEqDiff, Nat.reduceMul, Nat.reduceLeDiff, Nat.add_lt_add_iff_right, Nat.lt_add_left_iff_pos, Nat.add_eq_zero_iff, decide_true, decide_false, eq_self, if_true, if_false, and_self, true_and, and_true, reduceCtorEq, ge_iff_le, Nat.le_refl, Nat.zero_le]
        refine condW_split (fun h => ?_) (fun h => ?_)
        · have hi : i < x.ol.length := by simpa using h
          have hidx := x.ho.idx (P := Tryz.prog) (k := i) Tryz.underlying22 (by kernel_rfl) (by simpa using hi)
          rw [List.getElem_map] at hidx
          have hl3 : lenV Tryz.prog 35 x.ol[i].o = some (.int .i64 (x.ol[i].L.length : Int)) := x.ol[i].h.len Tryz.underlying35
          have hl4 : lenV Tryz.prog 9 (.str x.ol[i].s) = some (.int .i64 (x.ol[i].s.length : Int)) := lenV_str Tryz.underlying9
          have key : ∀ b : Bool, b = (decide (210 < (x.ol[i].L.length : Int)) || decide (5000 < (x.ol[i].s.length : Int))) → ∀ (hq : b = false), ∀ k, k < i + 1 → ∀ h : k < x.ol.length, (decide (210 < (x.ol[k].L.length : Int)) || decide (5000 < (x.ol[k].s.length : Int))) = false := by
            intro b hb' hq k hk hkl
            by_cases hki : k = i
            · subst hki
              rw [← hb', hq]
            · exact hb k (by omega) hkl
          have hit : ∀ b : Bool, b = (decide (210 < (x.ol[i].L.length : Int)) || decide (5000 < (x.ol[i].s.length : Int))) → b = true → (x.ol.any fun o => decide (210 < (o.L.length : Int)) || decide (5000 < (o.s.length : Int))) = true := by
            intro b hb' hq
            exact List.any_eq_true.2 ⟨x.ol[i], List.getElem_mem hi, by rw [← hb', hq]⟩
          simp only [g1, g3, hσ, hidx, O.c, hl3, hl4, nvR, nvS, nvL, tF, Nat.reduceAdd, Nat.reduceLT, Nat.reduceEqDiff, Nat.reduceMul, Nat.reduceLeDiff, Nat.add_lt_add_iff_right, Nat.lt_add_left_iff_pos, Nat.add_eq_zero_iff, decide_true, decide_false, eq_self, if_true, if_false, and_self, true_and, and_true, reduceCtorEq, ge_iff_le, Nat.le_refl, Nat.zero_le]
          refine WX_split (fun h1 => ?_) (fun h1 => ?_) <;> simp only [Bool.not_eq_true', Bool.not_eq_false'] at h1 <;> simp only [h1, g1, g3, hσ, hidx, O.c, hl3, hl4, nvR, nvS, nvL, tF, Nat.reduceAdd, Nat.reduceLT, Nat.reduceEqDiff, Nat.reduceMul, Nat.reduceLeDiff, Nat.add_lt_add_iff_right, Nat.lt_add_left_iff_pos, Nat.add_eq_zero_iff, decide_true, decide_false, eq_self, if_true, if_false, and_self, true_and, and_true, reduceCtorEq, ge_iff_le, Nat.le_refl, Nat.zero_le]
          · refine condW_split (fun hq => ?_) (fun hq => ?_) <;> simp only [g1, g3, hσ, nvR, nvS, nvL, tF, Nat.reduceAdd, Nat.reduceLT, Nat.reduceEqDiff, Nat.reduceMul, Nat.reduceLeDiff, Nat.add_lt_add_iff_right, Nat.lt_add_left_iff_pos, Nat.add_eq_zero_iff, decide_true, decide_false, eq_self, if_true, if_false, and_self, true_and, and_true, reduceCtorEq, ge_iff_le, Nat.le_refl, Nat.zero_le]
            · refine ⟨_, rfl, ?_⟩
              have hf := hit true (by rw [h1, hq]; rfl) rfl
              simp only [X.great, hf, Bool.or_true, Bool.true_or, nvR, nvS, nvL, tF, Nat.reduceAdd, Nat.reduceLT, Nat.reduceEqDiff, Nat.reduceMul, Nat.reduceLeDiff, Nat.add_lt_add_iff_right, Nat.lt_add_left_iff_pos, Nat.add_eq_zero_iff, decide_true, decide_false, eq_self, if_true, if_false, and_self, true_and, and_true, reduceCtorEq, ge_iff_le, Nat.le_refl, Nat.zero_le]
            · refine loop_next (j - 1) (by omega) ⟨i + 1, _, by omega, rfl, by simp only [g1, nvR, nvS, nvL, tF, Nat.reduceAdd, Nat.reduceLT, Nat.reduceEqDiff, Nat.reduceMul, Nat.reduceLeDiff, Nat.add_lt_add_iff_right, Nat.lt_add_left_iff_pos, Nat.add_eq_zero_iff, decide_true, decide_false, eq_self, if_true, if_false, and_self, true_and, and_true, reduceCtorEq, ge_iff_le, Nat.le_refl, Nat.zero_le], ?_, by simp only [hσ, X.c, nvR, nvS, nvL, tF, Nat.reduceAdd, Nat.reduceLT, Nat.reduceEqDiff, Nat.reduceMul, Nat.reduceLeDiff, Nat.add_lt_add_iff_right, Nat.lt_add_left_iff_pos, Nat.add_eq_zero_iff, decide_true, decide_false, eq_self, if_true, if_false, and_self, true_and, and_true, reduceCtorEq, ge_iff_le, Nat.le_refl, Nat.zero_le], key false (by rw [h1, hq]; rfl) rfl⟩
              simp only [nvR, nvS, nvL, tF, Nat.reduceAdd, Nat.reduceLT, Nat.reduceEqDiff, Nat.reduceMul, Nat.reduceLeDiff, Nat.add_lt_add_iff_right, Nat.lt_add_left_iff_pos, Nat.add_eq_zero_iff, decide_true, decide_false, eq_self, if_true, if_false, and_self, true_and, and_true, reduceCtorEq, ge_iff_le, Nat.le_refl, Nat.zero_le]
              rw [wrapF_id (by omega) (by omega)]
              rfl
          · refine ⟨_, rfl, ?_⟩
            have hf := hit true (by rw [h1]; rfl) rfl
            simp only [X.great, hf, Bool.or_true, Bool.true_or, nvR, nvS, nvL, tF, Nat.reduceAdd, Nat.reduceLT, Nat.reduceEqDiff, Nat.reduceMul, Nat.reduceLeDiff, Nat.add_lt_add_iff_right, Nat.lt_add_left_iff_pos, Nat.add_eq_zero_iff, decide_true, decide_false, eq_self, if_true, if_false, and_self, true_and, and_true, reduceCtorEq, ge_iff_le, Nat.le_refl, Nat.zero_le]
        · have hi : i = x.ol.length := by
              (have h' : ¬ ((i : Int) < x.ol.length) := (by simpa using h); omega)
          have hd1 : (x.ol.any fun o => decide (210 < (o.L.length : Int)) || decide (5000 < (o.s.length : Int))) = false := by
            rw [List.any_eq_false]
            intro r hr
            obtain ⟨k, hk, rfl⟩ := List.getElem_of_mem hr
            rw [hb k (by omega) hk]
            simp
          simp only [nvR, nvS, nvL, tF, Nat.reduceAdd, Nat.reduceLT, Nat.reduceEqDiff, Nat.reduceMul, Nat.reduceLeDiff, Nat.add_lt_add_iff_right, Nat.lt_add_left_iff_pos, Nat.add_eq_zero_iff, decide_true, decide_false, eq_self, if_true, if_false, and_self, true_and, and_true, reduceCtorEq, ge_iff_le, Nat.le_refl, Nat.zero_le]
          refine ⟨_, rfl, ?_⟩
          simp only [X.great, h1, h2, hd0, hd1, Bool.or_false, Bool.false_or, Bool.or_self, nvR, nvS, nvL, tF, Nat.reduceAdd, Nat.reduceLT, Nat.reduceEqDiff, Nat.reduceMul, Nat.reduceLeDiff, Nat.add_lt_add_iff_right, Nat.lt_add_left_iff_pos, Nat.add_eq_zero_iff, decide_true, decide_false, eq_self, if_true, if_false, and_self, true_and, and_true, reduceCtorEq, ge_iff_le, Nat.le_refl, Nat.zero_le]
  · exact ⟨_, rfl, by simp only [X.great, h1, Bool.or_true, Bool.true_or, nvR, nvS, nvL, tF, Nat.reduceAdd, Nat.reduceLT, Nat.reduceEqDiff, Nat.reduceMul, Nat.reduceLeDiff, Nat.add_lt_add_iff_right, Nat.lt_add_left_iff_pos, Nat.add_eq_zero_iff, decide_true, decide_false, eq_self, if_true, if_false, and_self, true_and, and_true, reduceCtorEq, ge_iff_le, Nat.le_refl, Nat.zero_le]⟩
theorem X.same_comm (x y : X) : x.same y = y.same x := by
  simp only [X.same]
  generalize (x.ol.all fun a => y.ol.any fun b => a.eq b) = p
  generalize (y.ol.all fun a => x.ol.any fun b => a.eq b) = q
  generalize (x.fl.all fun a => y.fl.any fun b => a.eq b) = r
  generalize (y.fl.all fun a => x.fl.any fun b => a.eq b) = s
  cases p <;> cases q <;> cases r <;> cases s <;> rfl
theorem X.same_self (x : X) : x.same x = true := by
  have h1 : (x.ol.all fun a => x.ol.any fun b => a.eq b) = true := List.all_eq_true.2 fun a ha => List.any_eq_true.2 ⟨a, ha, by simp [O.eq]⟩
  have h2 : (x.fl.all fun a => x.fl.any fun b => a.eq b) = true := List.all_eq_true.2 fun a ha => List.any_eq_true.2 ⟨a, ha, by simp [Rp.eq]⟩
  simp only [X.same, h1, h2, Bool.and_self]
theorem X.small_of {x : X} (h : x.great = false) : x.small := by
  simp only [X.great, Bool.or_eq_false_iff, decide_eq_false_iff_not] at h
  exact ⟨by omega, by omega⟩
theorem c5 (ev : Evn) : callPure Tryz.prog CT ev 5 [] = some (.bool true) := rfl
/-- The law, for any explorations. -/
theorem c3 (N : Nat) (x y : X) : callPure Tryz.prog CT (run Tryz.prog CT (N + 600)) 3 [.agg x.c, .agg y.c] = some (.bool true) := by
  have p1 : ∀ d, isPure (d + 1) x.oa = true := fun d => x.ho.pure
  have p2 : ∀ d, isPure (d + 1) x.fa = true := fun d => x.hf.pure
  have p3 : ∀ d, isPure (d + 1) y.oa = true := fun d => y.ho.pure
  have p4 : ∀ d, isPure (d + 1) y.fa = true := fun d => y.hf.pure
  have g1 := fun N => c4 N x
  have g2 := fun N => c4 N y
  simp only [X.c] at g1 g2
  refine callPure_of rfl (CQ.of Tryz.func3 rfl (by simp [Tryz.f3]) ?_)
  simp only [Tryz.f3, X.c, p1, p2, p3, p4, g1, g2, nvR, nvS, nvL, tF, Nat.reduceAdd, Nat.reduceLT, Nat.reduceEqDiff, Nat.reduceMul, Nat.reduceLeDiff, Nat.add_lt_add_iff_right, Nat.lt_add_left_iff_pos, Nat.add_eq_zero_iff, decide_true, decide_false, eq_self, if_true, if_false, and_self, true_and, and_true, reduceCtorEq, ge_iff_le, Nat.le_refl, Nat.zero_le]
  refine WX_split (fun h1 => ?_) (fun h1 => ?_) <;> simp only [Bool.not_eq_true', Bool.not_eq_false'] at h1 <;> simp only [h1, p1, p2, p3, p4, g1, g2, c5, nvR, nvS, nvL, tF, Nat.reduceAdd, Nat.reduceLT, Nat.reduceEqDiff, Nat.reduceMul, Nat.reduceLeDiff, Nat.add_lt_add_iff_right, Nat.lt_add_left_iff_pos, Nat.add_eq_zero_iff, decide_true, decide_false, eq_self, if_true, if_false, and_self, true_and, and_true, reduceCtorEq, ge_iff_le, Nat.le_refl, Nat.zero_le]
  · refine condW_split (fun h2 => ?_) (fun h2 => ?_) <;> simp only [h2, p1, p2, p3, p4, g1, g2, c5, nvR, nvS, nvL, tF, Nat.reduceAdd, Nat.reduceLT, Nat.reduceEqDiff, Nat.reduceMul, Nat.reduceLeDiff, Nat.add_lt_add_iff_right, Nat.lt_add_left_iff_pos, Nat.add_eq_zero_iff, decide_true, decide_false, eq_self, if_true, if_false, and_self, true_and, and_true, reduceCtorEq, ge_iff_le, Nat.le_refl, Nat.zero_le]
    · exact ⟨_, rfl, rfl⟩
    · refine W_draw [] (by kernel_rfl) (by kernel_rfl) ?_
      have hx := X.small_of h1
      have hy := X.small_of h2
      have e1 := fun N => c6 N x y hx hy
      have e2 := fun N => c6 N y x hy hx
      have e3 := fun N => c6 N x x hx hx
      have e4 := fun N => c7 N x y hx hy
      have q1 := X.same_comm y x
      have q2 := X.same_self x
      have getb : ∀ (ops : Array Oper) (base i b : Nat) (σ : Heap), b < base → getLim σ (limD ops base i) b = σ.get b := fun _ _ _ _ _ h => getLim_old h
      simp only [X.c] at e1 e2 e3 e4
      simp only [p1, p2, p3, p4, e1, e2, e3, e4, q1, q2, c5, getb, bin_beq, beq_self_eq_true, nvR, nvS, nvL, tF, Nat.reduceAdd, Nat.reduceLT, Nat.reduceEqDiff, Nat.reduceMul, Nat.reduceLeDiff, Nat.add_lt_add_iff_right, Nat.lt_add_left_iff_pos, Nat.add_eq_zero_iff, decide_true, decide_false, eq_self, if_true, if_false, and_self, true_and, and_true, reduceCtorEq, ge_iff_le, Nat.le_refl, Nat.zero_le]
      exact ⟨_, rfl, rfl⟩
  · exact ⟨_, rfl, rfl⟩
end Go.Nv.Y
