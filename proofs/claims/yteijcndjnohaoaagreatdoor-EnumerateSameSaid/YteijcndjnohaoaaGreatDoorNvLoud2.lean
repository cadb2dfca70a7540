/- All loud operations but calls of functions, in one statement. -/
import Derived.Test.YteijcndjnohaoaaGreatDoorNvLoud
set_option linter.all false
set_option linter.unusedVariables false
set_option linter.unusedSimpArgs false
namespace Go.Nv
open Go
variable {P : Program} {C : Cfg} {im : IM} {fx : FX} {μ : Mu} {w : World} {σ : Heap} {ρ : Operand → Option AV} {ρ' : Operand → Value}

/-- What an operation, or a call's text, comes to. -/
def Does (P : Program) (im : IM) (fx : FX) (μ : Mu) (σ : Heap) (s : Sem Next) (w : World) (r : CR) (σ' : Heap) : Prop :=
  ∃ w' μ', Turns im fx μ σ w' σ' μ' ∧ (match r with
    | .ret v => ∃ v', (s.run P w = .ok (.value v') w' ∨ (s.run P w = .ok .skip w' ∧ v' = .tuple #[])) ∧ SimV im μ' v v'
    | .pan t v => ∃ v', s.run P w = .halt (.panic (.iface t v')) w' ∧ SimV im μ' v v')

theorem loud_ok (H : WSim im fx μ w σ) (hF : Fresh μ σ.next) (ev : Evn) {o : Oper} {r : CR} {σ' : Heap} (hρ : OSim im μ ρ ρ') (h : loudV P C ev ρ o σ = some (r, σ')) (hc : ∀ c g, o.op = .call c → c.callee ≠ .value g) :
    Does P im fx μ σ (execOp ρ' o) w r σ' := by
  obtain ⟨dst, op, type, pos, after, guard⟩ := o
  have upd : ∀ {t : TypeId} {m k x : Operand}, (op = .mapUpdate t m k x ∨ op = .insert t m k x) → (((ρ m).bind fun a => (ρ k).bind fun kv => (ρ x).bind fun v => (keyTy P t kv).bind fun _ => (match a with
    | .mref b => (match σ.get b with
      | some (.mapb es) => (updM kv v es).bind fun es' => some (CR.ret undefA, σ.set b (.mapb es'))
      | _ => none)
    | _ => none)) = some (r, σ')) → Does P im fx μ σ (execOp ρ' ⟨dst, op, type, pos, after, guard⟩) w r σ' := by
    intro t m k x hop h
    simp only [Option.bind_eq_some_iff] at h
    obtain ⟨a, ha, kv, hk, v, hv, ke, hke, h⟩ := h
    obtain ⟨kt, et⟩ := ke
    split at h
    · rename_i b
      split at h
      · rename_i es hg
        simp only [Option.bind_eq_some_iff, Option.some.injEq, Prod.mk.injEq] at h
        obtain ⟨es2, hes, rfl, rfl⟩ := h
        obtain ⟨w', g1, g2⟩ := mapUpdate_ok (P := P) H hke (hρ _ _ ha) (hρ _ _ hk) (hρ _ _ hv) hg hes
        refine ⟨w', μ, Turns.same g2 rfl hF, .tuple #[], .inr ⟨?_, rfl⟩, .tup _ _ .nil⟩
        rcases hop with rfl | rfl <;> simp only [execOp, Sem.run_bind, g1, Result.andThen_ok, Sem.run_pure]
      · cases h
    · cases h
  unfold loudV at h
  simp only at h
  split at h
  · exact upd (.inl rfl) h
  · exact upd (.inr rfl) h
  · rename_i t x
    simp only [Option.bind_eq_some_iff] at h
    obtain ⟨a, ha, h⟩ := h
    split at h
    · rename_i kt et m hu
      split at h
      · rename_i hg
        simp only [Option.some.injEq, Prod.mk.injEq] at h
        obtain ⟨rfl, rfl⟩ := h
        obtain ⟨v', w', μ', g1, g2, g3⟩ := range_ok (P := P) H hF hu (hρ _ _ ha) hg
        exact ⟨w', μ', g3, v', .inl (by simp only [execOp]; exact run_value g1), g2⟩
      · cases h
    · cases h
  · rename_i x
    simp only [Option.bind_eq_some_iff] at h
    obtain ⟨a, ha, h⟩ := h
    split at h
    · rename_i t v
      simp only [Option.some.injEq, Prod.mk.injEq] at h
      obtain ⟨rfl, rfl⟩ := h
      obtain ⟨v', he, hs⟩ := (hρ _ _ ha).inv_iface
      refine ⟨w, μ, Turns.same H rfl hF, v', ?_, hs⟩
      simp [execOp, he, Instr.panic, goPanic]
    · cases h
  · rename_i c
    obtain ⟨callee, args, argTypes⟩ := c
    simp only at h
    split at h
    · rename_i x y t u rest hargs hts
      rw [list_two hargs]
      split at h
      · cases h
      · rename_i hkind
        have hu : (∃ e', P.underlying u = some (.slice e')) ∨ P.underlying u = some .string := by
          split at hkind
          · exact .inl ⟨_, by assumption⟩
          · exact .inr (by assumption)
          · cases hkind
        simp only [retH, Option.bind_eq_some_iff] at h
        obtain ⟨s, hs, v, hv, ⟨rv, σ1⟩, happ, h⟩ := h
        simp only [Option.some.injEq, Prod.mk.injEq] at h
        obtain ⟨rfl, rfl⟩ := h
        obtain ⟨v', w', μ', g1, g2, g3⟩ := append_ok (P := P) (ty := type) H hF hu happ (hρ _ _ hs) (hρ _ _ hv) rest
        refine ⟨w', μ', g3, v', .inl ?_, g2⟩
        have e : argTypes = (t :: u :: rest).toArray := by rw [← hts]
        simp [execOp, resolve, invoke, builtin, e, g1]
    · rename_i x y t rest hargs hts
      rw [list_two hargs]
      simp only [Option.bind_eq_some_iff] at h
      obtain ⟨a, ha, l, hl, h⟩ := h
      have h0 : argTypes[0]? = some t := by
        have : argTypes.toList[0]? = some t := by rw [hts]; rfl
        simpa using this
      split at h
      · simp only [Option.some.injEq, Prod.mk.injEq] at h
        obtain ⟨rfl, rfl⟩ := h
        refine ⟨w, μ, Turns.same H rfl hF, .string .empty, .inl ?_, .str []⟩
        have e1 := (hρ _ _ ha).inv_nilp
        have e2 := (hρ _ _ hl).inv_int
        have hm : ∀ (h1 : Option Addr → Value → Sem Value) (h2 : Array Value → Sem Value), Builtin.unsafeString_.match_3 (motive := fun _ => Sem Value) #[.pointer none, .int .i64 (Int.ofNat 0)] h1 h2 = h1 none (.int .i64 (Int.ofNat 0)) := fun _ _ => rfl
        have hrun : (Builtin.unsafeString_ argTypes type #[.pointer none, .int .i64 (Int.ofNat 0)]).run P w = .ok (.string .empty) w := by
          rw [Builtin.unsafeString_.eq_1, hm]
          have hmax : IntKind.i64.max = 9223372036854775807 := rfl
          simp [asInt, asIntOf, hmax, h0]
        simp only [execOp, resolve, Sem.run_bind, Sem.run_pure, Result.andThen_ok, invoke, builtin]
        simp only [List.map_toArray, List.map_cons, List.map_nil, e1, e2]
        rw [hrun]
        rfl
      · rename_i b o n
        split at h
        · rename_i tyb vb cs e hg hu
          split at h
          · rename_i h1 h2 h3 h4
            split at h
            · rename_i h5
              simp only [Option.bind_eq_some_iff, Option.some.injEq, Prod.mk.injEq] at h
              obtain ⟨bs, hbs, rfl, rfl⟩ := h
              have h1' := Nat.le_of_ble_eq_true h1
              have h2' := Nat.eq_of_beq_eq_true h2
              have h3' := Nat.eq_of_beq_eq_true h3
              have h5' := Nat.le_of_ble_eq_true h5
              have e2 := (hρ _ _ hl).inv_int
              have h63 : ((n + 1 : Nat) : Int) ≤ 9223372036854775807 := by simp only [catLimit] at h5'; omega
              obtain ⟨w', g1, g2⟩ := unsafeString_ok (P := P) (it := t) (ty := type) H (hρ _ _ ha) hg h0 hu h1' h2' h3' hbs h63
              refine ⟨w', μ, Turns.same g2 rfl hF, _, .inl ?_, .str bs⟩
              simp only [execOp, resolve, Sem.run_bind, Sem.run_pure, Result.andThen_ok, invoke, builtin]
              simp only [List.map_toArray, List.map_cons, List.map_nil, e2]
              have g1' : (Builtin.unsafeString_ argTypes type #[ρ' x, .int .i64 (Int.ofNat (n + 1))]).run P w = .ok (.string ⟨bs.toArray⟩) w' := g1
              rw [g1']
              rfl
            · cases h
          · cases h
        · cases h
      · cases h
    · rename_i x y t rest hargs hts
      rw [list_two hargs]
      simp only [retH, Option.bind_eq_some_iff] at h
      obtain ⟨d, hd, s, hs, ⟨rv, σ1⟩, hcp, h⟩ := h
      simp only [Option.some.injEq, Prod.mk.injEq] at h
      obtain ⟨rfl, rfl⟩ := h
      obtain ⟨v', w', g1, g2, g3⟩ := copy_ok (P := P) (ty := type) H hF hcp (hρ _ _ hd) (hρ _ _ hs) rest
      refine ⟨w', μ, g3, v', .inl ?_, g2⟩
      have e : argTypes = (t :: rest).toArray := by rw [← hts]
      simp [execOp, resolve, invoke, builtin, e, g1]
    · rename_i g as hargs
      exact absurd rfl (hc _ _ rfl)
    · cases h
  · cases h

end Go.Nv
