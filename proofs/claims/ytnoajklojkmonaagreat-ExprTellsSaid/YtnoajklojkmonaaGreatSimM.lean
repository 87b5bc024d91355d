/- '==' of structs of numbers. Conditions: none. -/
import Derived.Test.YtnoajklojkmonaaGreatSimL
set_option linter.unusedSimpArgs false
set_option linter.unusedVariables false
namespace Go.Sim

theorem run_part {P : Program} {w : World} {t : TypeId} {xs : Array Value} {o n : Nat} {x : Value} (h : tload P t = some (n, false)) (hx : xs[o]? = some x) : (part t xs o).run P w = .ok x w := by
  obtain ⟨_, ha, _⟩ := tload_ok h w
  simp [part, ha, hx]

theorem cmp_int2 {P : Program} {t : TypeId} {f0 f1 : Field} {n0 n1 : Nat} (hu : P.underlying t = some (.struct #[f0, f1])) (hs : P.stoodInHeld t = false) (hg : P.eqGuardType P.depth t = false)
    (h0 : f0.name ≠ "_") (h1 : f1.name ≠ "_") (o0 : f0.offset = 0) (o1 : f1.offset = 1) (l0 : tload P f0.type = some (n0, false)) (l1 : tload P f1.type = some (n1, false)) (u0 : P.underlying f0.type = some (.int .i64)) (u1 : P.underlying f1.type = some (.int .i64))
    (a b c d : Int) : CmpAt P t [.int .i64 a, .int .i64 b] [.int .i64 c, .int .i64 d] (decide (a = c) && (decide (b = d) && true)) := by
  intro w
  have pa : (part f0.type #[.int .i64 a, .int .i64 b] f0.offset).run P w = .ok (.int .i64 a) w := run_part l0 (by rw [o0]; rfl)
  have pb : (part f1.type #[.int .i64 a, .int .i64 b] f1.offset).run P w = .ok (.int .i64 b) w := run_part l1 (by rw [o1]; rfl)
  have pc : (part f0.type #[.int .i64 c, .int .i64 d] f0.offset).run P w = .ok (.int .i64 c) w := run_part l0 (by rw [o0]; rfl)
  have pd : (part f1.type #[.int .i64 c, .int .i64 d] f1.offset).run P w = .ok (.int .i64 d) w := run_part l1 (by rw [o1]; rfl)
  refine ⟨?_, fun x y op => ?_⟩
  · show (Op.equalIn (9999 + 1) t _ _).run P w = _
    rw [Op.equalIn]
    simp only [run_underlying hu, Sem.run_bind, Result.andThen_ok, run_program, hs, Bool.false_eq_true, if_false, Sem.run_pure, List.forIn_toArray, List.forIn_cons, List.forIn_nil, h0, h1, ne_eq, not_false_eq_true, if_true, pa, pb, pc, pd]
    have k0 : ∀ a b w, (Op.equalIn 9999 f0.type (.int .i64 a) (.int .i64 b)).run P w = .ok (a == b) w := fun a b w => by
      show (Op.equalIn (9998 + 1) _ _ _).run P w = _
      rw [Op.equalIn]
      simp only [run_underlying u0, Sem.run_bind, Result.andThen_ok, if_true, Sem.run_pure]
    have k1 : ∀ a b w, (Op.equalIn 9999 f1.type (.int .i64 a) (.int .i64 b)).run P w = .ok (a == b) w := fun a b w => by
      show (Op.equalIn (9998 + 1) _ _ _).run P w = _
      rw [Op.equalIn]
      simp only [run_underlying u1, Sem.run_bind, Result.andThen_ok, if_true, Sem.run_pure]
    by_cases e1 : a = c
    · subst e1
      by_cases e2 : b = d
      · subst e2
        simp [k0, k1, pa, pb, pc, pd]
      · have e3 : (b == d) = false := by simpa using e2
        simp [k0, k1, pa, pb, pc, pd, e2, e3]
    · have e3 : (a == c) = false := by simpa using e1
      simp [k0, k1, e1, e3]
  · unfold eqGuard
    by_cases ho : (match op with | .eql => true | .neq => true | _ => false) = true
    · simp [hg]
    · simp [hg]
def encI (n : Int) : List AV := [.int n]
abbrev rowI (zs : List Int) : List (List AV) := zs.map encI
end Go.Sim
