/- The law ExprPart, in plain Lean. Conditions: none. -/
import Derived.Test.YtnoajklojkmonaaPurExpr
import Derived.Test.YtnoajklojkmonaaSimPart
import Derived.Test.YtnoajklojkmonaaSimIn02
set_option linter.unusedSimpArgs false
set_option linter.unusedVariables false
namespace Go.Sim.Try
open Go Go.Sim

theorem not_true (v : Vl) : v.not.true? = (v.may && decide (v.k = 0) && decide (v.n = 0)) := by
  obtain ⟨k, n⟩ := v
  by_cases hm : (Vl.mk k n).may = true
  · have hf : (Vl.mk k n).fine = ⟨k, n⟩ := by rw [Vl.fine, if_pos hm]
    simp only [Vl.not, Vl.odd, List.any_cons, List.any_nil, Bool.or_false, hf, hm, Bool.true_and]
    by_cases h2 : k = 2
    · simp [h2, Vl.bad, Vl.true?]
    · by_cases h1 : k = 1
      · simp [h1, Vl.null, Vl.true?]
      · have h0 : k = 0 := by
          simp only [Vl.may, Bool.and_eq_true, decide_eq_true_eq] at hm
          omega
        by_cases hn : n = 0 <;> simp [h0, hn, Vl.ofB, Vl.of, Vl.true?]
  · have hf : (Vl.mk k n).fine = .bad := by rw [Vl.fine, if_neg hm]
    simp only [Vl.not, Vl.odd, List.any_cons, List.any_nil, Bool.or_false, hf]
    rw [Bool.eq_false_iff.2 hm]
    simp [Vl.bad, Vl.true?]

theorem partLaw_true (e : Ex) (row : List Vl) : partLaw e row = true := by
  unfold partLaw
  split
  · rfl
  rename_i h1
  have hmay : e.may = true := by grind
  split
  · rename_i h2
    obtain ⟨op, col, k, n, l⟩ := e
    have : l.all Ex.may = true := List.all_eq_true.2 fun x hx => may_part hmay hx
    simp [Ex.l, this] at h2
  · split
    · rfl
    · rename_i h3
      have hn : (Ex.mk 10 0 0 0 [e]).may = true := by simpa using h3
      rw [Bool.and_eq_true, beq_iff_eq, decide_eq_true_eq]
      refine ⟨?_, ?_⟩
      · rw [Ex.keeps, eval_may hn, evalE, if_neg (by decide), if_neg (by decide), eval_may hmay]
        simp only [evalL, Vl.way]
        rw [← not_true]
        rfl
      · rw [cols_eq, cols_eq, hn, hmay]
        simp [colsOf, colsOfL]

theorem exprPart_law (us : List AV) (h : ToldAll Go.Proofs.Try.prog Go.Proofs.Try.f10.params.toList us) : Quiet Go.Proofs.Try.prog 10 us (.bool true) := by
  have e1 : Go.Proofs.Try.f10.params.toList = [41, 42] := by kernel_rfl
  rw [e1] at h
  obtain ⟨e, row, he, hr, rfl⟩ := told_EV h
  have := exprPart_ok e he row hr
  rwa [partLaw_true] at this
end Go.Sim.Try
