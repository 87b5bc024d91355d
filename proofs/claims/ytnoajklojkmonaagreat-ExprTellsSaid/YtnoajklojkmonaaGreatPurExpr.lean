/- Expressions, in plain Lean: when one may be, its columns. Conditions: none. -/
import Derived.Test.YtnoajklojkmonaaGreatSimCols
set_option linter.unusedSimpArgs false
set_option linter.unusedVariables false
namespace Go.Sim.Tryz
open Go Go.Sim

/- How deep. -/
mutual
def hgt : Ex → Int
  | .mk _ _ _ _ l => 1 + hgtL l
def hgtL : List Ex → Int
  | [] => 0
  | x :: l => max (hgt x) (hgtL l)
end
mutual
theorem hgt_pos : ∀ e, 1 ≤ hgt e
  | .mk _ _ _ _ l => by rw [hgt]; have := hgtL_pos l; omega
theorem hgtL_pos : ∀ l, 0 ≤ hgtL l
  | [] => by rw [hgtL]; omega
  | x :: l => by rw [hgtL]; have := hgtL_pos l; omega
end
theorem cnt_pos : ∀ e, 1 ≤ cnt e
  | .mk _ _ _ _ l => by rw [cnt]; omega
mutual
def fineE : Ex → Bool
  | .mk op col k n l => (Ex.mk op col k n l).part && fineL l
def fineL : List Ex → Bool
  | [] => true
  | x :: l => fineE x && fineL l
end
mutual
theorem each_may : ∀ (e : Ex) (d n : Int), 0 ≤ n → n ≤ 30 → 0 ≤ d → d ≤ 7 →
    ((eachS mayStep e d n).2 = (fineE e && decide (n + cnt e ≤ 30) && decide (d + hgt e ≤ 7))) ∧ ((eachS mayStep e d n).2 = true → (eachS mayStep e d n).1 = n + cnt e)
  | .mk op col k nn l, d, n, h0, h1, h2, h3 => by
    have hw1 : IntKind.wrap .i64 (n + 1) = n + 1 := wrap64 (by omega) (by omega)
    have hw2 : IntKind.wrap .i64 (d + 1) = d + 1 := wrap64 (by omega) (by omega)
    rw [eachS, fineE, cnt, hgt]
    simp only [mayStep, hw1, hw2]
    have hh := hgtL_pos l
    by_cases hc : n + 1 ≤ 30 ∧ d ≤ 6 ∧ (Ex.mk op col k nn l).part = true
    · obtain ⟨c1, c2, c3⟩ := hc
      have hs : (decide (n + 1 ≤ 30) && decide (d ≤ 6) && (Ex.mk op col k nn l).part) = true := by simp [c1, c2, c3]
      rw [if_pos hs]
      obtain ⟨q1, q2⟩ := eachL_may l (d + 1) (n + 1) (by omega) (by omega) (by omega) (by omega)
      refine ⟨?_, fun h => by rw [q2 h]; push_cast; omega⟩
      rw [q1, c3, Bool.true_and]
      congr 2
      · rw [decide_eq_decide]; push_cast; omega
      · exact propext (by omega)
    · have hs : (decide (n + 1 ≤ 30) && decide (d ≤ 6) && (Ex.mk op col k nn l).part) = false := by
        rw [Bool.eq_false_iff]
        intro h
        simp only [Bool.and_eq_true, decide_eq_true_eq] at h
        exact hc ⟨h.1.1, h.1.2, h.2⟩
      rw [if_neg (by simp [hs])]
      refine ⟨?_, fun h => by cases h⟩
      symm
      rw [Bool.eq_false_iff]
      intro h
      simp only [Bool.and_eq_true, decide_eq_true_eq] at h
      obtain ⟨⟨⟨a1, a2⟩, a3⟩, a4⟩ := h
      exact hc ⟨by push_cast at a3; omega, by omega, a1⟩
theorem eachL_may : ∀ (l : List Ex) (d n : Int), 0 ≤ n → n ≤ 30 → 0 ≤ d → d ≤ 7 →
    ((eachL mayStep l d n).2 = (fineL l && decide (n + cntL l ≤ 30) && decide (d + hgtL l ≤ 7))) ∧ ((eachL mayStep l d n).2 = true → (eachL mayStep l d n).1 = n + cntL l)
  | [], d, n, h0, h1, h2, h3 => by
    rw [eachL, fineL, cntL, hgtL]
    refine ⟨by simp; omega, fun _ => by simp⟩
  | x :: l, d, n, h0, h1, h2, h3 => by
    obtain ⟨p1, p2⟩ := each_may x d n h0 h1 h2 h3
    have hx := hgt_pos x
    have hl := hgtL_pos l
    have hcx := cnt_pos x
    rw [eachL, fineL, cntL, hgtL]
    by_cases hc : (eachS mayStep x d n).2 = true
    · rw [if_pos hc, p2 hc]
      have hc' := hc
      rw [p1] at hc'
      simp only [Bool.and_eq_true, decide_eq_true_eq] at hc'
      obtain ⟨⟨c1, c2⟩, c3⟩ := hc'
      obtain ⟨q1, q2⟩ := eachL_may l d (n + cnt x) (by omega) c2 h2 h3
      refine ⟨?_, fun h => by rw [q2 h]; push_cast; omega⟩
      rw [q1, c1, Bool.true_and]
      congr 2
      · rw [decide_eq_decide]; push_cast; omega
      · exact propext (by omega)
    · rw [if_neg hc]
      refine ⟨?_, fun h => by cases h⟩
      symm
      rw [Bool.eq_false_iff]
      intro h
      simp only [Bool.and_eq_true, decide_eq_true_eq] at h
      obtain ⟨⟨⟨a1, a2⟩, a3⟩, a4⟩ := h
      apply hc
      rw [p1]
      simp only [Bool.and_eq_true, decide_eq_true_eq]
      exact ⟨⟨a1, by push_cast at a3; omega⟩, by omega⟩
end
theorem may_eq (e : Ex) : e.may = (fineE e && decide (cnt e ≤ 30) && decide (hgt e ≤ 6)) := by
  rw [Ex.may, (each_may e 1 0 (by omega) (by omega) (by omega) (by omega)).1]
  congr 2
  · rw [decide_eq_decide]; omega
  · exact propext (by omega)
theorem fineL_mem : ∀ {l : List Ex} {x : Ex}, fineL l = true → x ∈ l → fineE x = true ∧ cnt x ≤ cntL l ∧ hgt x ≤ hgtL l
  | [], x, _, h => by simp at h
  | y :: l, x, hf, h => by
    rw [fineL, Bool.and_eq_true] at hf
    rw [cntL, hgtL]
    rcases List.mem_cons.1 h with rfl | h
    · exact ⟨hf.1, by omega, by omega⟩
    · obtain ⟨h1, h2, h3⟩ := fineL_mem hf.2 h
      exact ⟨h1, by omega, by omega⟩
/-- Each part of one that may be may be. -/
theorem may_part {op col k n : Int} {l : List Ex} (h : (Ex.mk op col k n l).may = true) {x : Ex} (hx : x ∈ l) : x.may = true := by
  rw [may_eq, fineE, cnt, hgt] at h
  rw [may_eq]
  simp only [Bool.and_eq_true, decide_eq_true_eq] at h ⊢
  obtain ⟨⟨⟨h1, h2⟩, h3⟩, h4⟩ := h
  obtain ⟨q1, q2, q3⟩ := fineL_mem h2 hx
  exact ⟨⟨q1, by omega⟩, by omega⟩

/- Its columns. -/
mutual
def colsOf : Ex → List Int
  | .mk op col _ _ l => (if op = 1 then [col] else []) ++ colsOfL l
def colsOfL : List Ex → List Int
  | [] => []
  | x :: l => colsOf x ++ colsOfL l
end
mutual
theorem each_cols : ∀ (e : Ex) (d : Int) (s : List Int), eachS colStep e d s = (s ++ colsOf e, true)
  | .mk op col k n l, d, s => by
    rw [eachS, colsOf]
    have h1 : colStep s (Ex.mk op col k n l) d = (if op = 1 then s ++ [col] else s, true) := rfl
    rw [h1, if_pos rfl, eachL_cols l]
    split <;> simp
theorem eachL_cols : ∀ (l : List Ex) (d : Int) (s : List Int), eachL colStep l d s = (s ++ colsOfL l, true)
  | [], d, s => by rw [eachL, colsOfL]; simp
  | x :: l, d, s => by
    rw [eachL, each_cols x, if_pos rfl, eachL_cols l, colsOfL]
    simp
end
theorem colsAll_eq (e : Ex) : e.colsAll = colsOf e := by rw [Ex.colsAll, each_cols]; simp
theorem cols_eq (e : Ex) : e.cols = if e.may then Lib.compact ((colsOf e).mergeSort fun x y => decide (x ≤ y)) else [] := by rw [Ex.cols, colsAll_eq]

theorem eval_may {e : Ex} (h : e.may = true) (cols : List Int) (row : List Vl) : e.eval cols row = evalE cols row e := by rw [Ex.eval, if_pos h]
theorem compact_len (l : List Int) : (Lib.compact l).length ≤ l.length := by
  have := compactAll_length l
  rw [compactAll, List.length_append] at this
  omega
theorem cols_len (e : Ex) : e.cols.length ≤ cnt e := by
  rw [Ex.cols]
  split
  · refine Nat.le_trans (compact_len _) ?_
    rw [List.length_mergeSort]
    exact colsAll_len e
  · simp
theorem may_cnt {e : Ex} (h : e.may = true) : cnt e ≤ 30 := by
  rw [may_eq] at h
  simp only [Bool.and_eq_true, decide_eq_true_eq] at h
  exact h.1.2
end Go.Sim.Tryz
