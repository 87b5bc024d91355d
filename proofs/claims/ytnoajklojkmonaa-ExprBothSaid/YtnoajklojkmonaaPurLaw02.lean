/- The laws ExprPair, ExprBoth, ExprOwn, in plain Lean. Conditions: none. -/
import Derived.Test.YtnoajklojkmonaaPurSet
import Derived.Test.YtnoajklojkmonaaPurExpr
import Derived.Test.YtnoajklojkmonaaSimIn02
import Derived.Test.YtnoajklojkmonaaSimPair
import Derived.Test.YtnoajklojkmonaaSimBoth
import Derived.Test.YtnoajklojkmonaaSimOwn
set_option linter.unusedSimpArgs false
set_option linter.unusedVariables false
namespace Go.Sim.Try
open Go Go.Sim

theorem cols_uniq {e : Ex} (h : e.may = true) : e.cols = uniq (colsOf e) := by rw [cols_eq, if_pos h]; rfl
theorem may_fineE {e : Ex} (h : e.may = true) : fineE e = true := by
  rw [may_eq] at h
  simp only [Bool.and_eq_true] at h
  exact h.1.1
/-- What is so of a part that is fine. -/
theorem part_facts {op col k n : Int} {l : List Ex} (h : (Ex.mk op col k n l).part = true) :
    0 ≤ op ∧ op < 11 ∧ wayLo op ≤ l.length ∧ (l.length : Int) ≤ wayHi op ∧ (col = 0 ∨ (op = 1 ∧ 0 < col ∧ col ≤ 15)) := by
  simp only [Ex.part, Ex.op, Ex.col, Ex.l, Bool.and_eq_true, Bool.or_eq_true, decide_eq_true_eq] at h
  obtain ⟨⟨⟨⟨h1, h2⟩, h3, h4⟩, h5⟩, h6⟩ := h
  exact ⟨of_decide_eq_true h1, of_decide_eq_true h2, of_decide_eq_true h3, of_decide_eq_true h4, h5.elim (fun h => .inl (of_decide_eq_true h)) fun h => .inr ⟨of_decide_eq_true h.1.1, of_decide_eq_true h.1.2, of_decide_eq_true h.2⟩⟩
theorem col_fine {col k n : Int} {l : List Ex} (h : (Ex.mk 1 col k n l).part = true) : l = [] ∧ 0 ≤ col ∧ col ≤ 15 := by
  obtain ⟨_, _, _, h4, h5⟩ := part_facts h
  have : wayHi 1 = 0 := by decide
  rw [this] at h4
  exact ⟨List.eq_nil_of_length_eq_zero (by omega), by omega, by omega⟩

/-- The place of a number in 0, 1, .. -/
theorem idx_upto (n : Nat) (c : Int) (h0 : 0 ≤ c) (h1 : c < n) : idx (fun x => decide (c = x)) (upto n) = c := by
  obtain ⟨i, rfl⟩ : ∃ i : Nat, c = i := ⟨c.toNat, by omega⟩
  have hi : i < (upto n).length := by rw [upto_len]; omega
  have hg : ∀ j (h : j < (upto n).length), (upto n)[j] = (j : Int) := fun j h => by simp [upto]
  exact idx_hit (p := fun x => decide ((i : Int) = x)) hi (fun j h hj => by rw [hg j h]; simp; omega) (by rw [hg i hi]; simp)
theorem look_upto (row : List Vl) (c : Int) (h0 : 0 ≤ c) (h1 : c < row.length) : look (upto row.length) row c = row.getD c.toNat .bad := by
  unfold look
  rw [idx_upto _ c h0 h1, if_neg (by omega)]
theorem idx_down (n : Nat) (c : Int) (h0 : 0 ≤ c) (h1 : c < n) : idx (fun x => decide (c = x)) (down n) = n - 1 - c := by
  obtain ⟨i, rfl⟩ : ∃ i : Nat, c = i := ⟨c.toNat, by omega⟩
  have hl : (down n).length = n := down_len n
  have hg : ∀ j (h : j < (down n).length), (down n)[j] = ((n - 1 - j : Nat) : Int) := fun j h => by
    simp only [down, upto, List.getElem_reverse, List.getElem_map, List.getElem_range, List.length_map, List.length_range]
    rfl
  have hi : n - 1 - i < (down n).length := by omega
  have := idx_hit (p := fun x => decide ((i : Int) = x)) hi (fun j h hj => by rw [hg j h]; simp; omega) (by rw [hg _ hi]; simp; omega)
  rw [this]
  omega

theorem fine_may {v : Vl} (h : v.may = true) : v.fine = v := by rw [Vl.fine, if_pos h]
theorem fine_bad {v : Vl} (h : ¬ v.may = true) : v.fine = .bad := by rw [Vl.fine, if_neg h]
theorem may_k0 {v : Vl} (h : v.k = 0) : v.may = true := by simp [Vl.may, h]
/-- One that is fine is a number, nothing, or an error. -/
theorem fine_k (v : Vl) : (v.k = 0 ∧ v.fine.k = 0 ∧ v.may = true) ∨ (v.k ≠ 0 ∧ v.fine.k = 1) ∨ (v.k ≠ 0 ∧ v.fine.k = 2) := by
  by_cases h : v.may = true
  · rw [fine_may h]
    have h' := h
    simp only [Vl.may, Bool.and_eq_true, decide_eq_true_eq] at h'
    by_cases h0 : v.k = 0
    · exact .inl ⟨h0, h0, h⟩
    · have : v.k = 1 ∨ v.k = 2 := by omega
      rcases this with h1 | h2
      · exact .inr (.inl ⟨h0, h1⟩)
      · exact .inr (.inr ⟨h0, h2⟩)
  · rw [fine_bad h]
    exact .inr (.inr ⟨fun h0 => h (may_k0 h0), rfl⟩)
theorem ofB_true (b : Bool) : (Vl.ofB b).true? = b := by cases b <;> rfl
theorem odd_true {l : List Vl} (h : (Vl.odd l).2 = true) : (Vl.odd l).1.true? = false := by
  unfold Vl.odd at h ⊢
  split
  · rfl
  · split
    · rfl
    · simp_all
theorem any_or2 {α : Type} (p q : α → Bool) : ∀ l : List α, l.any (fun x => p x || q x) = (l.any p || l.any q)
  | [] => rfl
  | x :: l => by simp only [List.any_cons, any_or2 p q l]; cases p x <;> cases q x <;> cases l.any p <;> cases l.any q <;> rfl
theorem odd_is (l : List Vl) : (Vl.odd l).2 = l.any (fun v => !decide (v.k = 0)) := by
  have h : ∀ v : Vl, (!decide (v.k = 0)) = (decide (v.fine.k = 2) || decide (v.fine.k = 1)) := fun v => by
    rcases fine_k v with ⟨h1, h2, _⟩ | ⟨h1, h2⟩ | ⟨h1, h2⟩ <;> simp [h1, h2]
  have h2 : l.any (fun v => !decide (v.k = 0)) = (l.any (fun v => decide (v.fine.k = 2)) || l.any (fun v => decide (v.fine.k = 1))) := by
    rw [← any_or2]
    congr 1
    funext v
    exact h v
  rw [h2]
  unfold Vl.odd
  split
  · rename_i h; rw [h]; rfl
  · rename_i h
    rw [Bool.eq_false_iff.2 h]
    split
    · rename_i h; rw [h]; rfl
    · rename_i h; rw [Bool.eq_false_iff.2 h]; rfl
theorem eq_true (a b : Vl) : (a.eq b).true? = (decide (a.k = 0) && (decide (a.k = b.k) && decide (a.n = b.n)) && a.may) := by
  unfold Vl.eq
  have ho := odd_is [a, b]
  simp only [List.any_cons, List.any_nil, Bool.or_false] at ho
  by_cases h : (Vl.odd [a, b]).2 = true
  · rw [if_pos h, odd_true h]
    rw [h] at ho
    symm
    rw [Bool.eq_false_iff]
    intro h2
    simp only [Bool.and_eq_true, decide_eq_true_eq] at h2
    simp only [Bool.true_eq, Bool.or_eq_true, Bool.not_eq_true', decide_eq_false_iff_not] at ho
    omega
  · rw [if_neg h, ofB_true]
    rw [Bool.eq_false_iff.2 h] at ho
    simp only [Bool.false_eq, Bool.or_eq_false_iff, Bool.not_eq_false', decide_eq_true_eq] at ho
    rw [may_k0 ho.1]
    simp [ho.1, ho.2]

theorem keeps_may {e : Ex} (h : e.may = true) (cols : List Int) (row : List Vl) : e.keeps cols row = (evalE cols row e).true? := by rw [Ex.keeps, eval_may h]

theorem pair_cases (e : Ex) : e.pair = (0, 0, false) ∨ e.pair.2.2 = true := by
  unfold Ex.pair
  split
  · split
    · exact .inr rfl
    · exact .inl rfl
  · exact .inl rfl
theorem pairLaw_true (e : Ex) (row : List Vl) : pairLaw e row = true := by
  unfold pairLaw
  split
  · rfl
  rename_i h1
  have h16 : row.length = 16 := by simp at h1; exact h1.2
  by_cases his : e.pair.2.2 = true
  · have hmay := pair_is his
    obtain ⟨op, col, k, n, l⟩ := e
    unfold Ex.pair at his
    split at his
    · rename_i op' col' k' n' x y heq
      injection heq with e1 e2 e3 e4 e5
      subst e1 e2 e3 e4 e5
      split at his
      · rename_i hc
        have hp : (Ex.mk op col k n [x, y]).pair = (x.col, y.col, true) := by rw [Ex.pair, if_pos hc]
        simp only [Bool.and_eq_true, decide_eq_true_eq, Bool.not_eq_true', decide_eq_false_iff_not] at hc
        obtain ⟨⟨⟨⟨_, c1⟩, c2⟩, c3⟩, c4⟩ := hc
        have hx := may_fineE (may_part hmay (x := x) (by simp))
        have hy := may_fineE (may_part hmay (x := y) (by simp))
        obtain ⟨xo, xc, xk, xn, xl⟩ := x
        obtain ⟨yo, yc, yk, yn, yl⟩ := y
        simp only [Ex.op] at c2 c3
        subst c1 c2 c3
        rw [fineE, Bool.and_eq_true] at hx hy
        obtain ⟨rfl, x1, x2⟩ := col_fine hx.1
        obtain ⟨rfl, y1, y2⟩ := col_fine hy.1
        rw [hp]
        dsimp only [Ex.col] at c4 ⊢
        have hcond : ¬ ((!true || decide (xc < 0) || decide (yc < 0) || decide (15 < xc) || decide (15 < yc) || decide (xc = yc)) = true) := by
          intro hc
          simp only [Bool.not_true, Bool.false_or, Bool.or_eq_true, decide_eq_true_eq] at hc
          omega
        refine Eq.trans (if_neg hcond) ?_
        rw [Bool.and_eq_true, beq_iff_eq, decide_eq_true_eq]
        constructor
        · rw [keeps_may hmay, evalE, if_neg (by decide), if_neg (by decide)]
          have wy : ∀ u v : Vl, Vl.way 6 [u, v] = u.eq v := fun u v => rfl
          simp only [evalL, wy]
          rw [evalE, if_neg (by decide), if_pos rfl, evalE, if_neg (by decide), if_pos rfl, look_upto row xc x1 (by omega), look_upto row yc y1 (by omega), eq_true]
          rfl
        · rw [cols_uniq hmay]
          have hcols : colsOf (Ex.mk 6 col k n [Ex.mk 1 xc xk xn [], Ex.mk 1 yc yk yn []]) = [xc, yc] := by simp [colsOf, colsOfL]
          rw [hcols]
          have h1 := uniq_len [xc, yc]
          have h2 : [xc, yc].length ≤ (uniq [xc, yc]).length := nodup_len (by simp [c4]) fun z hz => (uniq_mem _ z).2 hz
          simp only [List.length_cons, List.length_nil] at h1 h2
          omega
      · cases his
    · cases his
  · have hp : e.pair = (0, 0, false) := (pair_cases e).resolve_right his
    rw [hp]
    rfl

/- A column that an expression has is one of its columns. -/
mutual
theorem has_cols (c : Int) : ∀ e : Ex, hasE c e = (colsOf e).contains c
  | .mk op col k n l => by
    rw [hasE, colsOf, List.contains_append, has_colsL c l]
    by_cases h : op = 1
    · subst h
      simp only [if_true, decide_true, Bool.true_and, List.contains_cons, List.contains_nil, Bool.or_false]
      by_cases h2 : col = c
      · simp [h2]
      · have : (c == col) = false := by simp; omega
        simp [h2, this]
    · simp [h]
theorem has_colsL (c : Int) : ∀ l : List Ex, hasL c l = (colsOfL l).contains c
  | [] => by simp [hasL, colsOfL]
  | x :: l => by rw [hasL, colsOfL, List.contains_append, has_cols c x, has_colsL c l]
end

theorem and_true2 (a b : Vl) : (Vl.and [a, b]).true? = (a.true? && b.true?) := by
  unfold Vl.and Vl.three
  have ho := odd_is [a, b]
  simp only [List.any_cons, List.any_nil, Bool.or_false] at ho ⊢
  by_cases hf : (a.false? || b.false?) = true
  · rw [if_pos hf]
    simp only [Vl.false?, Vl.true?, Vl.of, Bool.or_eq_true, Bool.and_eq_true, decide_eq_true_eq] at hf ⊢
    rcases hf with ⟨h1, h2⟩ | ⟨h1, h2⟩ <;> simp [h1, h2]
  · rw [if_neg hf]
    by_cases h : (Vl.odd [a, b]).2 = true
    · rw [if_pos h, odd_true h]
      rw [h] at ho
      simp only [Bool.true_eq, Bool.or_eq_true, Bool.not_eq_true', decide_eq_false_iff_not] at ho
      simp only [Vl.true?]
      rcases ho with h1 | h1 <;> simp [h1]
    · rw [if_neg h]
      rw [Bool.eq_false_iff.2 h] at ho
      simp only [Bool.false_eq, Bool.or_eq_false_iff, Bool.not_eq_false', decide_eq_true_eq] at ho
      simp only [Vl.false?, Vl.true?, Vl.of, ho.1, ho.2, decide_true, Bool.true_and, Bool.or_eq_true, decide_eq_true_eq, not_or] at hf ⊢
      simp [hf.1, hf.2]
theorem or_true2 (a b : Vl) : (Vl.or [a, b]).true? = (a.true? || b.true?) := by
  unfold Vl.or Vl.three
  simp only [List.any_cons, List.any_nil, Bool.or_false]
  by_cases hf : (a.true? || b.true?) = true
  · rw [if_pos hf, hf]; rfl
  · rw [if_neg hf, Bool.eq_false_iff.2 hf]
    by_cases h : (Vl.odd [a, b]).2 = true
    · rw [if_pos h, odd_true h]
    · rw [if_neg h]; rfl

theorem way_and (l : List Vl) : Vl.way 8 l = Vl.and l := rfl
theorem way_or (l : List Vl) : Vl.way 9 l = Vl.or l := rfl
theorem oneOf_may {e f : Ex} (h : (both e f).may = true) : (oneOf e f).may = true := by
  rw [both, may_eq, fineE, cnt, hgt] at h
  rw [oneOf, may_eq, fineE, cnt, hgt]
  exact h

theorem bothLaw_true (e f : Ex) (row : List Vl) : bothLaw e f row = true := by
  unfold bothLaw
  split
  · rfl
  rename_i h1
  have hmay : (both e f).may = true := by
    simp only [Bool.or_eq_true, Bool.not_eq_true', not_or, Bool.not_eq_false] at h1
    exact h1.2
  have hem : e.may = true := may_part hmay (by simp)
  have hfm : f.may = true := may_part hmay (by simp)
  have hcb : colsOf (both e f) = colsOf e ++ colsOf f := by simp [both, colsOf, colsOfL]
  rw [if_neg]
  · rw [keeps_may hmay, keeps_may hem, keeps_may hfm, keeps_may (oneOf_may hmay)]
    have e1 : evalE (upto row.length) row (both e f) = Vl.and [evalE (upto row.length) row e, evalE (upto row.length) row f] := by
      rw [both, evalE, if_neg (by decide), if_neg (by decide), way_and]; simp only [evalL]
    have e2 : evalE (upto row.length) row (oneOf e f) = Vl.or [evalE (upto row.length) row e, evalE (upto row.length) row f] := by
      rw [oneOf, evalE, if_neg (by decide), if_neg (by decide), way_or]; simp only [evalL]
    rw [e1, e2, and_true2, or_true2]
    have hlen : (both e f).cols.length ≤ e.cols.length + f.cols.length := by
      rw [cols_uniq hmay, cols_uniq hem, cols_uniq hfm, ← List.length_append]
      refine nodup_len (pw_nodup (uniq_pw _)) fun x hx => ?_
      rw [uniq_mem, hcb, List.mem_append] at hx
      rw [List.mem_append, uniq_mem, uniq_mem]
      exact hx
    rw [decide_eq_true hlen]
    cases (evalE (upto row.length) row e).true? <;> cases (evalE (upto row.length) row f).true? <;> rfl
  · rw [List.any_eq_true]
    rintro ⟨c, hc, h⟩
    rw [cols_uniq hmay, uniq_mem, hcb, List.mem_append] at hc
    rw [has_cols, has_cols] at h
    simp only [Bool.and_eq_true, Bool.not_eq_true', List.contains_eq_mem, decide_eq_false_iff_not] at h
    rcases hc with hc | hc
    · exact h.1 hc
    · exact h.2 hc

theorem mixB_getD (own : List Int) (row other : List Vl) (n i : Nat) (h : i < n) : (mixB own row other n).getD (n - 1 - i) .bad = mixV own row other i := by
  rw [mixB, List.getD_eq_getElem?_getD, List.getElem?_reverse (by simp; omega), List.length_map, List.length_range, List.getElem?_map, List.getElem?_range (by omega)]
  have e2 : n - 1 - (n - 1 - i) = i := by omega
  rw [e2]
  rfl
mutual
theorem eval_own (own : List Int) (row other : List Vl) (hl : row.length = 16) : ∀ e : Ex, fineE e = true → (∀ c ∈ colsOf e, c ∈ own) → evalE (upto row.length) row e = evalE (down row.length) (mixB own row other row.length) e
  | .mk op col k n l, hf, hc => by
    rw [fineE, Bool.and_eq_true] at hf
    rw [evalE, evalE]
    split
    · rfl
    · split
      · rename_i h1
        subst h1
        obtain ⟨_, h2, h3⟩ := col_fine hf.1
        have hm : col ∈ own := hc col (by simp [colsOf])
        rw [look_upto row col h2 (by omega)]
        unfold look
        rw [idx_down _ _ h2 (by omega), mixB_len, if_neg (by omega)]
        have e1 : ((row.length : Int) - 1 - col).toNat = row.length - 1 - col.toNat := by omega
        rw [e1, mixB_getD own row other _ _ (by omega), mixV, if_pos]
        rw [List.any_eq_true]
        exact ⟨col, hm, by simp; omega⟩
      · rw [eval_ownL own row other hl l hf.2 (fun c h => hc c (by simp [colsOf, h]))]
theorem eval_ownL (own : List Int) (row other : List Vl) (hl : row.length = 16) : ∀ l : List Ex, fineL l = true → (∀ c ∈ colsOfL l, c ∈ own) → evalL (upto row.length) row l = evalL (down row.length) (mixB own row other row.length) l
  | [], _, _ => by rw [evalL, evalL]
  | x :: l, hf, hc => by
    rw [fineL, Bool.and_eq_true] at hf
    rw [evalL, evalL, eval_own own row other hl x hf.1 (fun c h => hc c (by simp [colsOfL, h])), eval_ownL own row other hl l hf.2 (fun c h => hc c (by simp [colsOfL, h]))]
end
theorem ownLaw_true (e : Ex) (row other : List Vl) : ownLaw e row other = true := by
  unfold ownLaw
  split
  · rfl
  rename_i h1
  simp only [Bool.or_eq_true, Bool.not_eq_true', not_or, Bool.not_eq_false, decide_eq_true_eq] at h1
  obtain ⟨⟨⟨_, h2⟩, h3⟩, hmay⟩ := h1
  rw [eval_may hmay, eval_may hmay, eval_own e.cols row other h2 e (may_fineE hmay) (fun c hc => by rw [cols_uniq hmay, uniq_mem]; exact hc)]
  simp

theorem exprPair_law (us : List AV) (h : ToldAll Go.Proofs.Try.prog Go.Proofs.Try.f11.params.toList us) : Quiet Go.Proofs.Try.prog 11 us (.bool true) := by
  have e1 : Go.Proofs.Try.f11.params.toList = [41, 42] := by kernel_rfl
  rw [e1] at h
  obtain ⟨e, row, he, hr, rfl⟩ := told_EV h
  have := exprPair_ok e he row hr
  rwa [pairLaw_true] at this
theorem exprBoth_law (us : List AV) (h : ToldAll Go.Proofs.Try.prog Go.Proofs.Try.f9.params.toList us) : Quiet Go.Proofs.Try.prog 9 us (.bool true) := by
  have e1 : Go.Proofs.Try.f9.params.toList = [41, 41, 42] := by kernel_rfl
  rw [e1] at h
  obtain ⟨e, f, row, he, hf, hr, rfl⟩ := told_EEV h
  have := exprBoth_ok e f he hf row hr
  rwa [bothLaw_true] at this
theorem exprOwn_law (us : List AV) (h : ToldAll Go.Proofs.Try.prog Go.Proofs.Try.f8.params.toList us) : Quiet Go.Proofs.Try.prog 8 us (.bool true) := by
  have e1 : Go.Proofs.Try.f8.params.toList = [41, 42, 42] := by kernel_rfl
  rw [e1] at h
  obtain ⟨e, row, other, he, hr, ho, rfl⟩ := told_EVV h
  have := exprOwn_ok e he row other hr ho
  rwa [ownLaw_true] at this
end Go.Sim.Try
