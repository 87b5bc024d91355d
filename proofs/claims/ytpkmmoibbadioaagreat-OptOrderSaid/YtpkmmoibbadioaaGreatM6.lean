/- What the row rests on, part 6. Conditions: none. -/
import Derived.Test.YtpkmmoibbadioaaGreatM5
set_option linter.unusedSimpArgs false
set_option linter.unusedVariables false
set_option maxRecDepth 100000
namespace Go.Sim.Tryz
open Go Go.Sim
section
abbrev Wh := Pl × Int × Bool
abbrev Cw := Int × Wh
def endsQ (q : Qy) : List (Int × Bool) := if q.by_ = -1 then [(0, false)] else [(2, false), (1, decide (q.ord ≠ -1))]
def needsQ (q : Qy) (e : Int) : Int := if e = 0 then q.ord else if e = 2 then q.by_ else -1
def extraL (c : List Df) (q : Qy) (e : Int) (s : Bool) : List Int := [groupK (rowsQ c q 15) (decide (e = 1))] ++ (if s then [sortK (groupsQ c q)] else [])
def extraQ (c : List Df) (q : Qy) (e : Int) (s : Bool) : Int := if e = 0 ∨ q.may c = false then 0 else addK (extraL c q e s)
def leastW : List Cw → Cw
  | [] => (0, (plO, 0, false))
  | x :: l => l.foldl (fun out y => if y.1 < out.1 then y else out) x
def optOne (c : List Df) (q : Qy) (t : Tr) (e : Int × Bool) : Cw := (addK [(bestF c q 4 t (needsQ q e.1)).1, extraQ c q e.1 e.2], ((bestF c q 4 t (needsQ q e.1)).2, e.1, e.2))
def optL (c : List Df) (q : Qy) : List Cw := (allT 4 (2 ^ q.occ.length - 1)).flatMap fun t => (endsQ q).map (optOne c q t)
def optQ (c : List Df) (q : Qy) : Cw := if q.may c then leastW (optL c q) else (0, (plO, 0, false))
theorem foldW_spec (l : List Cw) : ∀ x : Cw, let r := l.foldl (fun out y => if y.1 < out.1 then y else out) x
    (r = x ∨ r ∈ l) ∧ r.1 ≤ x.1 ∧ ∀ y ∈ l, r.1 ≤ y.1 := by
  induction l with
  | nil => intro x; exact ⟨.inl rfl, Int.le_refl _, by simp⟩
  | cons y l ih =>
    intro x
    rw [List.foldl_cons]
    have h := ih (if y.1 < x.1 then y else x)
    generalize l.foldl (fun out y => if y.1 < out.1 then y else out) (if y.1 < x.1 then y else x) = r at h ⊢
    obtain ⟨h1, h2, h3⟩ := h
    by_cases hc : y.1 < x.1
    · rw [if_pos hc] at h1 h2
      refine ⟨?_, by omega, ?_⟩
      · rcases h1 with h1 | h1
        · right; rw [h1]; exact .head _
        · right; exact .tail _ h1
      · intro z hz
        rcases List.mem_cons.1 hz with rfl | hz
        · exact h2
        · exact h3 z hz
    · rw [if_neg hc] at h1 h2
      refine ⟨?_, h2, ?_⟩
      · rcases h1 with h1 | h1
        · left; exact h1
        · right; exact .tail _ h1
      · intro z hz
        rcases List.mem_cons.1 hz with rfl | hz
        · omega
        · exact h3 z hz
theorem leastW_mem {l : List Cw} (h : l ≠ []) : leastW l ∈ l := by
  match l, h with
  | x :: l, _ =>
    rw [leastW]
    rcases (foldW_spec l x).1 with h | h
    · rw [h]; exact .head _
    · exact .tail _ h
theorem leastW_le {l : List Cw} {x : Cw} (h : x ∈ l) : (leastW l).1 ≤ x.1 := by
  match l, h with
  | y :: l, h =>
    rw [leastW]
    obtain ⟨_, h2, h3⟩ := foldW_spec l y
    rcases List.mem_cons.1 h with rfl | h
    · exact h2
    · exact h3 x h
theorem fine_iff {c : List Df} {q : Qy} {p : Pl} {e : Int} {s : Bool} : fineP c q p e s = true ↔ mayP c q p = true ∧ (treeP p).set = 2 ^ q.occ.length - 1 ∧ (e, s) ∈ endsQ q ∧ (needsQ q e = -1 ∨ p.order = needsQ q e) := by
  have key : endP q p.order e s = true ↔ (e, s) ∈ endsQ q ∧ (needsQ q e = -1 ∨ p.order = needsQ q e) := by
    generalize p.order = o
    unfold endP endsQ needsQ
    generalize q.by_ = b
    generalize q.ord = r
    constructor
    · intro h
      simp only [Bool.and_eq_true, decide_eq_true_eq, beq_iff_eq, decide_eq_decide] at h
      obtain ⟨⟨⟨h1, h2⟩, h3⟩, h4⟩ := h
      have he : e = 0 ∨ e = 1 ∨ e = 2 := by omega
      by_cases hb : b = -1
      · obtain rfl : e = 0 := h3.2 hb
        rw [if_pos hb]
        cases s
        · by_cases hr : r = -1
          · simp [hr]
          · simp [hr] at h4 ⊢
            exact h4
        · simp at h4
      · rw [if_neg hb]
        have he0 : e ≠ 0 := fun h => hb (h3.1 h)
        rcases he with rfl | rfl | rfl
        · exact absurd rfl he0
        · cases s
          · by_cases hr : r = -1
            · simp [hr]
            · simp [hr] at h4
          · simp at h4
            simp [h4]
        · cases s
          · simp at h4
            simp [h4]
          · simp at h4
    · rintro ⟨h1, h2⟩
      by_cases hb : b = -1
      · rw [if_pos hb, List.mem_singleton] at h1
        injection h1 with h1 h3
        subst h1; subst h3
        by_cases hr : r = -1
        · simp [hb, hr]
        · simp [hr] at h2
          simp [hb, hr, h2]
      · rw [if_neg hb] at h1
        simp only [List.mem_cons, List.not_mem_nil, or_false, Prod.mk.injEq] at h1
        rcases h1 with ⟨rfl, rfl⟩ | ⟨rfl, rfl⟩
        · simp [hb] at h2
          simp [hb, h2]
        · by_cases hr : r = -1
          · simp [hb, hr]
          · simp [hb, hr]
  unfold fineP
  rw [Bool.and_eq_true, Bool.and_eq_true, decide_eq_true_eq, key, and_assoc]
theorem all_eq {c : List Df} {q : Qy} {p : Pl} {e : Int} {s : Bool} (hm : q.may c = true) (h : fineP c q p e s = true) : allP c q p e s = addK [costP c q p, extraQ c q e s] := by
  rw [allP, if_pos h]
  obtain ⟨_, _, h3, _⟩ := fine_iff.1 h
  unfold allL extraQ extraL
  by_cases he : e = 0
  · subst he
    have hs : s = false := by
      unfold endsQ at h3
      split at h3
      · rw [List.mem_singleton] at h3
        injection h3
      · simp at h3
    subst hs
    rw [if_pos rfl, if_pos (show (0 : Int) = 0 ∨ q.may c = false from .inl rfl)]
    simp only [Bool.false_eq_true, if_false, List.append_nil]
    rw [addK_cons (costP c q p) []]
    rfl
  · rw [if_neg he, if_neg (show ¬ (e = 0 ∨ q.may c = false) from fun h => h.elim he fun h => by rw [hm] at h; cases h), List.append_assoc, List.singleton_append, addK_cons]
theorem ends_col {c : List Df} {q : Qy} (h : q.may c = true) {e : Int × Bool} (he : e ∈ endsQ q) : needsQ q e.1 = -1 ∨ isCol c q (needsQ q e.1) = true := by
  have hm := (may_split h).2.2.2.2.2.2
  have hin : ∀ x, (colsIn c q fun _ => true).contains x = true → isCol c q x = true := fun x hx => by
    have hx := List.contains_iff_mem.1 hx
    simp only [colsIn, List.mem_filter, Bool.and_true] at hx
    exact hx.2
  have hw : ∀ l x, within l (colsIn c q fun _ => true) = true → l.contains x = true → isCol c q x = true := fun l x hl hx => by
    simp only [within, List.all_eq_true] at hl
    exact hin x (hl x (List.contains_iff_mem.1 hx))
  unfold endMay at hm
  unfold endsQ at he
  by_cases hb : q.by_ = -1
  · rw [if_pos hb] at hm he
    rw [List.mem_singleton] at he
    subst he
    show q.ord = -1 ∨ isCol c q q.ord = true
    simp only [Bool.and_eq_true, Bool.or_eq_true, decide_eq_true_eq] at hm
    obtain ⟨⟨⟨⟨⟨_, _⟩, _⟩, h4⟩, _⟩, h6⟩ := hm
    exact h6.imp id fun h => hw _ _ h4 h
  · rw [if_neg hb] at hm he
    simp only [Bool.and_eq_true, Bool.or_eq_true, decide_eq_true_eq] at hm
    obtain ⟨⟨⟨⟨h1, _⟩, _⟩, _⟩, _⟩ := hm
    simp only [List.mem_cons, List.not_mem_nil, or_false] at he
    rcases he with rfl | rfl
    · exact .inr (hw _ _ h1 (by simp [needsQ]))
    · exact .inl rfl
theorem bit_full {n i : Nat} (hn : n ≤ 4) (hi : i < n) : bitI (2 ^ n - 1) i = true := by
  obtain ⟨j, rfl⟩ : ∃ j : Fin 5, n = j.val := ⟨⟨n, by omega⟩, rfl⟩
  obtain ⟨k, rfl⟩ : ∃ k : Fin 5, i = k.val := ⟨⟨i, by omega⟩, rfl⟩
  clear hn
  revert hi
  revert j k
  decide +kernel
theorem full_pos {c : List Df} {q : Qy} (h : q.may c = true) : (1 : Int) ≤ 2 ^ q.occ.length - 1 := by
  have h1 := (may_split h).2.1
  have h4 := (may_split h).2.2.1
  have hc : q.occ.length = 1 ∨ q.occ.length = 2 ∨ q.occ.length = 3 ∨ q.occ.length = 4 := by omega
  rcases hc with h | h | h | h <;> rw [h] <;> decide
theorem opt_valid {c : List Df} {q : Qy} (h : q.may c = true) {t : Tr} (ht : t ∈ allT 4 (2 ^ q.occ.length - 1)) {e : Int × Bool} (he : e ∈ endsQ q) : validT c q t (needsQ q e.1) = true := by
  obtain ⟨h1, h2⟩ := (all_mem (full_pos h)).1 ht
  unfold validT
  rw [h, h1, h2]
  simp only [Bool.true_and, Bool.and_eq_true, Bool.or_eq_true, decide_eq_true_eq]
  refine ⟨by omega, (ends_col h he).imp id fun hc => ?_⟩
  have hr := isCol_range hc
  exact (cols_mem_iff h _ _).2 ⟨hc, bit_full (may_split h).2.2.1 (by omega)⟩
theorem ends_ne (q : Qy) : endsQ q ≠ [] := by unfold endsQ; split <;> simp
theorem all_ne {c : List Df} {q : Qy} (h : q.may c = true) : allT 4 (2 ^ q.occ.length - 1) ≠ [] := by
  have h1 := (may_split h).2.1
  have h4 := (may_split h).2.2.1
  have hc : q.occ.length = 1 ∨ q.occ.length = 2 ∨ q.occ.length = 3 ∨ q.occ.length = 4 := by omega
  have ht : ∃ t : Tr, t.may = true ∧ t.set = 2 ^ q.occ.length - 1 := by
    rcases hc with h | h | h | h <;> rw [h]
    · exact ⟨.leaf 0, by decide⟩
    · exact ⟨.join (.leaf 0) (.leaf 1), by decide⟩
    · exact ⟨.join (.join (.leaf 0) (.leaf 1)) (.leaf 2), by decide⟩
    · exact ⟨.join (.join (.leaf 0) (.leaf 1)) (.join (.leaf 2) (.leaf 3)), by decide⟩
  obtain ⟨t, ht⟩ := ht
  exact List.ne_nil_of_mem ((all_mem (full_pos h)).2 ht)
theorem optL_ne {c : List Df} {q : Qy} (h : q.may c = true) : optL c q ≠ [] := by
  obtain ⟨t, ht⟩ := List.exists_mem_of_ne_nil _ (all_ne h)
  obtain ⟨e, he⟩ := List.exists_mem_of_ne_nil _ (ends_ne q)
  exact List.ne_nil_of_mem (List.mem_flatMap.2 ⟨t, ht, List.mem_map.2 ⟨e, he, rfl⟩⟩)
theorem opt_good {c : List Df} {q : Qy} (h : q.may c = true) {x : Cw} (hx : x ∈ optL c q) : fineP c q x.2.1 x.2.2.1 x.2.2.2 = true ∧ allP c q x.2.1 x.2.2.1 x.2.2.2 = x.1 := by
  obtain ⟨t, ht, hx⟩ := List.mem_flatMap.1 hx
  obtain ⟨e, he, rfl⟩ := List.mem_map.1 hx
  obtain ⟨h1, h2⟩ := (all_mem (full_pos h)).1 ht
  obtain ⟨g1, g2, g3, g4, _⟩ := valid_good (opt_valid h ht he)
  unfold optOne
  dsimp only
  have hf : fineP c q (bestF c q 4 t (needsQ q e.1)).2 e.1 e.2 = true := by
    refine fine_iff.2 ⟨g1, by rw [g2, h2], he, ?_⟩
    by_cases hn : needsQ q e.1 = -1
    · exact .inl hn
    · exact .inr (g4 hn)
  exact ⟨hf, by rw [all_eq h hf, g3]⟩
theorem opt_le {c : List Df} {q : Qy} (h : q.may c = true) {p : Pl} {e : Int} {s : Bool} (hf : fineP c q p e s = true) : (optQ c q).1 ≤ allP c q p e s := by
  obtain ⟨h1, h2, h3, h4⟩ := fine_iff.1 hf
  rw [optQ, if_pos h, all_eq h hf]
  have hm := (mayP_split h1).2.1
  have ht : (treeP p).may = true := by
    rw [tree_iff, Bool.and_eq_true] at hm
    exact hm.2
  have hin : optOne c q (treeP p) (e, s) ∈ optL c q := List.mem_flatMap.2 ⟨treeP p, (all_mem (full_pos h)).2 ⟨ht, h2⟩, List.mem_map.2 ⟨(e, s), h3, rfl⟩⟩
  have h5 := leastW_le hin
  have h6 := best_le (c := c) (q := q) p 4 (needsQ q e) (Nat.le_refl _) ht h1 h4
  have h7 := addK_mono2 h6 (Int.le_refl (extraQ c q e s))
  unfold optOne at h5
  dsimp only at h5
  exact Int.le_trans h5 h7
end
section
def Qy.endAs (q : Qy) (b : Int) (su o : List Int) (r : Int) : Qy := { q with by_ := b, sums := su, out := o, ord := r }
section
variable {c : List Df} {q : Qy} {b r : Int} {su o : List Int} (h : q.may c = true) (h' : (q.endAs b su o r).may c = true)
include h h'
theorem rows_end (s : Int) : rowsQ c (q.endAs b su o r) s = rowsQ c q s := by
  unfold rowsQ; rw [if_pos h, if_pos h']; rfl
theorem groups_end : groupsQ c (q.endAs b su o r) = groupsQ c q := by
  unfold groupsQ; rw [if_pos h, if_pos h', rows_end h h']; rfl
theorem cols_end (s : Int) : (q.endAs b su o r).cols c s = q.cols c s := by
  unfold Qy.cols; rw [if_pos h, if_pos h']; rfl
theorem fitP_end (p : Pl) : fitP c (q.endAs b su o r) p = fitP c q p := by
  obtain ⟨op, occ, x, y, l⟩ := p
  match l with
  | [] => rfl
  | [z] => show ((q.endAs b su o r).cols c _).contains x = _; rw [cols_end h h']; rfl
  | z :: w :: _ => rfl
theorem mayP_end (p : Pl) : mayP c (q.endAs b su o r) p = mayP c q p := by
  unfold mayP
  rw [h, h', show fitP c (q.endAs b su o r) = fitP c q from funext (fitP_end h h')]
  rfl
theorem ownC_end (p : Pl) : ownC c (q.endAs b su o r) p = ownC c q p := by
  obtain ⟨op, occ, x, y, l⟩ := p
  match l with
  | [] => show scanK (baseR c (q.endAs b su o r) occ) = scanK (baseR c q occ); unfold baseR; rw [h, h']; rfl
  | [z] => show sortK (rowsQ c (q.endAs b su o r) _) = _; rw [rows_end h h']; rfl
  | z :: w :: _ =>
    unfold ownC
    simp only [rows_end h h']
theorem costP_end (p : Pl) : costP c (q.endAs b su o r) p = costP c q p := by
  unfold costP
  rw [mayP_end h h', show ownC c (q.endAs b su o r) = ownC c q from funext (ownC_end h h')]
theorem extra_end (e : Int) (s : Bool) : extraQ c (q.endAs b su o r) e s = extraQ c q e s := by
  unfold extraQ extraL
  rw [h, h', rows_end h h', groups_end h h']
end
theorem opt_mem {c : List Df} {q : Qy} (h : q.may c = true) : optQ c q ∈ optL c q := by
  rw [optQ, if_pos h]; exact leastW_mem (optL_ne h)
theorem opt_tree {c : List Df} {q : Qy} (h : q.may c = true) : (∀ t ∈ allT 4 (2 ^ q.occ.length - 1), ∀ e ∈ endsQ q, (optQ c q).1 ≤ (optOne c q t e).1) ∧ ∃ t ∈ allT 4 (2 ^ q.occ.length - 1), ∃ e ∈ endsQ q, (optOne c q t e).1 = (optQ c q).1 := by
  constructor
  · intro t ht e he
    rw [optQ, if_pos h]
    exact leastW_le (List.mem_flatMap.2 ⟨t, ht, List.mem_map.2 ⟨e, he, rfl⟩⟩)
  · obtain ⟨t, ht, hx⟩ := List.mem_flatMap.1 (opt_mem h)
    obtain ⟨e, he, hx⟩ := List.mem_map.1 hx
    exact ⟨t, ht, e, he, by rw [hx]⟩
theorem opt_end {c : List Df} {q : Qy} {b r : Int} {su o : List Int} (h : q.may c = true) (h' : (q.endAs b su o r).may c = true)
    (hs : ∀ p e s, fineP c q p e s = true → ∃ e' s', fineP c (q.endAs b su o r) p e' s' = true ∧ extraQ c q e' s' ≤ extraQ c q e s) : (optQ c (q.endAs b su o r)).1 ≤ (optQ c q).1 := by
  obtain ⟨g1, g2⟩ := opt_good h (opt_mem h)
  obtain ⟨e', s', f1, f2⟩ := hs _ _ _ g1
  have h1 := opt_le h' f1
  rw [all_eq h' f1, costP_end h h', extra_end h h'] at h1
  rw [← g2, all_eq h g1]
  exact Int.le_trans h1 (addK_mono2 (Int.le_refl _) f2)
end
section
def Qy.free (q : Qy) : Qy := q.endAs q.by_ q.sums q.out (-1)
def Qy.bare (q : Qy) (c : List Df) : Qy := q.endAs (-1) [] (q.cols c 1) (-1)
theorem free_may {c : List Df} {q : Qy} (h : q.may c = true) : q.free.may c = true := may_free h
theorem extra_pos (c : List Df) (q : Qy) (e : Int) (s : Bool) : 0 ≤ extraQ c q e s := by
  unfold extraQ
  split
  · exact Int.le_refl _
  · exact (addK_range _).1
theorem opt_free {c : List Df} {q : Qy} (h : q.may c = true) : (optQ c q.free).1 ≤ (optQ c q).1 := by
  refine opt_end h (free_may h) fun p e s hf => ?_
  obtain ⟨h1, h2, h3, h4⟩ := fine_iff.1 hf
  have m1 : mayP c q.free p = true := by rw [show mayP c q.free p = mayP c q p from mayP_end h (free_may h) p]; exact h1
  have hb : ∀ {e' : Int} {s' : Bool}, (e', s') ∈ endsQ q.free → (needsQ q.free e' = -1 ∨ p.order = needsQ q.free e') → fineP c q.free p e' s' = true := fun a b => fine_iff.2 ⟨m1, h2, a, b⟩
  unfold endsQ at h3
  by_cases hby : q.by_ = -1
  · rw [if_pos hby, List.mem_singleton] at h3
    injection h3 with e1 e2
    subst e1; subst e2
    refine ⟨0, false, hb ?_ (.inl rfl), Int.le_refl _⟩
    rw [endsQ, if_pos (show q.free.by_ = -1 from hby)]
    exact .head _
  · rw [if_neg hby] at h3
    have he : endsQ q.free = [(2, false), (1, false)] := by
      rw [endsQ, if_neg (show ¬ q.free.by_ = -1 from hby)]
      rfl
    simp only [List.mem_cons, List.not_mem_nil, or_false, Prod.mk.injEq] at h3
    rcases h3 with ⟨rfl, rfl⟩ | ⟨rfl, rfl⟩
    · exact ⟨2, false, hb (by rw [he]; exact .head _) h4, Int.le_refl _⟩
    · refine ⟨1, false, hb (by rw [he]; exact .tail _ (.head _)) (.inl rfl), ?_⟩
      unfold extraQ
      split
      · exact Int.le_refl _
      · unfold extraL
        cases decide (q.ord ≠ -1)
        · exact Int.le_refl _
        · simp only [if_true, Bool.false_eq_true, if_false, List.append_nil, List.singleton_append]
          generalize groupK _ _ = g
          have e1 := addK_cons g []
          have e2 := addK_cons g [sortK (groupsQ c q)]
          rw [e1, e2]
          exact addK_mono2 (Int.le_refl _) (addK_range [sortK (groupsQ c q)]).1
theorem cols1_le (c : List Df) (q : Qy) : (colsIn c q (bitI 1)).length ≤ 8 := by
  have e : colsIn c q (bitI 1) = (upto 4).filter fun id => isCol c q id && bitI 1 (id / 4).toNat := by
    have e1 : upto 16 = upto 4 ++ [4, 5, 6, 7, 8, 9, 10, 11, 12, 13, 14, 15] := by decide
    unfold colsIn
    rw [e1, List.filter_append]
    have e2 : ∀ id ∈ [(4 : Int), 5, 6, 7, 8, 9, 10, 11, 12, 13, 14, 15], (isCol c q id && bitI 1 (id / 4).toNat) = false := by
      intro id hid
      have hb : bitI 1 (id / 4).toNat = false := by
        simp only [List.mem_cons, List.not_mem_nil, or_false] at hid
        rcases hid with rfl | rfl | rfl | rfl | rfl | rfl | rfl | rfl | rfl | rfl | rfl | rfl <;> rfl
      rw [hb, Bool.and_false]
    have e3 : List.filter (fun id => isCol c q id && bitI 1 (id / 4).toNat) [(4 : Int), 5, 6, 7, 8, 9, 10, 11, 12, 13, 14, 15] = [] := List.filter_eq_nil_iff.2 (fun id hid => by rw [e2 id hid]; simp)
    rw [e3, List.append_nil]
  rw [e]
  exact Nat.le_trans (List.length_filter_le _ _) (by decide)
theorem col0 {c : List Df} {q : Qy} (h : q.may c = true) : isCol c q 0 = true := by
  obtain ⟨h1, h2, h3, h4, _⟩ := may_split h
  have ht := h4 _ (List.getElem_mem (show 0 < q.occ.length by omega))
  simp only [isCol, Bool.and_eq_true, decide_eq_true_eq]
  refine ⟨⟨⟨by omega, by omega⟩, by simp; omega⟩, ?_⟩
  have e : q.occ.getD ((0 : Int) / 4).toNat (-1) = q.occ[0] := by
    rw [List.getD_eq_getElem?_getD]
    simp [List.getElem?_eq_getElem (show 0 < q.occ.length by omega)]
  rw [e, tabCols, if_pos ht]
  simp only [catMay, Bool.and_eq_true, List.all_eq_true] at h1
  have hl : (q.occ[0]).toNat < c.length := by omega
  have hd := h1.2 c[(q.occ[0]).toNat] (List.getElem_mem hl)
  rw [List.getD_eq_getElem?_getD, List.getElem?_eq_getElem hl, Option.getD_some]
  simp only [Df.may, Bool.and_eq_true, decide_eq_true_eq] at hd
  omega
theorem bare_may {c : List Df} {q : Qy} (h : q.may c = true) : (q.bare c).may c = true := by
  have hm := h
  unfold Qy.may at h ⊢
  rw [Bool.and_eq_true] at h ⊢
  refine ⟨h.1, ?_⟩
  have e : q.cols c 1 = colsIn c q (bitI 1) := by rw [Qy.cols, if_pos hm]
  have hin : ∀ x ∈ colsIn c q (bitI 1), (colsIn c (q.bare c) fun _ => true).contains x = true := fun x hx => by
    rw [colsIn_eq (show (q.bare c).occ = q.occ from rfl), colsIn_mem]
    simp only [colsIn, List.mem_filter, Bool.and_eq_true] at hx
    exact hx.2.1
  unfold endMay
  rw [if_pos (show (q.bare c).by_ = -1 from rfl)]
  simp only [Bool.and_eq_true, Bool.or_eq_true, decide_eq_true_eq]
  show (((((1 ≤ (q.cols c 1).length ∧ (q.cols c 1).length ≤ 8) ∧ (q.cols c 1).Nodup) ∧ within (q.cols c 1) _ = true) ∧ _) ∧ _)
  rw [e]
  refine ⟨⟨⟨⟨⟨?_, cols1_le c q⟩, ?_⟩, ?_⟩, rfl⟩, .inl rfl⟩
  · have : (0 : Int) ∈ colsIn c q (bitI 1) := by
      simp only [colsIn, List.mem_filter, Bool.and_eq_true]
      exact ⟨by decide, col0 hm, rfl⟩
    exact List.length_pos_of_mem this
  · exact List.Nodup.sublist List.filter_sublist (by decide)
  · simp only [within, List.all_eq_true]
    exact hin
theorem opt_bare {c : List Df} {q : Qy} (h : q.may c = true) : (optQ c (q.bare c)).1 ≤ (optQ c q).1 := by
  refine opt_end h (bare_may h) fun p e s hf => ?_
  obtain ⟨h1, h2, h3, h4⟩ := fine_iff.1 hf
  have m1 : mayP c (q.bare c) p = true := by rw [show mayP c (q.bare c) p = mayP c q p from mayP_end h (bare_may h) p]; exact h1
  refine ⟨0, false, fine_iff.2 ⟨m1, h2, ?_, .inl rfl⟩, ?_⟩
  · have he : endsQ (q.endAs (-1) [] (q.cols c 1) (-1)) = [(0, false)] := rfl
    rw [he]
    exact .head _
  · have e0 : extraQ c q 0 false = 0 := by unfold extraQ; rw [if_pos (show (0 : Int) = 0 ∨ q.may c = false from .inl rfl)]
    rw [e0]
    exact extra_pos c q e s
end
section
theorem all_one : allT 4 1 = [.leaf 0] := by rfl
theorem addK_to {x : Int} (h0 : 0 ≤ x) (h1 : x ≤ capK) : addK [x, 0] = x := by
  unfold addK
  simp only [List.foldl_cons, List.foldl_nil]
  omega
theorem leaf_cost {c : List Df} {q : Qy} (p : Pl) : ∀ (d : Nat) (o : Int), mayP c q p = true → o ∈ (lvsT d (treeP p)).1 → scanK (baseR c q o) ≤ costP c q p := by
  induction p using Pl.ind with
  | h op occ a b l ih =>
  intro d o hm ho
  have hsub := mayP_part hm
  have hcs := (cost_sub hm).1
  match d, ho with
  | 0, ho => rw [lvsT] at ho; cases ho
  | d + 1, ho =>
  rcases form_split (few_own (mayP_iff.1 hm).2.1) with ⟨_, rfl⟩ | ⟨_, x, rfl⟩ | ⟨_, x, y, rfl⟩
  · rw [treeP, Tr.leaf, lvsT_nil] at ho
    rw [List.mem_singleton] at ho
    subst ho
    rw [costP_mk hm]
    exact addK_mem (List.mem_append.2 (.inr (List.mem_singleton.2 rfl))) (scanK_range _).2
  · rw [treeP] at ho
    exact Int.le_trans (ih x (by simp) (d + 1) o (hsub x (by simp)) ho) (hcs x (by simp))
  · rw [treeP, Tr.join, lvsT_two, if_pos rfl] at ho
    rcases List.mem_append.1 ho with ho | ho
    · exact Int.le_trans (ih x (by simp) d o (hsub x (by simp)) ho) (hcs x (by simp))
    · exact Int.le_trans (ih y (by simp) d o (hsub y (by simp)) ho) (hcs y (by simp))
theorem base_scan {c : List Df} {q : Qy} (h : q.may c = true) {k : Nat} (hk : k < q.occ.length) : scanK (baseR c q k) = baseR c q k := by
  obtain ⟨t, _, ht, hb⟩ := base_get h hk
  have hd := (may_split h).1
  simp only [catMay, Bool.and_eq_true, List.all_eq_true] at hd
  have hd := hd.2 c[t] (List.getElem_mem ht)
  simp only [Df.may, Bool.and_eq_true, decide_eq_true_eq] at hd
  have e : baseR c q k = c[t].rows := by rw [baseR, if_pos ⟨h, by omega, by omega⟩, hb]
  rw [e]
  unfold scanK rowsK
  omega
theorem opt_base {c : List Df} {q : Qy} (h : q.may c = true) {k : Nat} (hk : k < q.occ.length) : baseR c q k ≤ (optQ c q).1 := by
  obtain ⟨g1, g2⟩ := opt_good h (opt_mem h)
  obtain ⟨f1, f2, _, _⟩ := fine_iff.1 g1
  rw [← g2, all_eq h g1, ← base_scan h hk]
  have ht := (mayP_split f1).2.2.1.2
  have h4 := (may_split h).2.2.1
  have hb := bit_full h4 hk
  rw [← f2, Tr.set, if_pos ht] at hb
  have hin := (((set_lvs 4 _).2 ht).2 k (by omega)).1 hb
  exact Int.le_trans (leaf_cost _ 4 k f1 hin) (addK_mem (.head _) (costP_range c q _).2)
theorem opt_alone {c : List Df} {q : Qy} (h : q.may c = true) (h1 : q.occ.length = 1) (hby : q.by_ = -1) : (optQ c q).1 = if q.ord = -1 then baseR c q 0 else addK [baseR c q 0, sortK (rowsQ c q 1)] := by
  have e1 : (2 : Int) ^ q.occ.length - 1 = 1 := by rw [h1]; rfl
  have ho : endsQ q = [(0, false)] := by rw [endsQ, if_pos hby]
  have hx : extraQ c q 0 false = 0 := by unfold extraQ; rw [if_pos (show (0 : Int) = 0 ∨ q.may c = false from .inl rfl)]
  have hl : optL c q = [optOne c q (.leaf 0) (0, false)] := by
    rw [optL, e1, all_one, ho]
    rfl
  have hb := base_scan h (k := 0) (by omega)
  have hlv : leafV c q 3 0 = leafV c q 3 0 := rfl
  have hv : validT c q (.leaf 0) (-1) = true := by
    have := opt_valid h (t := .leaf 0) (by rw [e1, all_one]; exact .head _) (e := (0, false)) (by rw [ho]; exact .head _)
    unfold validT at this ⊢
    simp only [Bool.and_eq_true] at this ⊢
    exact ⟨this.1, by simp⟩
  have hm := (valid_good hv).1
  rw [leafV] at hm
  dsimp only at hm
  have hc : costP c q (.mk 0 0 0 0 []) = baseR c q 0 := by
    have hs := scanK_range (baseR c q 0)
    rw [costP_mk hm]
    show addK ([] ++ [scanK (baseR c q 0)]) = _
    rw [List.nil_append, addK_cons]
    show addK [scanK (baseR c q 0), 0] = _
    rw [addK_to hs.1 hs.2]
    exact hb
  have hr := scanK_range (baseR c q 0)
  have hb' : scanK (baseR c q 0) = baseR c q 0 := hb
  rw [hb'] at hr
  rw [optQ, if_pos h, hl]
  show addK [(bestF c q 4 (.leaf 0) q.ord).1, extraQ c q 0 false] = _
  rw [hx]
  by_cases hq : q.ord = -1
  · rw [if_pos hq, hq, leafV]
    dsimp only
    rw [hc]
    exact addK_to hr.1 hr.2
  · rw [if_neg hq, leafS c q 3 0 q.ord hq, leafV]
    unfold sortC sortedC
    dsimp only
    have hset : (Tr.leaf 0).set = 1 := by decide
    rw [hset, hc]
    exact addK_to (addK_range _).1 (addK_range _).2
end
attribute [local push_cast] aops_cons aops_nil aopG_none aopG_some aopP_eq aopE_eq aopC_eq aopE?_eq aopC?_eq aopB_eq aopB?_eq abr anilq gopP_eq gopL_eq ahead_cons ahead_nil ahdG_none ahdG_some ahdP_eq ahdN_eq ahdC_eq ahdN?_eq ahdS_eq ahdS?_eq astoreN ahdC?_eq ghdP_eq ghdC_eq ghdC?_eq ghdZ_f ghdZ_t ahdI_eq ahdI?_eq ghdN?_eq aim_nil aim_cons isIn_nil isIn_none isIn_cons aimm aheP_eq aheA_eq aheC_eq aheC?_eq aheI?_eq aheA?_eq gheP_eq gheC_eq gheC?_eq gheZ_eq aheG_none aheG_some aheff_cons aheff_nil aapp gro_rsl gro_lit gro_esl opt_some opt_none no_eq acondT_true acondT_false acondT_lit aw_skip aw_region aw_regionD aw_seq aw_cond aw_block aw_loop aw_exit aw_label aw_ret thn_normal thn_exit thn_ret inb_normal inb_exit inb_ret qret_ret qret_normal gcond apure aeff anew acallee ares aresT aresL aresC ares1 qfin_eq ev ofV evL gokL tget tput_some tput_none initT abin aint aun aload afaddr aiaddr afield aindex aextract apick pickv_lit Bool.or_false Bool.false_or Bool.or_true Bool.true_or imp_self aslice chunk roomB abound aconv abuild afill splice alen aminmax abuiltin anil apart Value.oneCell' astore aappend srcEs abuildSlice amakeSlice amapPut alookup aput afind mget keyV sameV_int Option.isSome_some Option.isSome_none cond_true cond_false asets isEq plus_obj plus_nxt plus_add plus_set plus_del IntKind.bits Option.map_some Option.map_none Option.bind_some Option.bind_none Option.join_some Option.getD_some Option.getD_none Option.toList List.getElem?_toArray List.getElem?_cons_zero List.getElem?_cons_succ List.getElem?_nil List.length_cons List.length_nil List.length_map List.head?_cons List.cons_append List.nil_append List.append_nil List.map_cons List.map_nil List.getD_cons_zero List.getD_cons_succ List.replicate_succ List.replicate_zero List.set_cons_zero List.set_cons_succ List.take_succ_cons List.take_zero List.drop_succ_cons List.drop_zero List.all_cons List.all_nil Nat.zero_add if_true if_false true_and and_true false_and and_false true_implies implies_true forall_const Bool.and_true Bool.true_and Bool.false_and Bool.and_false Bool.true_beq Bool.false_beq Bool.not_not beq_tt beq_ff Int.toNat_natCast decide_true decide_false Bool.not_true Bool.not_false Bool.true_eq_false Bool.false_eq_true false_implies exists_prop eq_self bne_self_eq_false beq_self_eq_true decide_eq_true_eq decide_eq_false_iff_not Bool.not_eq_true' Bool.not_eq_false' AV.int AV.bool AV.nilS ne_eq not_false_eq_true not_true_eq_false exists_eq_left exists_eq_left' Nat.lt_irrefl core_lit grd_lit acells_lit one_lit core_agg grd_agg acells_agg one_agg core_tup grd_tup acells_tup one_tup core_sl grd_sl acells_sl one_sl core_esl grd_esl acells_esl one_esl core_rsl grd_rsl acells_rsl one_rsl core_ptr grd_ptr acells_ptr one_ptr core_iptr grd_iptr acells_iptr one_iptr core_clo grd_clo acells_clo one_clo core_mp grd_mp acells_mp one_mp core_any grd_any acells_any one_any core_gv grd_gv fit_agg fit_lit fit_sl fit_esl fit_rsl fit_ptr fit_iptr fit_clo fit_mp retq_ret retq_normal set_nxt set_set plus_obj_set plus_set_set app_get0 app_get app_set0 app_set List.append_assoc List.length_append List.length_set Nat.lt_add_one Nat.add_lt_add_iff_right Nat.lt_add_right_iff_pos Nat.add_lt_add_iff_left List.mem_cons List.not_mem_nil or_false forall_eq forall_eq_or_imp lt_s0 lt_s1 lt_s2 lt_s3 lt_s4 lt_s5 lt_s6 lt_s7 lt_s8 pickv_t pickv_f or_nand or_nand2 imp_and_l SealT SealOs sealO_cells sl_lit sl_any sl_agg sl_tup sl_sl sl_rsl slO sl_esl sl_nil sl_eslesl sl_eslnil sl_rslrsl sl_eslrsl sl_nilrsl sl_ptr sl_iptr sl_ptri slP sl_clo sl_mp sl_gv sll_nil sll_cons slll_nil slll_cons shut_eq shutO Option.join_none Fn.func.injEq and_self sealL_self sealLL_self seal_self PureL PureLL Pure Nat.le_refl Nat.zero_le AV.lit.injEq Value.int.injEq Value.bool.injEq false_or or_true true_or Int.natCast_zero Int.ofNat_zero Int.cast_ofNat_Int Int.natCast_add Int.natCast_one Option.some.injEq piL_is sop_nil sop_cons sop_none sop_some sopO_some sop_new shut_pi shutL_nil shutL_cons exQ_exit exQ_ret exQ_normal Go.Sim.Tryz.ty_load1 Go.Sim.Tryz.ty_zero1 Go.Sim.Tryz.ty_load2 Go.Sim.Tryz.ty_zero2 Go.Sim.Tryz.ty_und2 Go.Sim.Tryz.ty_load3 Go.Sim.Tryz.ty_zero3 Go.Sim.Tryz.ty_und3 Go.Sim.Tryz.ty_load4 Go.Sim.Tryz.ty_zero4 Go.Sim.Tryz.ty_und4 Go.Sim.Tryz.ty_load5 Go.Sim.Tryz.ty_zero5 Go.Sim.Tryz.ty_und5 Go.Sim.Tryz.ty_load9 Go.Sim.Tryz.ty_zero9 Go.Sim.Tryz.ty_und9 Go.Sim.Tryz.ty_load22 Go.Sim.Tryz.ty_zero22 Go.Sim.Tryz.ty_el22 Go.Sim.Tryz.ty_zeroE22 Go.Sim.Tryz.ty_load24 Go.Sim.Tryz.ty_zero24 Go.Sim.Tryz.ty_fld24_0 Go.Sim.Tryz.ty_part24_0 Go.Sim.Tryz.ty_struct24 Go.Sim.Tryz.ty_load25 Go.Sim.Tryz.ty_zero25 Go.Sim.Tryz.ty_el25 Go.Sim.Tryz.ty_zeroE25 Go.Sim.Tryz.ty_load26 Go.Sim.Tryz.ty_zero26 Go.Sim.Tryz.ty_el26 Go.Sim.Tryz.ty_zeroE26 Go.Sim.Tryz.ty_load28 Go.Sim.Tryz.ty_zero28 Go.Sim.Tryz.ty_fld28_0 Go.Sim.Tryz.ty_part28_0 Go.Sim.Tryz.ty_fld28_1 Go.Sim.Tryz.ty_part28_1 Go.Sim.Tryz.ty_fld28_2 Go.Sim.Tryz.ty_part28_2 Go.Sim.Tryz.ty_fld28_3 Go.Sim.Tryz.ty_part28_3 Go.Sim.Tryz.ty_fld28_4 Go.Sim.Tryz.ty_part28_4 Go.Sim.Tryz.ty_fld28_5 Go.Sim.Tryz.ty_part28_5 Go.Sim.Tryz.ty_struct28 Go.Sim.Tryz.ty_load29 Go.Sim.Tryz.ty_zero29 Go.Sim.Tryz.ty_arr29 Go.Sim.Tryz.ty_part29_0 Go.Sim.Tryz.ty_part29_1 Go.Sim.Tryz.ty_struct29 Go.Sim.Tryz.ty_load30 Go.Sim.Tryz.ty_zero30 Go.Sim.Tryz.ty_el30 Go.Sim.Tryz.ty_zeroE30 Go.Sim.Tryz.ty_load32 Go.Sim.Tryz.ty_zero32 Go.Sim.Tryz.ty_fld32_0 Go.Sim.Tryz.ty_part32_0 Go.Sim.Tryz.ty_fld32_1 Go.Sim.Tryz.ty_part32_1 Go.Sim.Tryz.ty_fld32_2 Go.Sim.Tryz.ty_part32_2 Go.Sim.Tryz.ty_fld32_3 Go.Sim.Tryz.ty_part32_3 Go.Sim.Tryz.ty_struct32 Go.Sim.Tryz.ty_load34 Go.Sim.Tryz.ty_zero34 Go.Sim.Tryz.ty_fld34_0 Go.Sim.Tryz.ty_part34_0 Go.Sim.Tryz.ty_fld34_1 Go.Sim.Tryz.ty_part34_1 Go.Sim.Tryz.ty_fld34_2 Go.Sim.Tryz.ty_part34_2 Go.Sim.Tryz.ty_struct34 Go.Sim.Tryz.ty_load41 Go.Sim.Tryz.ty_zero41 Go.Sim.Tryz.ty_el41 Go.Sim.Tryz.ty_zeroE41 Go.Sim.Tryz.ty_load47 Go.Sim.Tryz.ty_zero47 Go.Sim.Tryz.ty_el47 Go.Sim.Tryz.ty_zeroE47 Go.Sim.Tryz.ty_load52 Go.Sim.Tryz.ty_zero52 Go.Sim.Tryz.ty_fld52_0 Go.Sim.Tryz.ty_part52_0 Go.Sim.Tryz.ty_fld52_1 Go.Sim.Tryz.ty_part52_1 Go.Sim.Tryz.ty_struct52 Go.Sim.Tryz.ty_load58 Go.Sim.Tryz.ty_zero58 Go.Sim.Tryz.ty_fld58_0 Go.Sim.Tryz.ty_part58_0 Go.Sim.Tryz.ty_fld58_1 Go.Sim.Tryz.ty_part58_1 Go.Sim.Tryz.ty_struct58 Go.Sim.Tryz.ty_load60 Go.Sim.Tryz.ty_zero60 Go.Sim.Tryz.ty_fld60_0 Go.Sim.Tryz.ty_part60_0 Go.Sim.Tryz.ty_fld60_1 Go.Sim.Tryz.ty_part60_1 Go.Sim.Tryz.ty_struct60 Go.Sim.Tryz.ty_load62 Go.Sim.Tryz.ty_zero62 Go.Sim.Tryz.ty_fld62_0 Go.Sim.Tryz.ty_part62_0 Go.Sim.Tryz.ty_fld62_1 Go.Sim.Tryz.ty_part62_1 Go.Sim.Tryz.ty_fld62_2 Go.Sim.Tryz.ty_part62_2 Go.Sim.Tryz.ty_fld62_3 Go.Sim.Tryz.ty_part62_3 Go.Sim.Tryz.ty_struct62 Go.Sim.Tryz.ty_load73 Go.Sim.Tryz.ty_zero73 Go.Sim.Tryz.ty_el73 Go.Sim.Tryz.ty_zeroE73 Go.Sim.Tryz.ty_load75 Go.Sim.Tryz.ty_zero75 Go.Sim.Tryz.ty_fld75_0 Go.Sim.Tryz.ty_part75_0 Go.Sim.Tryz.ty_struct75 Go.Sim.Tryz.ty_load79 Go.Sim.Tryz.ty_zero79 Go.Sim.Tryz.ty_load80 Go.Sim.Tryz.ty_zero80 Go.Sim.Tryz.ty_el80 Go.Sim.Tryz.ty_zeroE80 Go.Sim.Tryz.ty_load82 Go.Sim.Tryz.ty_zero82 Go.Sim.Tryz.ty_fld82_0 Go.Sim.Tryz.ty_part82_0 Go.Sim.Tryz.ty_fld82_1 Go.Sim.Tryz.ty_part82_1 Go.Sim.Tryz.ty_fld82_2 Go.Sim.Tryz.ty_part82_2 Go.Sim.Tryz.ty_struct82 Go.Sim.Tryz.ty_load87 Go.Sim.Tryz.ty_zero87 Go.Sim.Tryz.ty_fld87_0 Go.Sim.Tryz.ty_part87_0 Go.Sim.Tryz.ty_fld87_1 Go.Sim.Tryz.ty_part87_1 Go.Sim.Tryz.ty_struct87 Go.Sim.Tryz.ty_load90 Go.Sim.Tryz.ty_zero90 Go.Sim.Tryz.ty_arr90 Go.Sim.Tryz.ty_part90_0 Go.Sim.Tryz.ty_part90_1 Go.Sim.Tryz.ty_struct90 Go.Sim.Tryz.ty_load92 Go.Sim.Tryz.ty_zero92 Go.Sim.Tryz.ty_load103 Go.Sim.Tryz.ty_zero103 Go.Sim.Tryz.ty_fld103_0 Go.Sim.Tryz.ty_part103_0 Go.Sim.Tryz.ty_fld103_1 Go.Sim.Tryz.ty_part103_1 Go.Sim.Tryz.ty_struct103 Go.Sim.Tryz.ty_load107 Go.Sim.Tryz.ty_zero107 Go.Sim.Tryz.ty_und107 Go.Sim.Tryz.ty_load110 Go.Sim.Tryz.ty_zero110 Go.Sim.Tryz.ty_und110 Go.Sim.Tryz.ty_load116 Go.Sim.Tryz.ty_zero116 Go.Sim.Tryz.ty_fld116_0 Go.Sim.Tryz.ty_part116_0 Go.Sim.Tryz.ty_struct116 Go.Sim.Tryz.ty_load117 Go.Sim.Tryz.ty_zero117 Go.Sim.Tryz.ty_load118 Go.Sim.Tryz.ty_zero118 Go.Sim.Tryz.ty_el118 Go.Sim.Tryz.ty_zeroE118 Go.Sim.Tryz.ty_load119 Go.Sim.Tryz.ty_zero119 Go.Sim.Tryz.ty_el119 Go.Sim.Tryz.ty_zeroE119 Go.Sim.Tryz.ty_load120 Go.Sim.Tryz.ty_zero120 Go.Sim.Tryz.ty_load131 Go.Sim.Tryz.ty_zero131 Go.Sim.Tryz.ty_load137 Go.Sim.Tryz.ty_zero137 Go.Sim.Tryz.ty_el137 Go.Sim.Tryz.ty_zeroE137 Go.Sim.Tryz.ty_load144 Go.Sim.Tryz.ty_zero144 Go.Sim.Tryz.ty_load147 Go.Sim.Tryz.ty_zero147 Go.Sim.Tryz.ty_und147 Go.Sim.Tryz.ty_load151 Go.Sim.Tryz.ty_zero151 Go.Sim.Tryz.ty_el151 Go.Sim.Tryz.ty_zeroE151 Go.Sim.Tryz.ty_load154 Go.Sim.Tryz.ty_zero154 Go.Sim.Tryz.ty_fld154_0 Go.Sim.Tryz.ty_part154_0 Go.Sim.Tryz.ty_struct154 Go.Sim.Tryz.ty_load164 Go.Sim.Tryz.ty_zero164 Go.Sim.Tryz.ty_load168 Go.Sim.Tryz.ty_zero168 Go.Sim.Tryz.ty_und168 Go.Sim.Tryz.ty_vzero154 Go.Sim.Tryz.ty_load171 Go.Sim.Tryz.ty_zero171 Go.Sim.Tryz.ty_fld171_0 Go.Sim.Tryz.ty_part171_0 Go.Sim.Tryz.ty_fld171_1 Go.Sim.Tryz.ty_part171_1 Go.Sim.Tryz.ty_fld171_2 Go.Sim.Tryz.ty_part171_2 Go.Sim.Tryz.ty_struct171 Go.Sim.Tryz.ty_load173 Go.Sim.Tryz.ty_zero173 Go.Sim.Tryz.ty_load175 Go.Sim.Tryz.ty_zero175 Go.Sim.Tryz.ty_und175 Go.Sim.Tryz.ty_load182 Go.Sim.Tryz.ty_zero182 Go.Sim.Tryz.ty_und182 Go.Sim.Tryz.ty_load185 Go.Sim.Tryz.ty_zero185 Go.Sim.Tryz.ty_load188 Go.Sim.Tryz.ty_zero188 Go.Sim.Tryz.ty_und188 Go.Sim.Tryz.ty_load192 Go.Sim.Tryz.ty_zero192 Go.Sim.Tryz.ty_load195 Go.Sim.Tryz.ty_zero195
section
attribute [local push_cast] encPl_mk encPl_take encPl_len encPl_one encPls_pure encPl_pure encT_pure encT_len encT_one encT_take
def encEnd (x : Int × Bool) : List AV := encW plO x.1 x.2
theorem encEnd_mk (e : Int) (s : Bool) : encEnd (e, s) = [.int 0, .int 0, .int 0, .int 0, .sl [], .int e, .bool s] := by
  show encW (.mk 0 0 0 0 []) e s = _
  rw [encW_mk]; rfl
theorem Ends_ok (q : Qy) : Quiet Go.Proofs.Tryz.prog 16 [.agg (encQ q)] (.sl ((endsQ q).map encEnd)) := by
  refine quiet_of (rs := #[.tmp 2]) Go.Proofs.Tryz.func16 rfl rfl rfl mixed rfl rfl fun H hs => ?_
  unfold endsQ
  by_cases hb : q.by_ = -1
  · have hb' : (q.by_ = -1) = True := by simp [hb]
    rw [if_pos hb]
    simp -implicitDefEqProofs only [push_cast, Nat.reduceAdd, Nat.reduceSub, Nat.reduceMul, Nat.reduceLT, Nat.reduceLeDiff, Nat.reduceEqDiff, Nat.reduceBEq, reduceCtorEq, reduceIte, Int.reduceLE, Int.reduceLT, Int.reduceNeg, Int.reduceToNat, encQ, hb', encEnd_mk, List.map_cons, List.map_nil]
  · have hb' : (q.by_ = -1) = False := by simp [hb]
    rw [if_neg hb]
    simp -implicitDefEqProofs only [push_cast, Nat.reduceAdd, Nat.reduceSub, Nat.reduceMul, Nat.reduceLT, Nat.reduceLeDiff, Nat.reduceEqDiff, Nat.reduceBEq, reduceCtorEq, reduceIte, Int.reduceLE, Int.reduceLT, Int.reduceNeg, Int.reduceToNat, encQ, hb', encEnd_mk, List.map_cons, List.map_nil, decide_not, ne_eq]
    exact ⟨by omega, by omega, by decide⟩
theorem Needs_ok (q : Qy) (p : Pl) (e : Int) (s : Bool) : Quiet Go.Proofs.Tryz.prog 18 [.agg (encQ q), .agg (encW p e s)] (.int (needsQ q e)) := by
  obtain ⟨op, occ, a, b, l⟩ := p
  rw [encW_mk]
  refine quiet_of (rs := #[.tmp 4]) Go.Proofs.Tryz.func18 rfl rfl rfl mixed rfl rfl fun H hs => ?_
  unfold needsQ
  by_cases h0 : e = 0
  · subst h0
    simp -implicitDefEqProofs only [push_cast, Nat.reduceAdd, Nat.reduceSub, Nat.reduceMul, Nat.reduceLT, Nat.reduceLeDiff, Nat.reduceEqDiff, Nat.reduceBEq, reduceCtorEq, reduceIte, Int.reduceLE, Int.reduceLT, Int.reduceNeg, Int.reduceToNat, encQ, Int.reduceEq, if_true]
  · have h0' : (e = 0) = False := by simp [h0]
    by_cases h2 : e = 2
    · subst h2
      simp -implicitDefEqProofs only [push_cast, Nat.reduceAdd, Nat.reduceSub, Nat.reduceMul, Nat.reduceLT, Nat.reduceLeDiff, Nat.reduceEqDiff, Nat.reduceBEq, reduceCtorEq, reduceIte, Int.reduceLE, Int.reduceLT, Int.reduceNeg, Int.reduceToNat, encQ, Int.reduceEq, if_true, if_false]
    · have h2' : (e = 2) = False := by simp [h2]
      simp -implicitDefEqProofs only [push_cast, Nat.reduceAdd, Nat.reduceSub, Nat.reduceMul, Nat.reduceLT, Nat.reduceLeDiff, Nat.reduceEqDiff, Nat.reduceBEq, reduceCtorEq, reduceIte, Int.reduceLE, Int.reduceLT, Int.reduceNeg, Int.reduceToNat, encQ, h0', h2', if_false]
theorem fullOpt_ok (q : Qy) (h4 : q.occ.length ≤ 4) : Quiet Go.Proofs.Tryz.prog 43 [.agg (encQ q)] (.int (2 ^ q.occ.length - 1)) := by
  have hc : q.occ.length = 0 ∨ q.occ.length = 1 ∨ q.occ.length = 2 ∨ q.occ.length = 3 ∨ q.occ.length = 4 := by omega
  refine quiet_of (rs := #[.tmp 2]) Go.Proofs.Tryz.func43 rfl rfl rfl mixed rfl rfl fun H hs => ?_
  rcases hc with hc | hc | hc | hc | hc
  · rw [hc]; simp -implicitDefEqProofs only [push_cast, Nat.reduceAdd, Nat.reduceSub, Nat.reduceMul, Nat.reduceLT, Nat.reduceLeDiff, Nat.reduceEqDiff, Nat.reduceBEq, reduceCtorEq, reduceIte, Int.reduceLE, Int.reduceLT, Int.reduceNeg, Int.reduceToNat, encQ, hc, Int.reduceAdd]; decide
  · rw [hc]; simp -implicitDefEqProofs only [push_cast, Nat.reduceAdd, Nat.reduceSub, Nat.reduceMul, Nat.reduceLT, Nat.reduceLeDiff, Nat.reduceEqDiff, Nat.reduceBEq, reduceCtorEq, reduceIte, Int.reduceLE, Int.reduceLT, Int.reduceNeg, Int.reduceToNat, encQ, hc, Int.reduceAdd]; decide
  · rw [hc]; simp -implicitDefEqProofs only [push_cast, Nat.reduceAdd, Nat.reduceSub, Nat.reduceMul, Nat.reduceLT, Nat.reduceLeDiff, Nat.reduceEqDiff, Nat.reduceBEq, reduceCtorEq, reduceIte, Int.reduceLE, Int.reduceLT, Int.reduceNeg, Int.reduceToNat, encQ, hc, Int.reduceAdd]; decide
  · rw [hc]; simp -implicitDefEqProofs only [push_cast, Nat.reduceAdd, Nat.reduceSub, Nat.reduceMul, Nat.reduceLT, Nat.reduceLeDiff, Nat.reduceEqDiff, Nat.reduceBEq, reduceCtorEq, reduceIte, Int.reduceLE, Int.reduceLT, Int.reduceNeg, Int.reduceToNat, encQ, hc, Int.reduceAdd]; decide
  · rw [hc]; simp -implicitDefEqProofs only [push_cast, Nat.reduceAdd, Nat.reduceSub, Nat.reduceMul, Nat.reduceLT, Nat.reduceLeDiff, Nat.reduceEqDiff, Nat.reduceBEq, reduceCtorEq, reduceIte, Int.reduceLE, Int.reduceLT, Int.reduceNeg, Int.reduceToNat, encQ, hc, Int.reduceAdd]; decide
theorem addK_sing {x : Int} (h0 : 0 ≤ x) (h1 : x ≤ capK) : addK [x] = x := by
  rw [addK_cons, addK_nil]; exact addK_to h0 h1
set_option maxHeartbeats 4000000 in
theorem Extra_ok (c : List Df) (hcl : c.length ≤ 1000000) (q : Qy) (hq : q.Ok) (p : Pl) (e : Int) (s : Bool) : Quiet Go.Proofs.Tryz.prog 20 [.agg [.sl (c.map encD)], .agg (encQ q), .agg (encW p e s)] (.int (extraQ c q e s)) := by
  have hM := MayQ_ok c hcl q hq
  obtain ⟨op, occ, a, b, l⟩ := p
  rw [encW_mk]
  unfold extraQ
  by_cases he : e = 0
  · rw [if_pos (Or.inl he)]
    subst he
    refine quiet_of (rs := #[.tmp 6]) Go.Proofs.Tryz.func20 rfl rfl rfl mixed rfl rfl fun H hs => ?_
    simp -implicitDefEqProofs only [push_cast, Nat.reduceAdd, Nat.reduceSub, Nat.reduceMul, Nat.reduceLT, Nat.reduceLeDiff, Nat.reduceEqDiff, Nat.reduceBEq, reduceCtorEq, reduceIte, Int.reduceLE, Int.reduceLT, Int.reduceNeg, Int.reduceToNat, encQ, Int.reduceEq, if_false, if_true, or_true, or_false, true_or, false_or, List.map_cons, List.map_nil, List.length_cons, List.length_nil, Int.reduceAdd, List.cons_append, List.nil_append, List.append_nil]
    refine gcallq' (.bool true) (fun h => by cases h) (fun h => by cases h) ?_
    simp -implicitDefEqProofs only [push_cast, Nat.reduceAdd, Nat.reduceSub, Nat.reduceMul, Nat.reduceLT, Nat.reduceLeDiff, Nat.reduceEqDiff, Nat.reduceBEq, reduceCtorEq, reduceIte, Int.reduceLE, Int.reduceLT, Int.reduceNeg, Int.reduceToNat, encQ, Int.reduceEq, if_false, if_true, or_true, or_false, true_or, false_or, List.map_cons, List.map_nil, List.length_cons, List.length_nil, Int.reduceAdd, List.cons_append, List.nil_append, List.append_nil]
  have he' : (e = 0) = False := by simp [he]
  have hen : decide (e = 0) = false := by simp [he]
  cases hm : q.may c
  · rw [if_pos (Or.inr rfl)]
    rw [hm] at hM
    refine quiet_of (rs := #[.tmp 6]) Go.Proofs.Tryz.func20 rfl rfl rfl mixed rfl rfl fun H hs => ?_
    simp -implicitDefEqProofs only [push_cast, Nat.reduceAdd, Nat.reduceSub, Nat.reduceMul, Nat.reduceLT, Nat.reduceLeDiff, Nat.reduceEqDiff, Nat.reduceBEq, reduceCtorEq, reduceIte, Int.reduceLE, Int.reduceLT, Int.reduceNeg, Int.reduceToNat, encQ, Int.reduceEq, if_false, if_true, or_true, or_false, true_or, false_or, List.map_cons, List.map_nil, List.length_cons, List.length_nil, Int.reduceAdd, List.cons_append, List.nil_append, List.append_nil, he', hen]
    refine gcallq' (.bool false) (fun _ => by simp) (fun _ => hM) ?_
    simp -implicitDefEqProofs only [push_cast, Nat.reduceAdd, Nat.reduceSub, Nat.reduceMul, Nat.reduceLT, Nat.reduceLeDiff, Nat.reduceEqDiff, Nat.reduceBEq, reduceCtorEq, reduceIte, Int.reduceLE, Int.reduceLT, Int.reduceNeg, Int.reduceToNat, encQ, Int.reduceEq, if_false, if_true, or_true, or_false, true_or, false_or, List.map_cons, List.map_nil, List.length_cons, List.length_nil, Int.reduceAdd, List.cons_append, List.nil_append, List.append_nil, he', hen]
  rw [if_neg (show ¬ (e = 0 ∨ true = false) from fun h => h.elim he fun h => by cases h)]
  rw [hm] at hM
  have h4 := (may_split hm).2.2.1
  have hR := Rows_ok c hcl q hq (2 ^ q.occ.length - 1)
  rw [rows_full hm] at hR
  have hFu := fullOpt_ok q h4
  have hG := GroupK_ok (rowsQ c q 15) (decide (e = 1))
  have hgr := groupK_range (rowsQ c q 15) (decide (e = 1))
  have hGs := Groups_ok c hcl q hq
  unfold extraL
  generalize (2 : Int) ^ q.occ.length - 1 = F at hR hFu
  generalize groupK (rowsQ c q 15) (decide (e = 1)) = G at hG hgr ⊢
  have hSo := SortK_ok (groupsQ c q)
  generalize sortK (groupsQ c q) = K at hSo ⊢
  refine quiet_of (rs := #[.tmp 6]) Go.Proofs.Tryz.func20 rfl rfl rfl mixed rfl rfl fun H hs => ?_
  simp -implicitDefEqProofs only [push_cast, Nat.reduceAdd, Nat.reduceSub, Nat.reduceMul, Nat.reduceLT, Nat.reduceLeDiff, Nat.reduceEqDiff, Nat.reduceBEq, reduceCtorEq, reduceIte, Int.reduceLE, Int.reduceLT, Int.reduceNeg, Int.reduceToNat, encQ, Int.reduceEq, if_false, if_true, or_true, or_false, true_or, false_or, List.map_cons, List.map_nil, List.length_cons, List.length_nil, Int.reduceAdd, List.cons_append, List.nil_append, List.append_nil, he', hen]
  refine gcallq' (.bool true) (fun _ => by simp) (fun _ => hM) ?_
  simp -implicitDefEqProofs only [push_cast, Nat.reduceAdd, Nat.reduceSub, Nat.reduceMul, Nat.reduceLT, Nat.reduceLeDiff, Nat.reduceEqDiff, Nat.reduceBEq, reduceCtorEq, reduceIte, Int.reduceLE, Int.reduceLT, Int.reduceNeg, Int.reduceToNat, encQ, Int.reduceEq, if_false, if_true, or_true, or_false, true_or, false_or, List.map_cons, List.map_nil, List.length_cons, List.length_nil, Int.reduceAdd, List.cons_append, List.nil_append, List.append_nil, he', hen]
  refine areg_at 9 (by kernel_rfl) (by kernel_rfl) ?_
  simp -implicitDefEqProofs only [push_cast, Nat.reduceAdd, Nat.reduceSub, Nat.reduceMul, Nat.reduceLT, Nat.reduceLeDiff, Nat.reduceEqDiff, Nat.reduceBEq, reduceCtorEq, reduceIte, Int.reduceLE, Int.reduceLT, Int.reduceNeg, Int.reduceToNat, encQ, Int.reduceEq, if_false, if_true, or_true, or_false, true_or, false_or, List.map_cons, List.map_nil, List.length_cons, List.length_nil, Int.reduceAdd, List.cons_append, List.nil_append, List.append_nil, he', hen]
  refine ahdq hFu ?_
  simp -implicitDefEqProofs only [push_cast, Nat.reduceAdd, Nat.reduceSub, Nat.reduceMul, Nat.reduceLT, Nat.reduceLeDiff, Nat.reduceEqDiff, Nat.reduceBEq, reduceCtorEq, reduceIte, Int.reduceLE, Int.reduceLT, Int.reduceNeg, Int.reduceToNat, encQ, Int.reduceEq, if_false, if_true, or_true, or_false, true_or, false_or, List.map_cons, List.map_nil, List.length_cons, List.length_nil, Int.reduceAdd, List.cons_append, List.nil_append, List.append_nil, he', hen]
  refine ahdq hR ?_
  simp -implicitDefEqProofs only [push_cast, Nat.reduceAdd, Nat.reduceSub, Nat.reduceMul, Nat.reduceLT, Nat.reduceLeDiff, Nat.reduceEqDiff, Nat.reduceBEq, reduceCtorEq, reduceIte, Int.reduceLE, Int.reduceLT, Int.reduceNeg, Int.reduceToNat, encQ, Int.reduceEq, if_false, if_true, or_true, or_false, true_or, false_or, List.map_cons, List.map_nil, List.length_cons, List.length_nil, Int.reduceAdd, List.cons_append, List.nil_append, List.append_nil, he', hen]
  refine ahdq hG ?_
  simp -implicitDefEqProofs only [push_cast, Nat.reduceAdd, Nat.reduceSub, Nat.reduceMul, Nat.reduceLT, Nat.reduceLeDiff, Nat.reduceEqDiff, Nat.reduceBEq, reduceCtorEq, reduceIte, Int.reduceLE, Int.reduceLT, Int.reduceNeg, Int.reduceToNat, encQ, Int.reduceEq, if_false, if_true, or_true, or_false, true_or, false_or, List.map_cons, List.map_nil, List.length_cons, List.length_nil, Int.reduceAdd, List.cons_append, List.nil_append, List.append_nil, he', hen]
  cases s
  · have hsg := addK_sing hgr.1 hgr.2
    simp -implicitDefEqProofs only [push_cast, Nat.reduceAdd, Nat.reduceSub, Nat.reduceMul, Nat.reduceLT, Nat.reduceLeDiff, Nat.reduceEqDiff, Nat.reduceBEq, reduceCtorEq, reduceIte, Int.reduceLE, Int.reduceLT, Int.reduceNeg, Int.reduceToNat, hsg, Bool.false_eq_true, encQ, Int.reduceEq, if_false, if_true, or_true, or_false, true_or, false_or, List.map_cons, List.map_nil, List.length_cons, List.length_nil, Int.reduceAdd, List.cons_append, List.nil_append, List.append_nil, he', hen]
  · have hA := AddK_ok [G, K] (by simp)
    simp -implicitDefEqProofs only [push_cast, Nat.reduceAdd, Nat.reduceSub, Nat.reduceMul, Nat.reduceLT, Nat.reduceLeDiff, Nat.reduceEqDiff, Nat.reduceBEq, reduceCtorEq, reduceIte, Int.reduceLE, Int.reduceLT, Int.reduceNeg, Int.reduceToNat, encQ, Int.reduceEq, if_false, if_true, or_true, or_false, true_or, false_or, List.map_cons, List.map_nil, List.length_cons, List.length_nil, Int.reduceAdd, List.cons_append, List.nil_append, List.append_nil, he', hen]
    refine callq hGs ?_
    simp -implicitDefEqProofs only [push_cast, Nat.reduceAdd, Nat.reduceSub, Nat.reduceMul, Nat.reduceLT, Nat.reduceLeDiff, Nat.reduceEqDiff, Nat.reduceBEq, reduceCtorEq, reduceIte, Int.reduceLE, Int.reduceLT, Int.reduceNeg, Int.reduceToNat, encQ, Int.reduceEq, if_false, if_true, or_true, or_false, true_or, false_or, List.map_cons, List.map_nil, List.length_cons, List.length_nil, Int.reduceAdd, List.cons_append, List.nil_append, List.append_nil, he', hen]
    refine callq hSo ?_
    simp -implicitDefEqProofs only [push_cast, Nat.reduceAdd, Nat.reduceSub, Nat.reduceMul, Nat.reduceLT, Nat.reduceLeDiff, Nat.reduceEqDiff, Nat.reduceBEq, reduceCtorEq, reduceIte, Int.reduceLE, Int.reduceLT, Int.reduceNeg, Int.reduceToNat, encQ, Int.reduceEq, if_false, if_true, or_true, or_false, true_or, false_or, List.map_cons, List.map_nil, List.length_cons, List.length_nil, Int.reduceAdd, List.cons_append, List.nil_append, List.append_nil, he', hen]
    refine fzk H 3 2 [.sl ([G, K].map encI)] (by rfl) (by omega) (by simp) ?_ ?_
    · (try simp -implicitDefEqProofs only [push_cast, Nat.reduceAdd, Nat.reduceSub, Nat.reduceMul, Nat.reduceLT, Nat.reduceLeDiff, Nat.reduceEqDiff, Nat.reduceBEq, reduceCtorEq, reduceIte, Int.reduceLE, Int.reduceLT, Int.reduceNeg, Int.reduceToNat, encI, Int.reduceEq, if_false, if_true, or_true, or_false, true_or, false_or, List.map_cons, List.map_nil, List.length_cons, List.length_nil, Int.reduceAdd, List.cons_append, List.nil_append, List.append_nil])
    refine callq hA ?_
    simp -implicitDefEqProofs only [push_cast, Nat.reduceAdd, Nat.reduceSub, Nat.reduceMul, Nat.reduceLT, Nat.reduceLeDiff, Nat.reduceEqDiff, Nat.reduceBEq, reduceCtorEq, reduceIte, Int.reduceLE, Int.reduceLT, Int.reduceNeg, Int.reduceToNat, encQ, Int.reduceEq, if_false, if_true, or_true, or_false, true_or, false_or, List.map_cons, List.map_nil, List.length_cons, List.length_nil, Int.reduceAdd, List.cons_append, List.nil_append, List.append_nil, he', hen]
end
section
theorem opt_to {c d : List Df} {q r : Qy} (h : q.may c = true) (h' : r.may d = true) (hs : ∀ p e s, fineP d r p e s = true → fineP c q p e s = true ∧ allP c q p e s ≤ allP d r p e s) : (optQ c q).1 ≤ (optQ d r).1 := by
  obtain ⟨g1, g2⟩ := opt_good h' (opt_mem h')
  obtain ⟨f1, f2⟩ := hs _ _ _ g1
  rw [← g2]
  exact Int.le_trans (opt_le h f1) f2
theorem rowsK_mono {a b : Int} (h : a ≤ b) : rowsK a ≤ rowsK b := by unfold rowsK; omega
theorem leastK_mono {a b : Int} (h : a ≤ b) : leastK a ≤ leastK b := by unfold leastK; omega
theorem nestK_mono {a b x y : Int} (h1 : a ≤ x) (h2 : b ≤ y) : nestK a b ≤ nestK x y :=
  leastK_mono (Int.mul_le_mul (rowsK_mono h1) (rowsK_mono h2) (rowsK_range _).1 (rowsK_range _).1)
theorem hashK_mono {a b x y : Int} (h1 : a ≤ x) (h2 : b ≤ y) : hashK a b ≤ hashK x y := by
  have := rowsK_mono h1
  have := rowsK_mono h2
  exact leastK_mono (by omega)
theorem mergeK_mono {a b x y : Int} (h1 : a ≤ x) (h2 : b ≤ y) : mergeK a b ≤ mergeK x y := by
  have := rowsK_mono h1
  have := rowsK_mono h2
  exact leastK_mono (by omega)
theorem lenK_mono {a b : Int} (h : a ≤ b) : lenK a ≤ lenK b := by
  unfold lenK
  split
  · split <;> omega
  · rename_i ha
    rw [if_neg (by omega)]
    have : Nat.log2 a.toNat ≤ Nat.log2 b.toNat := by
      rw [Nat.le_log2 (by omega)]
      exact Nat.le_trans (Nat.log2_self_le (by omega)) (by omega)
    omega
theorem lenK_nneg (a : Int) : 0 ≤ lenK a := by unfold lenK; split <;> omega
theorem sortK_mono {a b : Int} (h : a ≤ b) : sortK a ≤ sortK b :=
  leastK_mono (Int.mul_le_mul (rowsK_mono h) (lenK_mono (rowsK_mono h)) (lenK_nneg _) (rowsK_range _).1)
theorem groupK_mono {a b : Int} (h : a ≤ b) (x : Bool) : groupK a x ≤ groupK b x := by
  have := rowsK_mono h
  unfold groupK
  split
  · exact leastK_mono (by omega)
  · exact this
theorem addK_map_mono {l : List Pl} {f g : Pl → Int} (h : ∀ x ∈ l, f x ≤ g x) : addK (l.map f) ≤ addK (l.map g) := by
  induction l with
  | nil => exact Int.le_refl _
  | cons x l ih =>
    rw [List.map_cons, List.map_cons, addK_cons, addK_cons (g x)]
    exact addK_mono2 (h x (.head _)) (ih fun y hy => h y (.tail _ hy))
section
variable {c d : List Df} (hl : likeD c d) {q : Qy} (h : q.may c = true) (h' : q.may d = true)
include hl h h'
theorem like_cols (s : Int) : q.cols d s = q.cols c s := by
  rw [Qy.cols, Qy.cols, if_pos h, if_pos h']
  unfold colsIn
  exact List.filter_congr fun x _ => by rw [like_isCol hl]
theorem like_fit (p : Pl) : fitP d q p = fitP c q p := by
  obtain ⟨op, occ, x, y, l⟩ := p
  match l with
  | [] => rfl
  | [z] => show (q.cols d _).contains x = (q.cols c _).contains x; rw [like_cols hl h h']
  | z :: w :: _ => rfl
theorem like_mayP (p : Pl) : mayP d q p = mayP c q p := by
  unfold mayP
  rw [h, h', show fitP d q = fitP c q from funext (like_fit hl h h')]
theorem like_base (o : Int) : baseR c q o ≤ baseR d q o := by
  unfold baseR
  by_cases ho : 0 ≤ o ∧ o < q.occ.length
  · rw [if_pos ⟨h, ho⟩, if_pos ⟨h', ho⟩]
    exact (hl.2 _).2
  · rw [if_neg (fun e => ho e.2), if_neg (fun e => ho e.2)]
    exact Int.le_refl _
theorem like_own (p : Pl) : ownC c q p ≤ ownC d q p := by
  obtain ⟨op, occ, x, y, l⟩ := p
  have hr := like_rows hl h h'
  match l with
  | [] => exact rowsK_mono (like_base hl h h' occ)
  | [z] => exact sortK_mono (hr _)
  | z :: w :: _ =>
    unfold ownC
    dsimp only
    split
    · exact nestK_mono (hr _) (hr _)
    · split
      · exact hashK_mono (hr _) (hr _)
      · exact mergeK_mono (hr _) (hr _)
theorem like_cost {p : Pl} (hp : mayP d q p = true) : costP c q p ≤ costP d q p := by
  have hp' : mayP c q p = true := by rw [← like_mayP hl h h']; exact hp
  rw [costP, costP, if_pos hp, if_pos hp']
  exact addK_map_mono fun x _ => like_own hl h h' x
theorem like_extra (e : Int) (s : Bool) : extraQ c q e s ≤ extraQ d q e s := by
  unfold extraQ
  rw [h, h']
  split
  · exact Int.le_refl _
  · have h1 := groupK_mono (like_rows hl h h' 15) (decide (e = 1))
    have h2 := sortK_mono (like_groups hl h h')
    unfold extraL
    cases s
    · simp only [Bool.false_eq_true, if_false, List.append_nil]
      generalize groupK _ _ = x at h1 ⊢
      generalize groupK _ _ = y at h1 ⊢
      rw [addK_cons, addK_cons y]
      exact addK_mono2 h1 (Int.le_refl _)
    · exact addK_mono2 h1 h2
theorem opt_more : (optQ c q).1 ≤ (optQ d q).1 := by
  refine opt_to h h' fun p e s hf => ?_
  obtain ⟨h1, h2, h3, h4⟩ := fine_iff.1 hf
  have hf' : fineP c q p e s = true := fine_iff.2 ⟨by rw [← like_mayP hl h h']; exact h1, h2, h3, h4⟩
  refine ⟨hf', ?_⟩
  rw [all_eq h hf', all_eq h' hf]
  exact addK_mono2 (like_cost hl h h' h1) (like_extra hl h h' e s)
end
end
section
def Qy.back (q : Qy) : Qy := { q with p := q.p.reverse }
theorem pairs_iff {q : Qy} {a b : Int} {x : Int × Int} : x ∈ q.pairs a b ↔ ∃ e ∈ q.p, newT a b e = true ∧ x ∈ pairOf a b e := by
  unfold Qy.pairs pairsF
  rw [List.mem_flatMap]
  constructor
  · rintro ⟨i, hi, hx⟩
    obtain ⟨h1, h2⟩ := new_mem hi
    exact ⟨_, h2, h1, hx⟩
  · rintro ⟨e, he, h1, hx⟩
    obtain ⟨k, hk, rfl⟩ := List.getElem_of_mem he
    have e1 : q.p.getD ((k : Int)).toNat exO = q.p[k] := by
      rw [Int.toNat_natCast, List.getD_eq_getElem?_getD, List.getElem?_eq_getElem hk, Option.getD_some]
    refine ⟨(k : Int), (idxF_mem _ _ _).2 ⟨by omega, by omega, by rw [e1]; exact h1⟩, by rw [e1]; exact hx⟩
theorem turn_pairs (q : Qy) (a b : Int) (x : Int × Int) : (q.back.pairs a b).contains x = (q.pairs a b).contains x := by
  rw [Bool.eq_iff_iff, List.contains_iff_mem, List.contains_iff_mem, pairs_iff, pairs_iff]
  constructor
  · rintro ⟨e, he, h⟩; exact ⟨e, List.mem_reverse.1 he, h⟩
  · rintro ⟨e, he, h⟩; exact ⟨e, List.mem_reverse.2 he, h⟩
section
variable {c : List Df} {q : Qy} (h : q.may c = true)
include h
theorem turn_cols (s : Int) : q.back.cols c s = q.cols c s := by
  rw [Qy.cols, Qy.cols, if_pos h, if_pos (show q.back.may c = true from back_may h)]; rfl
theorem turn_fit (p : Pl) : fitP c q.back p = fitP c q p := by
  obtain ⟨op, occ, x, y, l⟩ := p
  match l with
  | [] => rfl
  | [z] => show (q.back.cols c _).contains x = (q.cols c _).contains x; rw [turn_cols h]
  | z :: w :: _ =>
    unfold fitP
    dsimp only
    rw [turn_pairs]
theorem turn_mayP (p : Pl) : mayP c q.back p = mayP c q p := by
  unfold mayP
  rw [h, show q.back.may c = true from back_may h, show fitP c q.back = fitP c q from funext (turn_fit h)]
  rfl
theorem turn_own (p : Pl) : ownC c q.back p = ownC c q p := by
  obtain ⟨op, occ, x, y, l⟩ := p
  have hr : ∀ s, rowsQ c q.back s = rowsQ c q s := back_rows h
  match l with
  | [] => show scanK (baseR c q.back occ) = scanK (baseR c q occ); unfold baseR; rw [h, show q.back.may c = true from back_may h]; rfl
  | [z] => show sortK (rowsQ c q.back _) = _; rw [hr]; rfl
  | z :: w :: _ =>
    unfold ownC
    simp only [hr]
theorem turn_cost (p : Pl) : costP c q.back p = costP c q p := by
  unfold costP
  rw [turn_mayP h, show ownC c q.back = ownC c q from funext (turn_own h)]
theorem turn_extra (e : Int) (s : Bool) : extraQ c q.back e s = extraQ c q e s := by
  have hr : ∀ s, rowsQ c q.back s = rowsQ c q s := back_rows h
  have hg : groupsQ c q.back = groupsQ c q := by
    unfold groupsQ
    rw [if_pos h, if_pos (show q.back.may c = true from back_may h), hr]
    rfl
  unfold extraQ extraL
  rw [h, show q.back.may c = true from back_may h, hr, hg]
theorem turn_fine {p : Pl} {e : Int} {s : Bool} : fineP c q.back p e s = true ↔ fineP c q p e s = true := by
  rw [fine_iff, fine_iff, turn_mayP h]
  exact Iff.rfl
theorem opt_back : (optQ c q.back).1 = (optQ c q).1 := by
  have h' : q.back.may c = true := back_may h
  refine Int.le_antisymm (opt_to h' h fun p e s hf => ?_) (opt_to h h' fun p e s hf => ?_)
  · have hf' := (turn_fine h).2 hf
    refine ⟨hf', ?_⟩
    rw [all_eq h hf, all_eq h' hf', turn_cost h, turn_extra h]
    exact Int.le_refl _
  · have hf' := (turn_fine h).1 hf
    refine ⟨hf', ?_⟩
    rw [all_eq h hf', all_eq h' hf, turn_cost h, turn_extra h]
    exact Int.le_refl _
end
end
section
theorem leastW_push {acc : List Cw} (h : acc ≠ []) (x : Cw) : leastW (acc ++ [x]) = if x.1 < (leastW acc).1 then x else leastW acc := by
  match acc, h with
  | y :: l, _ => rw [List.cons_append, leastW, leastW, List.foldl_append]; rfl
end
section
theorem oneQ9_pairs' : oneQ9.pairs 2 1 = [(4, 0)] := by
  rw [Qy.pairs, oneQ9_new]
  decide +kernel
theorem oneQ9_cols4 : (oneQ9.cols catTwo 2).contains 4 = true := by rw [Qy.cols, if_pos oneQ9_may]; decide +kernel
theorem ways9' : waysP oneQ9 2 1 (-1) = [nestW, .mk 2 0 4 0 [], .mk 3 0 4 0 []] := by unfold waysP; rw [oneQ9_pairs']; rfl
theorem v9_n (col : Int) : wayC catTwo oneQ9 (bestF catTwo oneQ9 3 (.leaf 1)) (bestF catTwo oneQ9 3 (.leaf 0)) 2 1 col nestW = if col ≠ -1 ∧ (oneQ9.cols catTwo 2).contains col = false then [] else [(addK [(bestF catTwo oneQ9 3 (.leaf 1) col).1, (bestF catTwo oneQ9 3 (.leaf 0) (-1)).1, nestK (rowsQ catTwo oneQ9 2) (rowsQ catTwo oneQ9 1)], .mk 1 0 0 0 [(bestF catTwo oneQ9 3 (.leaf 1) col).2, (bestF catTwo oneQ9 3 (.leaf 0) (-1)).2])] := rfl
theorem v9_h (col : Int) : wayC catTwo oneQ9 (bestF catTwo oneQ9 3 (.leaf 1)) (bestF catTwo oneQ9 3 (.leaf 0)) 2 1 col (.mk 2 0 4 0 []) = [(addK [(bestF catTwo oneQ9 3 (.leaf 1) (-1)).1, (bestF catTwo oneQ9 3 (.leaf 0) (-1)).1, hashK (rowsQ catTwo oneQ9 2) (rowsQ catTwo oneQ9 1)], .mk 2 0 4 0 [(bestF catTwo oneQ9 3 (.leaf 1) (-1)).2, (bestF catTwo oneQ9 3 (.leaf 0) (-1)).2])] := by
  unfold wayC
  rw [if_neg (fun h => h.1 rfl)]; rfl
theorem v9_m (col : Int) : wayC catTwo oneQ9 (bestF catTwo oneQ9 3 (.leaf 1)) (bestF catTwo oneQ9 3 (.leaf 0)) 2 1 col (.mk 3 0 4 0 []) = [(addK [(bestF catTwo oneQ9 3 (.leaf 1) 4).1, (bestF catTwo oneQ9 3 (.leaf 0) 0).1, mergeK (rowsQ catTwo oneQ9 2) (rowsQ catTwo oneQ9 1)], .mk 3 0 4 0 [(bestF catTwo oneQ9 3 (.leaf 1) 4).2, (bestF catTwo oneQ9 3 (.leaf 0) 0).2])] := by
  unfold wayC
  rw [if_neg (fun h => by have h2 : (oneQ9.cols catTwo 2).contains 4 = false := h.2; rw [oneQ9_cols4] at h2; cases h2)]; rfl
theorem c9_j : bestF catTwo oneQ9 4 (.join (.leaf 1) (.leaf 0)) (-1) = (320, .mk 2 0 4 0 [.mk 0 1 0 0 [], .mk 0 0 0 0 []]) := by
  rw [joinV, set0, set1, ways9', List.flatMap_cons, List.flatMap_cons, List.flatMap_cons, List.flatMap_nil, v9_n, v9_h, v9_m, if_neg (fun h => h.1 rfl), b9_0, b9_1, b9_0s, b9_1s, oneQ9_1, oneQ9_2, if_pos rfl]
  rfl
theorem all_three : allT 4 3 = [.join (.leaf 0) (.leaf 1), .join (.leaf 1) (.leaf 0)] := by rfl
theorem opt9 : optQ catTwo oneQ9 = (230, (.mk 2 0 0 4 [.mk 0 0 0 0 [], .mk 0 1 0 0 []], 0, false)) := by
  have hl : optL catTwo oneQ9 = [optOne catTwo oneQ9 (.join (.leaf 0) (.leaf 1)) (0, false), optOne catTwo oneQ9 (.join (.leaf 1) (.leaf 0)) (0, false)] := by
    have e1 : (2 : Int) ^ oneQ9.occ.length - 1 = 3 := by rfl
    have ho : endsQ oneQ9 = [(0, false)] := by rfl
    rw [optL, e1, all_three, ho]
    rfl
  have hx : extraQ catTwo oneQ9 0 false = 0 := by unfold extraQ; rw [if_pos (show (0 : Int) = 0 ∨ oneQ9.may catTwo = false from .inl rfl)]
  have hn : needsQ oneQ9 0 = -1 := rfl
  have h1 : optOne catTwo oneQ9 (.join (.leaf 0) (.leaf 1)) (0, false) = (230, (.mk 2 0 0 4 [.mk 0 0 0 0 [], .mk 0 1 0 0 []], 0, false)) := by
    unfold optOne
    dsimp only
    rw [hx, hn, b9_j]
    exact congrArg (fun n : Int => (n, (Pl.mk 2 0 0 4 [.mk 0 0 0 0 [], .mk 0 1 0 0 []], (0 : Int), false))) (by decide +kernel : addK [230, 0] = 230)
  have h2 : optOne catTwo oneQ9 (.join (.leaf 1) (.leaf 0)) (0, false) = (320, (.mk 2 0 4 0 [.mk 0 1 0 0 [], .mk 0 0 0 0 []], 0, false)) := by
    unfold optOne
    dsimp only
    rw [hx, hn, c9_j]
    exact congrArg (fun n : Int => (n, (Pl.mk 2 0 4 0 [.mk 0 1 0 0 [], .mk 0 0 0 0 []], (0 : Int), false))) (by decide +kernel : addK [320, 0] = 320)
  rw [optQ, if_pos oneQ9_may, hl, h1, h2]
  rfl
end
section
attribute [local push_cast] encPl_mk encPl_take encPl_len encPl_one encPls_pure encPl_pure encT_pure encT_len encT_one encT_take
def encCw (x : Cw) : List AV := encW x.2.1 x.2.2.1 x.2.2.2 ++ [.int x.1]
theorem encCw_mk (n : Int) (op occ a b : Int) (l : List Pl) (e : Int) (s : Bool) : encCw (n, (.mk op occ a b l, e, s)) = [.int op, .int occ, .int a, .int b, .sl (l.map encPl), .int e, .bool s, .int n] := by rw [encCw, encW_mk]; rfl
theorem encCw_len (x : Cw) : (encCw x).length = 8 := by
  obtain ⟨n, ⟨op, occ, a, b, l⟩, e, s⟩ := x
  rw [encCw_mk]; rfl
theorem encCw_pure (x : Cw) : PureL (encCw x) := by
  obtain ⟨n, ⟨op, occ, a, b, l⟩, e, s⟩ := x
  rw [encCw_mk]
  simp only [PureL, Pure, true_and, and_true]
  exact encPls_pure l
def finC (c : List Df) (q : Qy) (v : AV) : List AV := [.sl (c.map encD), .sl (q.occ.map encI), .sl (q.p.map encE), .int q.by_, .sl (q.sums.map encI), .sl (q.out.map encI), .int q.ord, v]
set_option maxHeartbeats 8000000 in
theorem with0_ok (c : List Df) (hcl : c.length ≤ 1000000) (q : Qy) (hq : q.Ok) (hp8 : q.p.length ≤ 8) (t : Tr) (ht : t.Ok) (e : Int) (s : Bool) (y : Cw) (hy : optOne c q t (e, s) = y) (i j : Nat) (H : AH) (hi : i < H.nxt) (hj : j < H.nxt) (ho : H.obj i = some (.cells 8 [finC c q (.rsl j 8 0 0)] 0)) (hr : H.obj j = some (.cells 8 [] 0)) (hv : validT c q t (needsQ q e) = true) :
    ACalls Go.Proofs.Tryz.prog 42 [.ptr i 8 0 0, .agg (encT t), .agg (encEnd (e, s))] H (fun r H' => r = .tup [] ∧ H' = (H.set i (.cells 8 [finC c q (.rsl (H.nxt + 3) 8 0 1)] 0)).plus [some (.cells 2 [encT t] 0), some (.cells 7 [encW y.2.1 y.2.2.1 y.2.2.2] 0), some (.cells 5 [encPl y.2.1] 0), some (.cells 8 [encCw y] 0)]) := by
  subst hy
  unfold optOne
  dsimp only
  have hN := Needs_ok q plO e s
  have hX := Extra_ok c hcl q hq plO e s
  have hB := Best_ok c hcl q hq hp8 t ht (needsQ q e)
  rw [bestR, if_pos hv] at hB
  rw [show encW plO e s = encEnd (e, s) from rfl] at hN hX
  generalize needsQ q e = nd at hN hB ⊢
  generalize extraQ c q e s = X at hX ⊢
  generalize bestF c q 4 t nd = x at hB ⊢
  obtain ⟨n, op, occ, a, b, l⟩ := x
  dsimp only at hB ⊢
  have hA := AddK_ok [n, X] (by simp)
  generalize addK [n, X] = m at hA ⊢
  rw [encEnd_mk] at hN hX
  rw [encEnd_mk]
  unfold finC at ho ⊢
  refine acalls_sc (rs := #[]) Go.Proofs.Tryz.func42 rfl rfl rfl mixed rfl (Nat.le_of_ble_eq_true rfl) fun hs _ => ?_
  have hob : ∀ l, (H.plus l).obj i = some (.cells 8 [[.sl (c.map encD), .sl (q.occ.map encI), .sl (q.p.map encE), .int q.by_, .sl (q.sums.map encI), .sl (q.out.map encI), .int q.ord, .rsl j 8 0 0]] 0) := fun l => by rw [plus_low H l hi]; exact ho
  have hoj : ∀ l, (H.plus l).obj j = some (.cells 8 [] 0) := fun l => by rw [plus_low H l hj]; exact hr
  have hset : ∀ l o, (H.plus l).set i o = (H.set i o).plus l := fun l o => plus_setlow H l hi o
  simp -implicitDefEqProofs only [push_cast, Nat.reduceAdd, Nat.reduceSub, Nat.reduceMul, Nat.reduceLT, Nat.reduceLeDiff, Nat.reduceEqDiff, Nat.reduceBEq, reduceCtorEq, reduceIte, Int.reduceLE, Int.reduceLT, Int.reduceNeg, Int.reduceToNat, encQ, Int.reduceEq, if_false, if_true, or_true, or_false, true_or, false_or, List.map_cons, List.map_nil, List.length_cons, List.length_nil, Int.reduceAdd, List.cons_append, List.nil_append, List.append_nil, List.set_cons_zero, List.set_cons_succ, hob, hoj, hset]
  refine areg_at 23 (by kernel_rfl) (by kernel_rfl) ?_
  simp -implicitDefEqProofs only [push_cast, Nat.reduceAdd, Nat.reduceSub, Nat.reduceMul, Nat.reduceLT, Nat.reduceLeDiff, Nat.reduceEqDiff, Nat.reduceBEq, reduceCtorEq, reduceIte, Int.reduceLE, Int.reduceLT, Int.reduceNeg, Int.reduceToNat, encQ, Int.reduceEq, if_false, if_true, or_true, or_false, true_or, false_or, List.map_cons, List.map_nil, List.length_cons, List.length_nil, Int.reduceAdd, List.cons_append, List.nil_append, List.append_nil, List.set_cons_zero, List.set_cons_succ, hob, hoj, hset]
  refine ahdq hN ?_
  simp -implicitDefEqProofs only [push_cast, Nat.reduceAdd, Nat.reduceSub, Nat.reduceMul, Nat.reduceLT, Nat.reduceLeDiff, Nat.reduceEqDiff, Nat.reduceBEq, reduceCtorEq, reduceIte, Int.reduceLE, Int.reduceLT, Int.reduceNeg, Int.reduceToNat, encQ, Int.reduceEq, if_false, if_true, or_true, or_false, true_or, false_or, List.map_cons, List.map_nil, List.length_cons, List.length_nil, Int.reduceAdd, List.cons_append, List.nil_append, List.append_nil, List.set_cons_zero, List.set_cons_succ, hob, hoj, hset]
  refine ahdq hB ?_
  simp -implicitDefEqProofs only [push_cast, Nat.reduceAdd, Nat.reduceSub, Nat.reduceMul, Nat.reduceLT, Nat.reduceLeDiff, Nat.reduceEqDiff, Nat.reduceBEq, reduceCtorEq, reduceIte, Int.reduceLE, Int.reduceLT, Int.reduceNeg, Int.reduceToNat, encQ, Int.reduceEq, if_false, if_true, or_true, or_false, true_or, false_or, List.map_cons, List.map_nil, List.length_cons, List.length_nil, Int.reduceAdd, List.cons_append, List.nil_append, List.append_nil, List.set_cons_zero, List.set_cons_succ, hob, hoj, hset]
  refine areg_im [40] 13 (by kernel_rfl) (by kernel_rfl) ?_
  simp -implicitDefEqProofs only [push_cast, Nat.reduceAdd, Nat.reduceSub, Nat.reduceMul, Nat.reduceLT, Nat.reduceLeDiff, Nat.reduceEqDiff, Nat.reduceBEq, reduceCtorEq, reduceIte, Int.reduceLE, Int.reduceLT, Int.reduceNeg, Int.reduceToNat, encQ, Int.reduceEq, if_false, if_true, or_true, or_false, true_or, false_or, List.map_cons, List.map_nil, List.length_cons, List.length_nil, Int.reduceAdd, List.cons_append, List.nil_append, List.append_nil, List.set_cons_zero, List.set_cons_succ, hob, hoj, hset]
  refine ahdq hX ?_
  simp -implicitDefEqProofs only [push_cast, Nat.reduceAdd, Nat.reduceSub, Nat.reduceMul, Nat.reduceLT, Nat.reduceLeDiff, Nat.reduceEqDiff, Nat.reduceBEq, reduceCtorEq, reduceIte, Int.reduceLE, Int.reduceLT, Int.reduceNeg, Int.reduceToNat, encQ, Int.reduceEq, if_false, if_true, or_true, or_false, true_or, false_or, List.map_cons, List.map_nil, List.length_cons, List.length_nil, Int.reduceAdd, List.cons_append, List.nil_append, List.append_nil, List.set_cons_zero, List.set_cons_succ, hob, hoj, hset]
  refine ahdq hA ?_
  simp -implicitDefEqProofs only [push_cast, Nat.reduceAdd, Nat.reduceSub, Nat.reduceMul, Nat.reduceLT, Nat.reduceLeDiff, Nat.reduceEqDiff, Nat.reduceBEq, reduceCtorEq, reduceIte, Int.reduceLE, Int.reduceLT, Int.reduceNeg, Int.reduceToNat, encQ, Int.reduceEq, if_false, if_true, or_true, or_false, true_or, false_or, List.map_cons, List.map_nil, List.length_cons, List.length_nil, Int.reduceAdd, List.cons_append, List.nil_append, List.append_nil, List.set_cons_zero, List.set_cons_succ, hob, hoj, hset, List.getD_nil, List.drop_nil]
  refine gskip ?_
  simp -implicitDefEqProofs only [push_cast, Nat.reduceAdd, Nat.reduceSub, Nat.reduceMul, Nat.reduceLT, Nat.reduceLeDiff, Nat.reduceEqDiff, Nat.reduceBEq, reduceCtorEq, reduceIte, Int.reduceLE, Int.reduceLT, Int.reduceNeg, Int.reduceToNat, encQ, Int.reduceEq, if_false, if_true, or_true, or_false, true_or, false_or, List.map_cons, List.map_nil, List.length_cons, List.length_nil, Int.reduceAdd, List.cons_append, List.nil_append, List.append_nil, List.set_cons_zero, List.set_cons_succ, hob, hoj, hset]
  refine retk trivial ⟨rfl, ?_⟩
  rw [encW_mk, encCw_mk]
set_option maxHeartbeats 8000000 in
theorem with1_ok (c : List Df) (hcl : c.length ≤ 1000000) (q : Qy) (hq : q.Ok) (hp8 : q.p.length ≤ 8) (t : Tr) (ht : t.Ok) (e : Int) (s : Bool) (y : Cw) (hy : optOne c q t (e, s) = y) (i j : Nat) (H : AH) (hi : i < H.nxt) (hj : j < H.nxt) (x0 : Cw) (ho : H.obj i = some (.cells 8 [finC c q (.rsl j 8 0 1)] 0)) (hr : H.obj j = some (.cells 8 [encCw x0] 0)) (hv : validT c q t (needsQ q e) = true) :
    ACalls Go.Proofs.Tryz.prog 42 [.ptr i 8 0 0, .agg (encT t), .agg (encEnd (e, s))] H (fun r H' => r = .tup [] ∧ ((y.1 < x0.1 → H' = (H.set i (.cells 8 [finC c q (.rsl (H.nxt + 3) 8 0 1)] 0)).plus [some (.cells 2 [encT t] 0), some (.cells 7 [encW y.2.1 y.2.2.1 y.2.2.2] 0), some (.cells 5 [encPl y.2.1] 0), some (.cells 8 [encCw y] 0)]) ∧ (¬ y.1 < x0.1 → H' = H.plus [some (.cells 2 [encT t] 0), some (.cells 7 [encEnd (e, s)] 0), some (.cells 5 [encPl y.2.1] 0)]))) := by
  subst hy
  unfold optOne
  dsimp only
  have hN := Needs_ok q plO e s
  have hX := Extra_ok c hcl q hq plO e s
  have hB := Best_ok c hcl q hq hp8 t ht (needsQ q e)
  rw [bestR, if_pos hv] at hB
  rw [show encW plO e s = encEnd (e, s) from rfl] at hN hX
  generalize needsQ q e = nd at hN hB ⊢
  generalize extraQ c q e s = X at hX ⊢
  generalize bestF c q 4 t nd = x at hB ⊢
  obtain ⟨n, op, occ, a, b, l⟩ := x
  dsimp only at hB ⊢
  have hA := AddK_ok [n, X] (by simp)
  generalize addK [n, X] = m at hA ⊢
  rw [encEnd_mk] at hN hX
  rw [encEnd_mk]
  unfold finC at ho ⊢
  obtain ⟨n0, ⟨o0, c0, a0, b0, l0⟩, e0, s0⟩ := x0
  rw [encCw_mk] at hr
  refine acalls_sc (rs := #[]) Go.Proofs.Tryz.func42 rfl rfl rfl mixed rfl (Nat.le_of_ble_eq_true rfl) fun hs _ => ?_
  have hob : ∀ l, (H.plus l).obj i = some (.cells 8 [[.sl (c.map encD), .sl (q.occ.map encI), .sl (q.p.map encE), .int q.by_, .sl (q.sums.map encI), .sl (q.out.map encI), .int q.ord, .rsl j 8 0 1]] 0) := fun l => by rw [plus_low H l hi]; exact ho
  have hoj : ∀ l, (H.plus l).obj j = some (.cells 8 [[.int o0, .int c0, .int a0, .int b0, .sl (l0.map encPl), .int e0, .bool s0, .int n0]] 0) := fun l => by rw [plus_low H l hj]; exact hr
  have hset : ∀ l o, (H.plus l).set i o = (H.set i o).plus l := fun l o => plus_setlow H l hi o
  simp -implicitDefEqProofs only [push_cast, Nat.reduceAdd, Nat.reduceSub, Nat.reduceMul, Nat.reduceLT, Nat.reduceLeDiff, Nat.reduceEqDiff, Nat.reduceBEq, reduceCtorEq, reduceIte, Int.reduceLE, Int.reduceLT, Int.reduceNeg, Int.reduceToNat, encQ, Int.reduceEq, if_false, if_true, or_true, or_false, true_or, false_or, List.map_cons, List.map_nil, List.length_cons, List.length_nil, Int.reduceAdd, List.cons_append, List.nil_append, List.append_nil, List.set_cons_zero, List.set_cons_succ, hob, hoj, hset]
  refine areg_at 23 (by kernel_rfl) (by kernel_rfl) ?_
  simp -implicitDefEqProofs only [push_cast, Nat.reduceAdd, Nat.reduceSub, Nat.reduceMul, Nat.reduceLT, Nat.reduceLeDiff, Nat.reduceEqDiff, Nat.reduceBEq, reduceCtorEq, reduceIte, Int.reduceLE, Int.reduceLT, Int.reduceNeg, Int.reduceToNat, encQ, Int.reduceEq, if_false, if_true, or_true, or_false, true_or, false_or, List.map_cons, List.map_nil, List.length_cons, List.length_nil, Int.reduceAdd, List.cons_append, List.nil_append, List.append_nil, List.set_cons_zero, List.set_cons_succ, hob, hoj, hset]
  refine ahdq hN ?_
  simp -implicitDefEqProofs only [push_cast, Nat.reduceAdd, Nat.reduceSub, Nat.reduceMul, Nat.reduceLT, Nat.reduceLeDiff, Nat.reduceEqDiff, Nat.reduceBEq, reduceCtorEq, reduceIte, Int.reduceLE, Int.reduceLT, Int.reduceNeg, Int.reduceToNat, encQ, Int.reduceEq, if_false, if_true, or_true, or_false, true_or, false_or, List.map_cons, List.map_nil, List.length_cons, List.length_nil, Int.reduceAdd, List.cons_append, List.nil_append, List.append_nil, List.set_cons_zero, List.set_cons_succ, hob, hoj, hset]
  refine ahdq hB ?_
  simp -implicitDefEqProofs only [push_cast, Nat.reduceAdd, Nat.reduceSub, Nat.reduceMul, Nat.reduceLT, Nat.reduceLeDiff, Nat.reduceEqDiff, Nat.reduceBEq, reduceCtorEq, reduceIte, Int.reduceLE, Int.reduceLT, Int.reduceNeg, Int.reduceToNat, encQ, Int.reduceEq, if_false, if_true, or_true, or_false, true_or, false_or, List.map_cons, List.map_nil, List.length_cons, List.length_nil, Int.reduceAdd, List.cons_append, List.nil_append, List.append_nil, List.set_cons_zero, List.set_cons_succ, hob, hoj, hset]
  refine areg_im [40] 13 (by kernel_rfl) (by kernel_rfl) ?_
  simp -implicitDefEqProofs only [push_cast, Nat.reduceAdd, Nat.reduceSub, Nat.reduceMul, Nat.reduceLT, Nat.reduceLeDiff, Nat.reduceEqDiff, Nat.reduceBEq, reduceCtorEq, reduceIte, Int.reduceLE, Int.reduceLT, Int.reduceNeg, Int.reduceToNat, encQ, Int.reduceEq, if_false, if_true, or_true, or_false, true_or, false_or, List.map_cons, List.map_nil, List.length_cons, List.length_nil, Int.reduceAdd, List.cons_append, List.nil_append, List.append_nil, List.set_cons_zero, List.set_cons_succ, hob, hoj, hset]
  refine ahdq hX ?_
  simp -implicitDefEqProofs only [push_cast, Nat.reduceAdd, Nat.reduceSub, Nat.reduceMul, Nat.reduceLT, Nat.reduceLeDiff, Nat.reduceEqDiff, Nat.reduceBEq, reduceCtorEq, reduceIte, Int.reduceLE, Int.reduceLT, Int.reduceNeg, Int.reduceToNat, encQ, Int.reduceEq, if_false, if_true, or_true, or_false, true_or, false_or, List.map_cons, List.map_nil, List.length_cons, List.length_nil, Int.reduceAdd, List.cons_append, List.nil_append, List.append_nil, List.set_cons_zero, List.set_cons_succ, hob, hoj, hset]
  refine ahdq hA ?_
  by_cases hlt : m < n0
  · have hlt' : (m < n0) = True := by simp [hlt]
    simp -implicitDefEqProofs only [push_cast, Nat.reduceAdd, Nat.reduceSub, Nat.reduceMul, Nat.reduceLT, Nat.reduceLeDiff, Nat.reduceEqDiff, Nat.reduceBEq, reduceCtorEq, reduceIte, Int.reduceLE, Int.reduceLT, Int.reduceNeg, Int.reduceToNat, encQ, Int.reduceEq, if_false, if_true, or_true, or_false, true_or, false_or, List.map_cons, List.map_nil, List.length_cons, List.length_nil, Int.reduceAdd, List.cons_append, List.nil_append, List.append_nil, List.set_cons_zero, List.set_cons_succ, hob, hoj, hset, hlt]
    refine retk trivial ⟨rfl, ?_⟩
    rw [encW_mk, encCw_mk]
  · have hlt' : (m < n0) = False := by simp [hlt]
    simp -implicitDefEqProofs only [push_cast, Nat.reduceAdd, Nat.reduceSub, Nat.reduceMul, Nat.reduceLT, Nat.reduceLeDiff, Nat.reduceEqDiff, Nat.reduceBEq, reduceCtorEq, reduceIte, Int.reduceLE, Int.reduceLT, Int.reduceNeg, Int.reduceToNat, encQ, Int.reduceEq, if_false, if_true, or_true, or_false, true_or, false_or, List.map_cons, List.map_nil, List.length_cons, List.length_nil, Int.reduceAdd, List.cons_append, List.nil_append, List.append_nil, List.set_cons_zero, List.set_cons_succ, hob, hoj, hset, hlt]
    exact retk trivial ⟨rfl, rfl⟩
end
section
mutual
theorem sameT_eq' : ∀ p q : Tr, sameT p q = true → p = q
  | .mk o l, .mk o' m, h => by
    simp only [sameT, Bool.and_eq_true, decide_eq_true_eq] at h
    obtain ⟨rfl, h⟩ := h
    rw [sameTL_eq' l m h]
theorem sameTL_eq' : ∀ l m : List Tr, sameTL l m = true → l = m
  | [], [], _ => rfl
  | x :: l, y :: m, h => by
    simp only [sameTL, Bool.and_eq_true] at h
    rw [sameT_eq' x y h.1, sameTL_eq' l m h.2]
  | [], _ :: _, h => by simp [sameTL] at h
  | _ :: _, [], h => by simp [sameTL] at h
end
theorem all_small' : ∀ i : Fin 15, sameTL (allT 3 (i.val : Int)) (allT 4 (i.val : Int)) = true := by decide +kernel
theorem all_small {a : Int} (h0 : 0 ≤ a) (h : a < 15) : allT 3 a = allT 4 a := by
  obtain ⟨i, rfl⟩ : ∃ i : Fin 15, a = (i.val : Int) := ⟨⟨a.toNat, by omega⟩, by simp; omega⟩
  exact sameTL_eq' _ _ (all_small' i)
theorem cutT_congr {f g : Int → List Tr} {s a : Int} (h : ∀ x : Int, 0 ≤ x → x < 15 → f x = g x) (ha : 1 ≤ a) (hs : s ≤ 15) : cutT f s a = cutT g s a := by
  unfold cutT
  split
  · rename_i hc
    simp only [Bool.and_eq_true, decide_eq_true_eq] at hc
    rw [h a (by omega) (by omega), h (s - a) (by omega) (by omega)]
  · rfl
theorem all_len (a : Int) : (allT 4 a).length ≤ 120 := by
  by_cases h : 1 ≤ a ∧ a < 16
  · obtain ⟨i, rfl⟩ : ∃ i : Fin 16, a = (i.val : Int) := ⟨⟨a.toNat, by omega⟩, by simp; omega⟩
    clear h
    revert i
    decide +kernel
  · rw [allT, if_neg h]; simp
theorem all_out {s : Int} (h : ¬ (1 ≤ s ∧ s < 16)) : allT 4 s = [] := by rw [allT, if_neg h]
def cutsU (s : Int) (n : Nat) : List Tr := (List.range n).flatMap fun (k : Nat) => cutT (allT 4) s ((k : Int) + 1)
theorem cutsU_zero (s : Int) : cutsU s 0 = [] := rfl
theorem cutsU_succ (s : Int) (n : Nat) : cutsU s (n + 1) = cutsU s n ++ cutT (allT 4) s ((n : Int) + 1) := by
  rw [cutsU, cutsU, List.range_succ, List.flatMap_append, List.flatMap_cons, List.flatMap_nil, List.append_nil]
theorem cutT_none {f : Int → List Tr} {s a : Int} (h : s ≤ a) : cutT f s a = [] := by
  unfold cutT
  rw [if_neg]
  simp only [Bool.and_eq_true, decide_eq_true_eq]
  omega
theorem cutsU_end {s : Int} {n : Nat} (h : s ≤ (n : Int) + 1) (m : Nat) : cutsU s (n + m) = cutsU s n := by
  induction m with
  | zero => rfl
  | succ m ih => rw [← Nat.add_assoc, cutsU_succ, ih, cutT_none (by omega), List.append_nil]
theorem allT_parts {s : Int} (h1 : 1 ≤ s) (h2 : s < 16) {n : Nat} (hn : s ≤ (n : Int) + 1) (hm : n ≤ 15) : allT 4 s = leafSet s ++ cutsU s n := by
  have e : cutsU s n = cutsU s 15 := by
    have := cutsU_end hn (15 - n)
    rw [show n + (15 - n) = 15 by omega] at this
    exact this.symm
  rw [e, allT, if_pos ⟨h1, h2⟩, cutsU]
  congr 1
  exact congrArg (fun f => List.flatMap f (List.range 15)) (funext fun k => cutT_congr (fun x => all_small) (by omega) (by omega))
theorem flatT_len {α β : Type} {f : α → List β} {m : Nat} (h : ∀ x, (f x).length ≤ m) : ∀ l : List α, (l.flatMap f).length ≤ l.length * m
  | [] => by simp
  | x :: l => by
    rw [List.flatMap_cons, List.length_append, List.length_cons, Nat.succ_mul]
    have := flatT_len h l
    have := h x
    omega
theorem cutT_len (s a : Int) : (cutT (allT 4) s a).length ≤ 14400 := by
  unfold cutT
  split
  · have h := flatT_len (f := fun x => (allT 4 (s - a)).map fun y => Tr.join x y) (m := 120) (fun x => by rw [List.length_map]; exact all_len _) (allT 4 a)
    have := all_len a
    omega
  · simp
theorem cutsU_len (s : Int) (n : Nat) : (cutsU s n).length ≤ n * 14400 := by
  have h := flatT_len (f := fun (k : Nat) => cutT (allT 4) s ((k : Int) + 1)) (m := 14400) (fun x => cutT_len _ _) (List.range n)
  rw [List.length_range] at h
  exact h
def leafU (s : Int) (n : Nat) : List Tr := ((List.range n).filter fun (o : Nat) => decide (s = 2 ^ o)).map fun (o : Nat) => Tr.leaf (o : Int)
theorem leafU_zero (s : Int) : leafU s 0 = [] := rfl
theorem leafU_four (s : Int) : leafU s 4 = leafSet s := rfl
theorem leafU_succ (s : Int) (n : Nat) : leafU s (n + 1) = leafU s n ++ (if s = 2 ^ n then [.leaf (n : Int)] else []) := by
  rw [leafU, leafU, List.range_succ, List.filter_append, List.map_append]
  congr 1
  by_cases h : s = 2 ^ n
  · rw [if_pos h, List.filter_cons, if_pos (decide_eq_true h)]; rfl
  · rw [if_neg h, List.filter_cons, if_neg (by simpa using h)]; rfl
theorem leafU_len (s : Int) (n : Nat) : (leafU s n).length ≤ n := by
  rw [leafU, List.length_map]
  have := List.length_filter_le (fun (o : Nat) => decide (s = (2 : Int) ^ o)) (List.range n)
  rw [List.length_range] at this
  exact this
def xsU (X Y : List Tr) (i : Nat) : List Tr := (X.take i).flatMap fun x => Y.map fun y => Tr.join x y
theorem xsU_zero (X Y : List Tr) : xsU X Y 0 = [] := rfl
theorem xsU_succ (X Y : List Tr) {i : Nat} (h : i < X.length) : xsU X Y (i + 1) = xsU X Y i ++ Y.map fun y => Tr.join X[i] y := by
  rw [xsU, xsU, List.take_succ_eq_append_getElem h, List.flatMap_append, List.flatMap_cons, List.flatMap_nil, List.append_nil]
theorem xsU_all (X Y : List Tr) : xsU X Y X.length = X.flatMap fun x => Y.map fun y => Tr.join x y := by rw [xsU, List.take_length]
theorem xsU_len (X Y : List Tr) (hX : X.length ≤ 120) (hY : Y.length ≤ 120) (i : Nat) : (xsU X Y i).length ≤ 14400 := by
  have h := flatT_len (f := fun x => Y.map fun y => Tr.join x y) (m := 120) (fun x => by rw [List.length_map]; exact hY) (X.take i)
  have : (X.take i).length ≤ 120 := by rw [List.length_take]; omega
  unfold xsU
  omega
def ysU (x : Tr) (Y : List Tr) (j : Nat) : List Tr := (Y.take j).map fun y => Tr.join x y
theorem ysU_zero (x : Tr) (Y : List Tr) : ysU x Y 0 = [] := rfl
theorem ysU_succ (x : Tr) (Y : List Tr) {j : Nat} (h : j < Y.length) : ysU x Y (j + 1) = ysU x Y j ++ [.join x Y[j]] := by
  rw [ysU, ysU, List.take_succ_eq_append_getElem h, List.map_append]; rfl
theorem ysU_all (x : Tr) (Y : List Tr) : ysU x Y Y.length = Y.map fun y => Tr.join x y := by rw [ysU, List.take_length]
theorem ysU_len (x : Tr) (Y : List Tr) (j : Nat) : (ysU x Y j).length ≤ Y.length := by rw [ysU, List.length_map, List.length_take]; omega
def rowJ (R S : List Tr) : List Tr := R ++ S
theorem rowJ_nil (R : List Tr) : rowJ R [] = R := List.append_nil R
theorem rowJ_len (R S : List Tr) : (rowJ R S).length = R.length + S.length := List.length_append
theorem rowJ_app (R S T : List Tr) : rowJ R (S ++ T) = rowJ (rowJ R S) T := (List.append_assoc R S T).symm
theorem rowJ_one (R : List Tr) (t : Tr) : (rowJ R [t]).length = R.length + 1 := List.length_append
end
section
attribute [local push_cast] encT_mk encT_take encT_len encT_one encTs_pure encT_pure
theorem AllT_out {s : Int} (h : ¬ (1 ≤ s ∧ s < 16)) : Quiet Go.Proofs.Tryz.prog 23 [.int s] (.sl ((allT 4 s).map encT)) := by
  rw [all_out h]
  refine quiet_of (rs := #[.tmp 2]) Go.Proofs.Tryz.func23 rfl rfl rfl mixed rfl rfl fun H hs => ?_
  by_cases h1 : s < 1
  · have h1' : (s < 1) = True := by simp [h1]
    simp -implicitDefEqProofs only [push_cast, Nat.reduceAdd, Nat.reduceSub, Nat.reduceMul, Nat.reduceLT, Nat.reduceLeDiff, Nat.reduceEqDiff, Nat.reduceBEq, reduceCtorEq, reduceIte, Int.reduceLE, Int.reduceLT, Int.reduceNeg, Int.reduceToNat, h1', List.map_nil]
  · have h1' : (s < 1) = False := by simp [h1]
    have h2' : (16 ≤ s) = True := by simp; omega
    simp -implicitDefEqProofs only [push_cast, Nat.reduceAdd, Nat.reduceSub, Nat.reduceMul, Nat.reduceLT, Nat.reduceLeDiff, Nat.reduceEqDiff, Nat.reduceBEq, reduceCtorEq, reduceIte, Int.reduceLE, Int.reduceLT, Int.reduceNeg, Int.reduceToNat, h1', h2', List.map_nil]
set_option maxHeartbeats 8000000 in
theorem AllT_in (s : Int) (h1 : 1 ≤ s) (h2 : s < 16) (ih : ∀ a : Int, a < s → Quiet Go.Proofs.Tryz.prog 23 [.int a] (.sl ((allT 4 a).map encT))) : Quiet Go.Proofs.Tryz.prog 23 [.int s] (.sl ((allT 4 s).map encT)) := by
  have h1' : (s < 1) = False := by simp; omega
  have h2' : (16 ≤ s) = False := by simp; omega
  refine quiet_of (rs := #[.tmp 2]) Go.Proofs.Tryz.func23 rfl rfl rfl mixed rfl rfl fun H hs => ?_
  simp -implicitDefEqProofs only [push_cast, Nat.reduceAdd, Nat.reduceSub, Nat.reduceMul, Nat.reduceLT, Nat.reduceLeDiff, Nat.reduceEqDiff, Nat.reduceBEq, reduceCtorEq, reduceIte, Int.reduceLE, Int.reduceLT, Int.reduceNeg, Int.reduceToNat, h1', h2']
  refine loop_at hs (σ := Nat) (fun o => o ≤ 4) (fun o => 4 - o)
    (fun o => [(16, .int o), (0, .int s), (3, .rsl (H.nxt + 0) 2 0 (leafU s o).length)]) (fun o => [some (.cells 2 ((leafU s o).map encT) 0)]) [none] 0 (by omega) rfl ?_ ?_ ?_
  · (try simp -implicitDefEqProofs only [push_cast, Nat.reduceAdd, Nat.reduceSub, Nat.reduceMul, Nat.reduceLT, Nat.reduceLeDiff, Nat.reduceEqDiff, Nat.reduceBEq, reduceCtorEq, reduceIte, Int.reduceLE, Int.reduceLT, Int.reduceNeg, Int.reduceToNat, leafU_zero, List.map_nil])
  · (try simp -implicitDefEqProofs only [push_cast, Nat.reduceAdd, Nat.reduceSub, Nat.reduceMul, Nat.reduceLT, Nat.reduceLeDiff, Nat.reduceEqDiff, Nat.reduceBEq, reduceCtorEq, reduceIte, Int.reduceLE, Int.reduceLT, Int.reduceNeg, Int.reduceToNat, leafU_zero, List.map_nil])
  · intro o ho
    have hlen := leafU_len s o
    have hsn := leafU_succ s o
    by_cases hol : o < 4
    · have ho' : ((o : Int) < 4) = True := by simp; omega
      have ho0 : (0 ≤ (o : Int)) = True := by simp
      have hp := shl_pow o (by omega)
      generalize leafU s o = row at hlen hsn ⊢
      have hL := Leaf_ok (o : Int)
      generalize Tr.leaf (o : Int) = lf at hsn hL
      simp -implicitDefEqProofs only [push_cast, Nat.reduceAdd, Nat.reduceSub, Nat.reduceMul, Nat.reduceLT, Nat.reduceLeDiff, Nat.reduceEqDiff, Nat.reduceBEq, reduceCtorEq, reduceIte, Int.reduceLE, Int.reduceLT, Int.reduceNeg, Int.reduceToNat, ho', ho0, hp]
      refine ⟨fun h => ?_, fun h => ?_⟩
      · refine callq hL ?_
        simp -implicitDefEqProofs only [push_cast, Nat.reduceAdd, Nat.reduceSub, Nat.reduceMul, Nat.reduceLT, Nat.reduceLeDiff, Nat.reduceEqDiff, Nat.reduceBEq, reduceCtorEq, reduceIte, Int.reduceLE, Int.reduceLT, Int.reduceNeg, Int.reduceToNat]
        rw [if_pos h] at hsn
        have hln : (leafU s (o + 1)).length = row.length + 1 := by rw [hsn, List.length_append]; rfl
        have hrw : (leafU s (o + 1)).map encT = row.map encT ++ [encT lf] := by rw [hsn, List.map_append]; rfl
        have hcap : List.take row.length (row.map encT) = row.map encT := List.take_of_length_le (by simp)
        rw [wrap64 (n := (o : Int) + 1) (by omega) (by omega)]
        refine ⟨by omega, next_at [some 2] (o + 1) (by omega) (by omega) rfl ?_ ?_⟩
        · (try simp -implicitDefEqProofs only [push_cast, Nat.reduceAdd, Nat.reduceSub, Nat.reduceMul, Nat.reduceLT, Nat.reduceLeDiff, Nat.reduceEqDiff, Nat.reduceBEq, reduceCtorEq, reduceIte, Int.reduceLE, Int.reduceLT, Int.reduceNeg, Int.reduceToNat, hln])
        · (try simp -implicitDefEqProofs only [push_cast, Nat.reduceAdd, Nat.reduceSub, Nat.reduceMul, Nat.reduceLT, Nat.reduceLeDiff, Nat.reduceEqDiff, Nat.reduceBEq, reduceCtorEq, reduceIte, Int.reduceLE, Int.reduceLT, Int.reduceNeg, Int.reduceToNat, hcap])
          rw [hrw]
          exact ⟨sealLL_snoc (sealLL_pure _ _ _ (encTs_pure row)) (sealL_pure _ _ _ (encT_pure lf)), fun e he => by rw [← hrw] at he; exact of_eq_true (encTs_two _) e he⟩
      · rw [if_neg h, List.append_nil] at hsn
        rw [wrap64 (n := (o : Int) + 1) (by omega) (by omega)]
        refine next_at [some 0] (o + 1) (by omega) (by omega) rfl ?_ ?_
        · (try simp -implicitDefEqProofs only [push_cast, Nat.reduceAdd, Nat.reduceSub, Nat.reduceMul, Nat.reduceLT, Nat.reduceLeDiff, Nat.reduceEqDiff, Nat.reduceBEq, reduceCtorEq, reduceIte, Int.reduceLE, Int.reduceLT, Int.reduceNeg, Int.reduceToNat, hsn])
        · (try simp -implicitDefEqProofs only [push_cast, Nat.reduceAdd, Nat.reduceSub, Nat.reduceMul, Nat.reduceLT, Nat.reduceLeDiff, Nat.reduceEqDiff, Nat.reduceBEq, reduceCtorEq, reduceIte, Int.reduceLE, Int.reduceLT, Int.reduceNeg, Int.reduceToNat, hsn])
          exact of_eq_true (encTs_two _)
    · have ho' : ((o : Int) < 4) = False := by simp; omega
      have e4 : leafU s o = leafSet s := by rw [show o = 4 by omega, leafU_four]
      rw [e4]
      have hl4 : (leafSet s).length ≤ 4 := leafU_len s 4
      simp -implicitDefEqProofs only [push_cast, Nat.reduceAdd, Nat.reduceSub, Nat.reduceMul, Nat.reduceLT, Nat.reduceLeDiff, Nat.reduceEqDiff, Nat.reduceBEq, reduceCtorEq, reduceIte, Int.reduceLE, Int.reduceLT, Int.reduceNeg, Int.reduceToNat, ho']
      refine loop_at hs (σ := Nat) (fun n => (n : Int) < s) (fun n => 16 - n)
        (fun n => [(5, .int ((n : Int) + 1)), (0, .int s), (3, .rsl (H.nxt + 0) 2 0 (rowJ (leafSet s) (cutsU s n)).length)]) (fun n => [some (.cells 2 ((rowJ (leafSet s) (cutsU s n)).map encT) 0)]) [some 0] 0 (by omega) rfl ?_ ?_ ?_
      · (try simp -implicitDefEqProofs only [push_cast, Nat.reduceAdd, Nat.reduceSub, Nat.reduceMul, Nat.reduceLT, Nat.reduceLeDiff, Nat.reduceEqDiff, Nat.reduceBEq, reduceCtorEq, reduceIte, Int.reduceLE, Int.reduceLT, Int.reduceNeg, Int.reduceToNat, cutsU_zero, rowJ_nil, Int.zero_add])
      · (try simp -implicitDefEqProofs only [push_cast, Nat.reduceAdd, Nat.reduceSub, Nat.reduceMul, Nat.reduceLT, Nat.reduceLeDiff, Nat.reduceEqDiff, Nat.reduceBEq, reduceCtorEq, reduceIte, Int.reduceLE, Int.reduceLT, Int.reduceNeg, Int.reduceToNat, cutsU_zero, rowJ_nil])
        exact of_eq_true (encTs_two _)
      intro n hn
      have hcl := cutsU_len s n
      have hsu := cutsU_succ s n
      have hal : (rowJ (leafSet s) (cutsU s n)).length ≤ 4 + n * 14400 := by rw [rowJ_len]; omega
      by_cases hna : (n : Int) + 1 < s
      · have hna' : ((n : Int) + 1 < s) = True := by simp [hna]
        have hrow1 : rowJ (leafSet s) (cutsU s (n + 1)) = rowJ (rowJ (leafSet s) (cutsU s n)) (cutT (allT 4) s ((n : Int) + 1)) := by rw [hsu, rowJ_app]
        generalize hR : rowJ (leafSet s) (cutsU s n) = row at hal hrow1 ⊢
        have hX := ih ((n : Int) + 1) hna
        have hY := ih (s - ((n : Int) + 1)) (by omega)
        have hXl := all_len ((n : Int) + 1)
        have hYl := all_len (s - ((n : Int) + 1))
        by_cases hb : band .i64 ((n : Int) + 1) s = (n : Int) + 1
        · have hb' : (band .i64 ((n : Int) + 1) s = (n : Int) + 1) = True := by simp [hb]
          rw [cutT, if_pos (by rw [decide_eq_true hna, decide_eq_true hb]; rfl)] at hrow1
          generalize allT 4 ((n : Int) + 1) = X at hX hXl hrow1
          generalize allT 4 (s - ((n : Int) + 1)) = Y at hY hYl hrow1
          rw [← xsU_all] at hrow1
          simp -implicitDefEqProofs only [push_cast, Nat.reduceAdd, Nat.reduceSub, Nat.reduceMul, Nat.reduceLT, Nat.reduceLeDiff, Nat.reduceEqDiff, Nat.reduceBEq, reduceCtorEq, reduceIte, Int.reduceLE, Int.reduceLT, Int.reduceNeg, Int.reduceToNat, hna', hb']
          refine callq hX ?_
          simp -implicitDefEqProofs only [push_cast, Nat.reduceAdd, Nat.reduceSub, Nat.reduceMul, Nat.reduceLT, Nat.reduceLeDiff, Nat.reduceEqDiff, Nat.reduceBEq, reduceCtorEq, reduceIte, Int.reduceLE, Int.reduceLT, Int.reduceNeg, Int.reduceToNat]
          refine loop_at hs (σ := Nat) (fun i => i ≤ X.length) (fun i => X.length - i)
            (fun i => [(42, .int i), (41, .int X.length), (40, .sl (X.map encT)), (5, .int ((n : Int) + 1)), (0, .int s), (3, .rsl (H.nxt + 0) 2 0 (rowJ row (xsU X Y i)).length)]) (fun i => [some (.cells 2 ((rowJ row (xsU X Y i)).map encT) 0)]) [some 0] 0 (by omega) rfl ?_ ?_ ?_
          · (try simp -implicitDefEqProofs only [push_cast, Nat.reduceAdd, Nat.reduceSub, Nat.reduceMul, Nat.reduceLT, Nat.reduceLeDiff, Nat.reduceEqDiff, Nat.reduceBEq, reduceCtorEq, reduceIte, Int.reduceLE, Int.reduceLT, Int.reduceNeg, Int.reduceToNat, xsU_zero, rowJ_nil, encTs_pure])
          · (try simp -implicitDefEqProofs only [push_cast, Nat.reduceAdd, Nat.reduceSub, Nat.reduceMul, Nat.reduceLT, Nat.reduceLeDiff, Nat.reduceEqDiff, Nat.reduceBEq, reduceCtorEq, reduceIte, Int.reduceLE, Int.reduceLT, Int.reduceNeg, Int.reduceToNat, xsU_zero, rowJ_nil, encTs_pure])
            exact of_eq_true (encTs_two _)
          intro i hi2
          have hxl := xsU_len X Y hXl hYl i
          have hxr : (rowJ row (xsU X Y i)).length ≤ 4 + n * 14400 + 14400 := by rw [rowJ_len]; omega
          by_cases hi : i < X.length
          · have hi' : ((i : Int) < (X.length : Int)) = True := by simp; omega
            have hi0 : (0 ≤ (i : Int)) = True := by simp
            have hxs : rowJ row (xsU X Y (i + 1)) = rowJ (rowJ row (xsU X Y i)) (ysU X[i] Y Y.length) := by rw [xsU_succ X Y hi, rowJ_app, ysU_all]
            generalize hR2 : rowJ row (xsU X Y i) = row2 at hxr hxs ⊢
            have hget := encTs_get X i hi
            generalize X[i] = x at hget hxs
            simp -implicitDefEqProofs only [push_cast, Nat.reduceAdd, Nat.reduceSub, Nat.reduceMul, Nat.reduceLT, Nat.reduceLeDiff, Nat.reduceEqDiff, Nat.reduceBEq, reduceCtorEq, reduceIte, Int.reduceLE, Int.reduceLT, Int.reduceNeg, Int.reduceToNat, hi', hi0, hget]
            rw [wrap64 (n := s - ((n : Int) + 1)) (by omega) (by omega)]
            refine callq hY ?_
            simp -implicitDefEqProofs only [push_cast, Nat.reduceAdd, Nat.reduceSub, Nat.reduceMul, Nat.reduceLT, Nat.reduceLeDiff, Nat.reduceEqDiff, Nat.reduceBEq, reduceCtorEq, reduceIte, Int.reduceLE, Int.reduceLT, Int.reduceNeg, Int.reduceToNat]
            refine loop_at hs (σ := Nat) (fun j => j ≤ Y.length) (fun j => Y.length - j)
              (fun j => [(51, .int j), (50, .int Y.length), (49, .sl (Y.map encT)), (7, .ptr (H.nxt + 1) 2 0 0), (42, .int i), (41, .int X.length), (40, .sl (X.map encT)), (5, .int ((n : Int) + 1)), (0, .int s), (3, .rsl (H.nxt + 0) 2 0 (rowJ row2 (ysU x Y j)).length)]) (fun j => [some (.cells 2 ((rowJ row2 (ysU x Y j)).map encT) 0), some (.cells 2 [encT x] 0)]) [some 0, some 1] 0 (by omega) rfl ?_ ?_ ?_
            · (try simp -implicitDefEqProofs only [push_cast, Nat.reduceAdd, Nat.reduceSub, Nat.reduceMul, Nat.reduceLT, Nat.reduceLeDiff, Nat.reduceEqDiff, Nat.reduceBEq, reduceCtorEq, reduceIte, Int.reduceLE, Int.reduceLT, Int.reduceNeg, Int.reduceToNat, ysU_zero, rowJ_nil, encTs_pure])
            · (try simp -implicitDefEqProofs only [push_cast, Nat.reduceAdd, Nat.reduceSub, Nat.reduceMul, Nat.reduceLT, Nat.reduceLeDiff, Nat.reduceEqDiff, Nat.reduceBEq, reduceCtorEq, reduceIte, Int.reduceLE, Int.reduceLT, Int.reduceNeg, Int.reduceToNat, ysU_zero, rowJ_nil, encTs_pure])
              exact of_eq_true (encTs_two _)
            intro j hj2
            have hyl := ysU_len x Y j
            have hyr : (rowJ row2 (ysU x Y j)).length ≤ 4 + n * 14400 + 14400 + 120 := by rw [rowJ_len]; omega
            by_cases hj : j < Y.length
            · have hj' : ((j : Int) < (Y.length : Int)) = True := by simp; omega
              have hj0 : (0 ≤ (j : Int)) = True := by simp
              have hys : rowJ row2 (ysU x Y (j + 1)) = rowJ (rowJ row2 (ysU x Y j)) [.join x Y[j]] := by rw [ysU_succ x Y hj, rowJ_app]
              generalize hR3 : rowJ row2 (ysU x Y j) = row3 at hyr hys ⊢
              have hget2 := encTs_get Y j hj
              have hJ := Join_ok x Y[j]
              generalize Y[j] = y at hget2 hys hJ
              generalize Tr.join x y = xy at hys hJ
              simp -implicitDefEqProofs only [push_cast, Nat.reduceAdd, Nat.reduceSub, Nat.reduceMul, Nat.reduceLT, Nat.reduceLeDiff, Nat.reduceEqDiff, Nat.reduceBEq, reduceCtorEq, reduceIte, Int.reduceLE, Int.reduceLT, Int.reduceNeg, Int.reduceToNat, hj', hj0, hget2]
              refine callq hJ ?_
              simp -implicitDefEqProofs only [push_cast, Nat.reduceAdd, Nat.reduceSub, Nat.reduceMul, Nat.reduceLT, Nat.reduceLeDiff, Nat.reduceEqDiff, Nat.reduceBEq, reduceCtorEq, reduceIte, Int.reduceLE, Int.reduceLT, Int.reduceNeg, Int.reduceToNat]
              have hln : (rowJ row2 (ysU x Y (j + 1))).length = row3.length + 1 := by rw [hys, rowJ_one]
              have hrw : (rowJ row2 (ysU x Y (j + 1))).map encT = row3.map encT ++ [encT xy] := by rw [hys, rowJ, List.map_append]; rfl
              have hcap : List.take row3.length (row3.map encT) = row3.map encT := List.take_of_length_le (by simp)
              rw [wrap64 (n := (j : Int) + 1) (by omega) (by omega)]
              refine ⟨by omega, next_at [some 4, some 1] (j + 1) (by omega) (by omega) rfl ?_ ?_⟩
              · (try simp -implicitDefEqProofs only [push_cast, Nat.reduceAdd, Nat.reduceSub, Nat.reduceMul, Nat.reduceLT, Nat.reduceLeDiff, Nat.reduceEqDiff, Nat.reduceBEq, reduceCtorEq, reduceIte, Int.reduceLE, Int.reduceLT, Int.reduceNeg, Int.reduceToNat, hln, encTs_pure])
              · (try simp -implicitDefEqProofs only [push_cast, Nat.reduceAdd, Nat.reduceSub, Nat.reduceMul, Nat.reduceLT, Nat.reduceLeDiff, Nat.reduceEqDiff, Nat.reduceBEq, reduceCtorEq, reduceIte, Int.reduceLE, Int.reduceLT, Int.reduceNeg, Int.reduceToNat, hcap])
                rw [hrw]
                exact ⟨sealLL_snoc (sealLL_pure _ _ _ (encTs_pure row3)) (sealL_pure _ _ _ (encT_pure xy)), fun e he => by rw [← hrw] at he; exact of_eq_true (encTs_two _) e he⟩
            · have hj' : ((j : Int) < (Y.length : Int)) = False := by simp; omega
              obtain rfl : j = Y.length := by omega
              rw [← hxs]
              simp -implicitDefEqProofs only [push_cast, Nat.reduceAdd, Nat.reduceSub, Nat.reduceMul, Nat.reduceLT, Nat.reduceLeDiff, Nat.reduceEqDiff, Nat.reduceBEq, reduceCtorEq, reduceIte, Int.reduceLE, Int.reduceLT, Int.reduceNeg, Int.reduceToNat, hj']
              rw [wrap64 (n := (i : Int) + 1) (by omega) (by omega)]
              refine next_at [some 0] (i + 1) (by omega) (by omega) rfl ?_ ?_
              · (try simp -implicitDefEqProofs only [push_cast, Nat.reduceAdd, Nat.reduceSub, Nat.reduceMul, Nat.reduceLT, Nat.reduceLeDiff, Nat.reduceEqDiff, Nat.reduceBEq, reduceCtorEq, reduceIte, Int.reduceLE, Int.reduceLT, Int.reduceNeg, Int.reduceToNat, encTs_pure])
              · (try simp -implicitDefEqProofs only [push_cast, Nat.reduceAdd, Nat.reduceSub, Nat.reduceMul, Nat.reduceLT, Nat.reduceLeDiff, Nat.reduceEqDiff, Nat.reduceBEq, reduceCtorEq, reduceIte, Int.reduceLE, Int.reduceLT, Int.reduceNeg, Int.reduceToNat, encTs_pure])
                exact of_eq_true (encTs_two _)
          · have hi' : ((i : Int) < (X.length : Int)) = False := by simp; omega
            obtain rfl : i = X.length := by omega
            rw [← hrow1]
            simp -implicitDefEqProofs only [push_cast, Nat.reduceAdd, Nat.reduceSub, Nat.reduceMul, Nat.reduceLT, Nat.reduceLeDiff, Nat.reduceEqDiff, Nat.reduceBEq, reduceCtorEq, reduceIte, Int.reduceLE, Int.reduceLT, Int.reduceNeg, Int.reduceToNat, hi']
            rw [wrap64 (n := (n : Int) + 1 + 1) (by omega) (by omega)]
            refine next_at [some 0] (n + 1) (by omega) (by omega) rfl ?_ ?_
            · (try simp -implicitDefEqProofs only [push_cast, Nat.reduceAdd, Nat.reduceSub, Nat.reduceMul, Nat.reduceLT, Nat.reduceLeDiff, Nat.reduceEqDiff, Nat.reduceBEq, reduceCtorEq, reduceIte, Int.reduceLE, Int.reduceLT, Int.reduceNeg, Int.reduceToNat, encTs_pure])
            · (try simp -implicitDefEqProofs only [push_cast, Nat.reduceAdd, Nat.reduceSub, Nat.reduceMul, Nat.reduceLT, Nat.reduceLeDiff, Nat.reduceEqDiff, Nat.reduceBEq, reduceCtorEq, reduceIte, Int.reduceLE, Int.reduceLT, Int.reduceNeg, Int.reduceToNat, encTs_pure])
              exact of_eq_true (encTs_two _)
        · have hb' : (band .i64 ((n : Int) + 1) s = (n : Int) + 1) = False := by simp [hb]
          rw [cutT, if_neg (by rw [decide_eq_false hb, Bool.and_false]; exact Bool.false_ne_true), rowJ_nil] at hrow1
          simp -implicitDefEqProofs only [push_cast, Nat.reduceAdd, Nat.reduceSub, Nat.reduceMul, Nat.reduceLT, Nat.reduceLeDiff, Nat.reduceEqDiff, Nat.reduceBEq, reduceCtorEq, reduceIte, Int.reduceLE, Int.reduceLT, Int.reduceNeg, Int.reduceToNat, hna', hb']
          rw [wrap64 (n := (n : Int) + 1 + 1) (by omega) (by omega)]
          refine next_at [some 0] (n + 1) (by omega) (by omega) rfl ?_ ?_
          · (try simp -implicitDefEqProofs only [push_cast, Nat.reduceAdd, Nat.reduceSub, Nat.reduceMul, Nat.reduceLT, Nat.reduceLeDiff, Nat.reduceEqDiff, Nat.reduceBEq, reduceCtorEq, reduceIte, Int.reduceLE, Int.reduceLT, Int.reduceNeg, Int.reduceToNat, hrow1])
          · (try simp -implicitDefEqProofs only [push_cast, Nat.reduceAdd, Nat.reduceSub, Nat.reduceMul, Nat.reduceLT, Nat.reduceLeDiff, Nat.reduceEqDiff, Nat.reduceBEq, reduceCtorEq, reduceIte, Int.reduceLE, Int.reduceLT, Int.reduceNeg, Int.reduceToNat, hrow1])
            exact of_eq_true (encTs_two _)
      · have hna' : ((n : Int) + 1 < s) = False := by simp; omega
        have hp := allT_parts h1 h2 (n := n) (by omega) (by omega)
        have hp' : rowJ (leafSet s) (cutsU s n) = allT 4 s := hp.symm
        rw [hp']
        have hcap : List.take (allT 4 s).length ((allT 4 s).map encT) = (allT 4 s).map encT := List.take_of_length_le (by simp)
        simp -implicitDefEqProofs only [push_cast, Nat.reduceAdd, Nat.reduceSub, Nat.reduceMul, Nat.reduceLT, Nat.reduceLeDiff, Nat.reduceEqDiff, Nat.reduceBEq, reduceCtorEq, reduceIte, Int.reduceLE, Int.reduceLT, Int.reduceNeg, Int.reduceToNat, hna']
        rw [hcap]
        exact sealLL_pure _ _ _ (encTs_pure _)
theorem AllT_n : ∀ (n : Nat) (s : Int), s < (n : Int) → Quiet Go.Proofs.Tryz.prog 23 [.int s] (.sl ((allT 4 s).map encT)) := by
  intro n
  induction n with
  | zero => intro s hs; exact AllT_out (by omega)
  | succ n ih =>
    intro s hs
    by_cases h : 1 ≤ s ∧ s < 16
    · exact AllT_in s h.1 h.2 fun a ha => ih a (by omega)
    · exact AllT_out h
theorem AllT_ok (s : Int) : Quiet Go.Proofs.Tryz.prog 23 [.int s] (.sl ((allT 4 s).map encT)) := AllT_n (s.toNat + 1) s (by omega)
end
section
attribute [local push_cast] encPl_mk encPl_take encPl_len encPl_one encPls_pure encPl_pure encT_pure encT_len encT_one encT_take
def encWh (w : Wh) : List AV := encW w.1 w.2.1 w.2.2
theorem encWh_mk (op occ a b : Int) (l : List Pl) (e : Int) (s : Bool) : encWh (.mk op occ a b l, e, s) = [.int op, .int occ, .int a, .int b, .sl (l.map encPl), .int e, .bool s] := by rw [encWh, encW_mk]
def soRow (acc : List Cw) : List Cw := if acc = [] then [] else [leastW acc]
theorem soRow_nil : soRow [] = [] := rfl
theorem soRow_some {acc : List Cw} (h : acc ≠ []) : soRow acc = [leastW acc] := if_neg h
def accO (c : List Df) (q : Qy) (T : List Tr) (i : Nat) : List Cw := (T.take i).flatMap fun t => (endsQ q).map (optOne c q t)
theorem accO_zero (c : List Df) (q : Qy) (T : List Tr) : accO c q T 0 = [] := rfl
theorem accO_succ (c : List Df) (q : Qy) (T : List Tr) {i : Nat} (h : i < T.length) : accO c q T (i + 1) = accO c q T i ++ (endsQ q).map (optOne c q T[i]) := by
  rw [accO, accO, List.take_succ_eq_append_getElem h, List.flatMap_append, List.flatMap_cons, List.flatMap_nil, List.append_nil]
def accE (c : List Df) (q : Qy) (A : List Cw) (t : Tr) (k : Nat) : List Cw := A ++ ((endsQ q).take k).map (optOne c q t)
theorem accE_zero (c : List Df) (q : Qy) (A : List Cw) (t : Tr) : accE c q A t 0 = A := List.append_nil A
theorem accE_succ (c : List Df) (q : Qy) (A : List Cw) (t : Tr) {k : Nat} (h : k < (endsQ q).length) : accE c q A t (k + 1) = accE c q A t k ++ [optOne c q t (endsQ q)[k]] := by
  rw [accE, accE, List.take_succ_eq_append_getElem h, List.map_append, List.append_assoc]; rfl
theorem accE_all (c : List Df) (q : Qy) (A : List Cw) (t : Tr) : accE c q A t (endsQ q).length = A ++ (endsQ q).map (optOne c q t) := by rw [accE, List.take_length]
theorem soRow_snoc (acc : List Cw) (y : Cw) : (acc = [] ∧ soRow acc = [] ∧ soRow (acc ++ [y]) = [y]) ∨ (∃ x, soRow acc = [x] ∧ (y.1 < x.1 → soRow (acc ++ [y]) = [y]) ∧ (¬ y.1 < x.1 → soRow (acc ++ [y]) = [x])) := by
  by_cases h : acc = []
  · left; subst h; exact ⟨rfl, rfl, rfl⟩
  · right
    refine ⟨leastW acc, soRow_some h, fun hl => ?_, fun hl => ?_⟩
    · rw [soRow_some (by simp), leastW_push h, if_pos hl]
    · rw [soRow_some (by simp), leastW_push h, if_neg hl]
theorem encEnds_get (l : List (Int × Bool)) (i : Nat) (h : i < l.length) : (l.map encEnd).getD i [] = encEnd l[i] := getD_map encEnd l [] i h
theorem encEnd_pure (x : Int × Bool) : PureL (encEnd x) := by
  obtain ⟨e, s⟩ := x
  rw [encEnd_mk]
  simp only [PureL, Pure, true_and, and_true, PureLL]
theorem encEnds_pure (l : List (Int × Bool)) : PureLL (l.map encEnd) := by
  rw [pureLL_iff]
  simp only [List.mem_map]
  rintro _ ⟨x, _, rfl⟩
  exact encEnd_pure x
theorem encCws_pure (l : List Cw) : PureLL (l.map encCw) := by
  rw [pureLL_iff]
  simp only [List.mem_map]
  rintro _ ⟨x, _, rfl⟩
  exact encCw_pure x
theorem encCws_all8 (l : List Cw) : ∀ e ∈ l.map encCw, e.length = 8 := by
  simp only [List.mem_map]
  rintro _ ⟨x, _, rfl⟩
  exact encCw_len x
theorem ends_len (q : Qy) : (endsQ q).length ≤ 2 := by unfold endsQ; split <;> simp
theorem allT_ok {d : Nat} {s : Int} {t : Tr} (h : t ∈ allT d s) : t.Ok := by
  induction d generalizing s t with
  | zero => cases h
  | succ d ih =>
    rw [allT] at h
    split at h
    · rcases List.mem_append.1 h with h | h
      · obtain ⟨o, _, _, rfl⟩ := leafSet_mem.1 h
        exact .mk (by simp) (by simp)
      · obtain ⟨k, _, hk⟩ := List.mem_flatMap.1 h
        obtain ⟨_, x, hx, y, hy, rfl⟩ := cutT_mem.1 hk
        refine .mk (by simp) fun z hz => ?_
        simp only [List.mem_cons, List.not_mem_nil, or_false] at hz
        rcases hz with rfl | rfl
        · exact ih hx
        · exact ih hy
    · cases h
set_option maxHeartbeats 16000000 in
theorem OptBest_no (c : List Df) (hcl : c.length ≤ 1000000) (q : Qy) (hq : q.Ok) (hm : q.may c = false) : Quiet Go.Proofs.Tryz.prog 12 [.agg [.sl (c.map encD)], .agg (encQ q)] (.tup [.int (optQ c q).1, .agg (encWh (optQ c q).2), .bool (q.may c)]) := by
  have hM := MayQ_ok c hcl q hq
  rw [optQ, hm, if_neg (by decide)]
  rw [hm] at hM
  refine quiet_of (rs := #[.tmp 4, .cell 5 34, .tmp 6]) Go.Proofs.Tryz.func12 rfl rfl rfl mixed rfl rfl fun H hs => ?_
  simp -implicitDefEqProofs only [push_cast, Nat.reduceAdd, Nat.reduceSub, Nat.reduceMul, Nat.reduceLT, Nat.reduceLeDiff, Nat.reduceEqDiff, Nat.reduceBEq, reduceCtorEq, reduceIte, Int.reduceLE, Int.reduceLT, Int.reduceNeg, Int.reduceToNat, encQ, Int.reduceEq, if_false, if_true, or_true, or_false, true_or, false_or, List.map_cons, List.map_nil, List.length_cons, List.length_nil, Int.reduceAdd, List.cons_append, List.nil_append, List.append_nil, List.set_cons_zero, List.set_cons_succ]
  refine callq hM ?_
  simp -implicitDefEqProofs only [push_cast, Nat.reduceAdd, Nat.reduceSub, Nat.reduceMul, Nat.reduceLT, Nat.reduceLeDiff, Nat.reduceEqDiff, Nat.reduceBEq, reduceCtorEq, reduceIte, Int.reduceLE, Int.reduceLT, Int.reduceNeg, Int.reduceToNat, encQ, Int.reduceEq, if_false, if_true, or_true, or_false, true_or, false_or, List.map_cons, List.map_nil, List.length_cons, List.length_nil, Int.reduceAdd, List.cons_append, List.nil_append, List.append_nil, List.set_cons_zero, List.set_cons_succ]
  (try simp -implicitDefEqProofs only [push_cast, Nat.reduceAdd, Nat.reduceSub, Nat.reduceMul, Nat.reduceLT, Nat.reduceLeDiff, Nat.reduceEqDiff, Nat.reduceBEq, reduceCtorEq, reduceIte, Int.reduceLE, Int.reduceLT, Int.reduceNeg, Int.reduceToNat, encQ, Int.reduceEq, if_false, if_true, or_true, or_false, true_or, false_or, List.map_cons, List.map_nil, List.length_cons, List.length_nil, Int.reduceAdd, List.cons_append, List.nil_append, List.append_nil, List.set_cons_zero, List.set_cons_succ, encWh_mk, plO])
set_option maxHeartbeats 16000000 in
theorem OptBest_yes (c : List Df) (hcl : c.length ≤ 1000000) (q : Qy) (hq : q.Ok) (hp8 : q.p.length ≤ 8) (hm : q.may c = true) : Quiet Go.Proofs.Tryz.prog 12 [.agg [.sl (c.map encD)], .agg (encQ q)] (.tup [.int (optQ c q).1, .agg (encWh (optQ c q).2), .bool (q.may c)]) := by
  have hM := MayQ_ok c hcl q hq
  have hne := optL_ne hm
  have hol : optL c q = accO c q (allT 4 (2 ^ q.occ.length - 1)) (allT 4 (2 ^ q.occ.length - 1)).length := by rw [accO, List.take_length]; rfl
  rw [optQ, hm, if_pos rfl]
  rw [hol] at hne ⊢
  rw [hm] at hM
  have h4 := (may_split hm).2.2.1
  have hF := fullOpt_ok q h4
  have hT := AllT_ok (2 ^ q.occ.length - 1)
  have hTl := all_len (2 ^ q.occ.length - 1)
  have hEn := Ends_ok q
  have hEl := ends_len q
  have hval : ∀ t ∈ allT 4 (2 ^ q.occ.length - 1), ∀ e ∈ endsQ q, validT c q t (needsQ q e.1) = true := fun t ht e he => opt_valid hm ht he
  have htok : ∀ t ∈ allT 4 (2 ^ q.occ.length - 1), t.Ok := fun t ht => allT_ok ht
  generalize (2 : Int) ^ q.occ.length - 1 = full at hF hT hTl hval htok hne ⊢
  generalize allT 4 full = T at hT hTl hval htok hne ⊢
  refine quiet_of (rs := #[.tmp 4, .cell 5 34, .tmp 6]) Go.Proofs.Tryz.func12 rfl rfl rfl mixed rfl rfl fun H hs => ?_
  simp -implicitDefEqProofs only [push_cast, Nat.reduceAdd, Nat.reduceSub, Nat.reduceMul, Nat.reduceLT, Nat.reduceLeDiff, Nat.reduceEqDiff, Nat.reduceBEq, reduceCtorEq, reduceIte, Int.reduceLE, Int.reduceLT, Int.reduceNeg, Int.reduceToNat, encQ, Int.reduceEq, if_false, if_true, or_true, or_false, true_or, false_or, List.map_cons, List.map_nil, List.length_cons, List.length_nil, Int.reduceAdd, List.cons_append, List.nil_append, List.append_nil, List.set_cons_zero, List.set_cons_succ]
  refine callq hM ?_
  simp -implicitDefEqProofs only [push_cast, Nat.reduceAdd, Nat.reduceSub, Nat.reduceMul, Nat.reduceLT, Nat.reduceLeDiff, Nat.reduceEqDiff, Nat.reduceBEq, reduceCtorEq, reduceIte, Int.reduceLE, Int.reduceLT, Int.reduceNeg, Int.reduceToNat, encQ, Int.reduceEq, if_false, if_true, or_true, or_false, true_or, false_or, List.map_cons, List.map_nil, List.length_cons, List.length_nil, Int.reduceAdd, List.cons_append, List.nil_append, List.append_nil, List.set_cons_zero, List.set_cons_succ]
  refine callq hF ?_
  simp -implicitDefEqProofs only [push_cast, Nat.reduceAdd, Nat.reduceSub, Nat.reduceMul, Nat.reduceLT, Nat.reduceLeDiff, Nat.reduceEqDiff, Nat.reduceBEq, reduceCtorEq, reduceIte, Int.reduceLE, Int.reduceLT, Int.reduceNeg, Int.reduceToNat, encQ, Int.reduceEq, if_false, if_true, or_true, or_false, true_or, false_or, List.map_cons, List.map_nil, List.length_cons, List.length_nil, Int.reduceAdd, List.cons_append, List.nil_append, List.append_nil, List.set_cons_zero, List.set_cons_succ]
  refine callq hT ?_
  simp -implicitDefEqProofs only [push_cast, Nat.reduceAdd, Nat.reduceSub, Nat.reduceMul, Nat.reduceLT, Nat.reduceLeDiff, Nat.reduceEqDiff, Nat.reduceBEq, reduceCtorEq, reduceIte, Int.reduceLE, Int.reduceLT, Int.reduceNeg, Int.reduceToNat, encQ, Int.reduceEq, if_false, if_true, or_true, or_false, true_or, false_or, List.map_cons, List.map_nil, List.length_cons, List.length_nil, Int.reduceAdd, List.cons_append, List.nil_append, List.append_nil, List.set_cons_zero, List.set_cons_succ]
  refine loop_at hs (σ := Nat) (fun i => i ≤ T.length) (fun i => T.length - i)
    (fun i => [(26, .int i), (25, .int T.length), (24, .sl (T.map encT)), (7, .ptr (H.nxt + 3) 8 0 0), (8, .clo (.func 42) [] []), (3, .ptr (H.nxt + 1) 6 0 0), (2, .ptr (H.nxt + 0) 1 0 0), (5, .ptr (H.nxt + 2) 7 0 0)])
    (fun i => [some (.cells 1 [[.sl (c.map encD)]] 0), some (.cells 6 [encQ q] 0), some (.cells 7 [encEnd (0, false)] 0), some (.cells 8 [finC c q (.rsl (H.nxt + 4) 8 0 (soRow (accO c q T i)).length)] 0), some (.cells 8 ((soRow (accO c q T i)).map encCw) 0)]) [some 0, some 1, some 2, some 3, none] 0 (by omega) rfl ?_ ?_ ?_
  · (try simp -implicitDefEqProofs only [push_cast, Nat.reduceAdd, Nat.reduceSub, Nat.reduceMul, Nat.reduceLT, Nat.reduceLeDiff, Nat.reduceEqDiff, Nat.reduceBEq, reduceCtorEq, reduceIte, Int.reduceLE, Int.reduceLT, Int.reduceNeg, Int.reduceToNat, encQ, Int.reduceEq, if_false, if_true, or_true, or_false, true_or, false_or, List.map_cons, List.map_nil, List.length_cons, List.length_nil, Int.reduceAdd, List.cons_append, List.nil_append, List.append_nil, List.set_cons_zero, List.set_cons_succ, accO_zero, soRow_nil, encEnd_mk, finC, encDs_pure, encEs_pure, encIs_pure, encTs_pure])
  · (try simp -implicitDefEqProofs only [push_cast, Nat.reduceAdd, Nat.reduceSub, Nat.reduceMul, Nat.reduceLT, Nat.reduceLeDiff, Nat.reduceEqDiff, Nat.reduceBEq, reduceCtorEq, reduceIte, Int.reduceLE, Int.reduceLT, Int.reduceNeg, Int.reduceToNat, encQ, Int.reduceEq, if_false, if_true, or_true, or_false, true_or, false_or, List.map_cons, List.map_nil, List.length_cons, List.length_nil, Int.reduceAdd, List.cons_append, List.nil_append, List.append_nil, List.set_cons_zero, List.set_cons_succ, accO_zero, soRow_nil, encEnd_mk, finC, encDs_pure, encEs_pure, encIs_pure, encTs_pure])
  intro i hi2
  by_cases hi : i < T.length
  · have hi' : ((i : Int) < (T.length : Int)) = True := by simp; omega
    have hi0 : (0 ≤ (i : Int)) = True := by simp
    have hacc := accO_succ c q T hi
    have hget := encTs_get T i hi
    have htk := htok _ (List.getElem_mem hi)
    have hvt := hval _ (List.getElem_mem hi)
    generalize T[i] = t at hacc hget htk hvt
    have hae := accE_all c q (accO c q T i) t
    rw [← hae] at hacc
    have hz := accE_zero c q (accO c q T i) t
    simp -implicitDefEqProofs only [push_cast, Nat.reduceAdd, Nat.reduceSub, Nat.reduceMul, Nat.reduceLT, Nat.reduceLeDiff, Nat.reduceEqDiff, Nat.reduceBEq, reduceCtorEq, reduceIte, Int.reduceLE, Int.reduceLT, Int.reduceNeg, Int.reduceToNat, encQ, Int.reduceEq, if_false, if_true, or_true, or_false, true_or, false_or, List.map_cons, List.map_nil, List.length_cons, List.length_nil, Int.reduceAdd, List.cons_append, List.nil_append, List.append_nil, List.set_cons_zero, List.set_cons_succ, hi', hi0, hget, finC, encEnd_mk]
    refine callq hEn ?_
    simp -implicitDefEqProofs only [push_cast, Nat.reduceAdd, Nat.reduceSub, Nat.reduceMul, Nat.reduceLT, Nat.reduceLeDiff, Nat.reduceEqDiff, Nat.reduceBEq, reduceCtorEq, reduceIte, Int.reduceLE, Int.reduceLT, Int.reduceNeg, Int.reduceToNat, encQ, Int.reduceEq, if_false, if_true, or_true, or_false, true_or, false_or, List.map_cons, List.map_nil, List.length_cons, List.length_nil, Int.reduceAdd, List.cons_append, List.nil_append, List.append_nil, List.set_cons_zero, List.set_cons_succ, hi', hi0, hget, finC, encEnd_mk]
    generalize hA0 : accO c q T i = A at hacc hae hz ⊢
    refine loop_at hs (σ := Nat) (fun k => k ≤ (endsQ q).length) (fun k => (endsQ q).length - k)
      (fun k => [(33, .int k), (32, .int (endsQ q).length), (31, .sl ((endsQ q).map encEnd)), (10, .ptr (H.nxt + 5) 2 0 0), (26, .int i), (25, .int T.length), (24, .sl (T.map encT)), (7, .ptr (H.nxt + 3) 8 0 0), (8, .clo (.func 42) [] []), (3, .ptr (H.nxt + 1) 6 0 0), (2, .ptr (H.nxt + 0) 1 0 0), (5, .ptr (H.nxt + 2) 7 0 0)])
      (fun k => [some (.cells 1 [[.sl (c.map encD)]] 0), some (.cells 6 [encQ q] 0), some (.cells 7 [encEnd (0, false)] 0), some (.cells 8 [finC c q (.rsl (H.nxt + 4) 8 0 (soRow (accE c q A t k)).length)] 0), some (.cells 8 ((soRow (accE c q A t k)).map encCw) 0), some (.cells 2 [encT t] 0)]) [some 0, some 1, some 2, some 3, some 4, some 5] 0 (by omega) rfl ?_ ?_ ?_
    · (try simp -implicitDefEqProofs only [push_cast, Nat.reduceAdd, Nat.reduceSub, Nat.reduceMul, Nat.reduceLT, Nat.reduceLeDiff, Nat.reduceEqDiff, Nat.reduceBEq, reduceCtorEq, reduceIte, Int.reduceLE, Int.reduceLT, Int.reduceNeg, Int.reduceToNat, encQ, Int.reduceEq, if_false, if_true, or_true, or_false, true_or, false_or, List.map_cons, List.map_nil, List.length_cons, List.length_nil, Int.reduceAdd, List.cons_append, List.nil_append, List.append_nil, List.set_cons_zero, List.set_cons_succ, hz, encEnd_mk, finC, encDs_pure, encEs_pure, encIs_pure, encTs_pure, encEnds_pure, encCw_pure, encCws_pure])
    · (try simp -implicitDefEqProofs only [push_cast, Nat.reduceAdd, Nat.reduceSub, Nat.reduceMul, Nat.reduceLT, Nat.reduceLeDiff, Nat.reduceEqDiff, Nat.reduceBEq, reduceCtorEq, reduceIte, Int.reduceLE, Int.reduceLT, Int.reduceNeg, Int.reduceToNat, encQ, Int.reduceEq, if_false, if_true, or_true, or_false, true_or, false_or, List.map_cons, List.map_nil, List.length_cons, List.length_nil, Int.reduceAdd, List.cons_append, List.nil_append, List.append_nil, List.set_cons_zero, List.set_cons_succ, hz, encEnd_mk, finC, encDs_pure, encEs_pure, encIs_pure, encTs_pure, encEnds_pure, encCw_pure, encCws_pure])
      exact encCws_all8 _
    intro k hk2
    by_cases hk : k < (endsQ q).length
    · have hk' : ((k : Int) < ((endsQ q).length : Int)) = True := by simp; omega
      have hk0 : (0 ≤ (k : Int)) = True := by simp
      have hsn := accE_succ c q A t hk
      have hget2 := encEnds_get (endsQ q) k hk
      have hvk := hvt _ (List.getElem_mem hk)
      generalize (endsQ q)[k] = ee at hsn hget2 hvk
      obtain ⟨e, s⟩ := ee
      dsimp only at hvk
      have hst := soRow_snoc (accE c q A t k) (optOne c q t (e, s))
      rw [← hsn] at hst
      have hy : optOne c q t (e, s) = optOne c q t (e, s) := rfl
      generalize hold : soRow (accE c q A t k) = old at hst ⊢
      rw [encEnd_mk] at hget2
      rcases hst with ⟨_, rfl, hnew⟩ | ⟨x, rfl, hnew⟩
      · simp -implicitDefEqProofs only [push_cast, Nat.reduceAdd, Nat.reduceSub, Nat.reduceMul, Nat.reduceLT, Nat.reduceLeDiff, Nat.reduceEqDiff, Nat.reduceBEq, reduceCtorEq, reduceIte, Int.reduceLE, Int.reduceLT, Int.reduceNeg, Int.reduceToNat, encQ, Int.reduceEq, if_false, if_true, or_true, or_false, true_or, false_or, List.map_cons, List.map_nil, List.length_cons, List.length_nil, Int.reduceAdd, List.cons_append, List.nil_append, List.append_nil, List.set_cons_zero, List.set_cons_succ, hk', hk0, hget2, hold, finC, encEnd_mk]
        refine told [.ptr (H.nxt + 3) 8 0 0, .agg (encT t), .agg (encEnd (e, s))] ?_ ?_
        · (try simp -implicitDefEqProofs only [push_cast, Nat.reduceAdd, Nat.reduceSub, Nat.reduceMul, Nat.reduceLT, Nat.reduceLeDiff, Nat.reduceEqDiff, Nat.reduceBEq, reduceCtorEq, reduceIte, Int.reduceLE, Int.reduceLT, Int.reduceNeg, Int.reduceToNat, encEnd_mk])
        refine (with0_ok c hcl q hq hp8 t htk e s _ hy (H.nxt + 3) (H.nxt + 4) _ (by simp [plus_nxt]) (by simp [plus_nxt]) (by rw [plus_obj]; rfl) (by rw [plus_obj]; rfl) hvk).mono ?_
        rintro r H2 ⟨rfl, rfl⟩
        rw [plus_set _ _ 3 _ (by simp), plus_plus]
        simp -implicitDefEqProofs only [push_cast, Nat.reduceAdd, Nat.reduceSub, Nat.reduceMul, Nat.reduceLT, Nat.reduceLeDiff, Nat.reduceEqDiff, Nat.reduceBEq, reduceCtorEq, reduceIte, Int.reduceLE, Int.reduceLT, Int.reduceNeg, Int.reduceToNat, encQ, Int.reduceEq, if_false, if_true, or_true, or_false, true_or, false_or, List.map_cons, List.map_nil, List.length_cons, List.length_nil, Int.reduceAdd, List.cons_append, List.nil_append, List.append_nil, List.set_cons_zero, List.set_cons_succ, finC, encEnd_mk, plus_plus, Nat.add_assoc]
        rw [wrap64 (n := (k : Int) + 1) (by omega) (by omega)]
        refine next_at [some 0, some 1, some 2, some 3, some 10, some 5] (k + 1) (by omega) (by omega) rfl ?_ ?_
        · (try simp -implicitDefEqProofs only [push_cast, Nat.reduceAdd, Nat.reduceSub, Nat.reduceMul, Nat.reduceLT, Nat.reduceLeDiff, Nat.reduceEqDiff, Nat.reduceBEq, reduceCtorEq, reduceIte, Int.reduceLE, Int.reduceLT, Int.reduceNeg, Int.reduceToNat, encQ, Int.reduceEq, if_false, if_true, or_true, or_false, true_or, false_or, List.map_cons, List.map_nil, List.length_cons, List.length_nil, Int.reduceAdd, List.cons_append, List.nil_append, List.append_nil, List.set_cons_zero, List.set_cons_succ, hnew, encEnd_mk, finC, encDs_pure, encEs_pure, encIs_pure, encTs_pure, encEnds_pure, encCw_pure, encCws_pure, encCw_len])
        · (try simp -implicitDefEqProofs only [push_cast, Nat.reduceAdd, Nat.reduceSub, Nat.reduceMul, Nat.reduceLT, Nat.reduceLeDiff, Nat.reduceEqDiff, Nat.reduceBEq, reduceCtorEq, reduceIte, Int.reduceLE, Int.reduceLT, Int.reduceNeg, Int.reduceToNat, encQ, Int.reduceEq, if_false, if_true, or_true, or_false, true_or, false_or, List.map_cons, List.map_nil, List.length_cons, List.length_nil, Int.reduceAdd, List.cons_append, List.nil_append, List.append_nil, List.set_cons_zero, List.set_cons_succ, hnew, encEnd_mk, finC, encDs_pure, encEs_pure, encIs_pure, encTs_pure, encEnds_pure, encCw_pure, encCws_pure, encCw_len])
      · simp -implicitDefEqProofs only [push_cast, Nat.reduceAdd, Nat.reduceSub, Nat.reduceMul, Nat.reduceLT, Nat.reduceLeDiff, Nat.reduceEqDiff, Nat.reduceBEq, reduceCtorEq, reduceIte, Int.reduceLE, Int.reduceLT, Int.reduceNeg, Int.reduceToNat, encQ, Int.reduceEq, if_false, if_true, or_true, or_false, true_or, false_or, List.map_cons, List.map_nil, List.length_cons, List.length_nil, Int.reduceAdd, List.cons_append, List.nil_append, List.append_nil, List.set_cons_zero, List.set_cons_succ, hk', hk0, hget2, hold, finC, encEnd_mk]
        refine told [.ptr (H.nxt + 3) 8 0 0, .agg (encT t), .agg (encEnd (e, s))] ?_ ?_
        · (try simp -implicitDefEqProofs only [push_cast, Nat.reduceAdd, Nat.reduceSub, Nat.reduceMul, Nat.reduceLT, Nat.reduceLeDiff, Nat.reduceEqDiff, Nat.reduceBEq, reduceCtorEq, reduceIte, Int.reduceLE, Int.reduceLT, Int.reduceNeg, Int.reduceToNat, encEnd_mk])
        refine (with1_ok c hcl q hq hp8 t htk e s _ hy (H.nxt + 3) (H.nxt + 4) _ (by simp [plus_nxt]) (by simp [plus_nxt]) x (by rw [plus_obj]; rfl) (by rw [plus_obj]; rfl) hvk).mono ?_
        rintro r H2 ⟨rfl, h1, h2⟩
        by_cases hlt : (optOne c q t (e, s)).1 < x.1
        · obtain rfl := h1 hlt
          replace hnew := hnew.1 hlt
          clear h1 h2
          rw [plus_set _ _ 3 _ (by simp), plus_plus]
          simp -implicitDefEqProofs only [push_cast, Nat.reduceAdd, Nat.reduceSub, Nat.reduceMul, Nat.reduceLT, Nat.reduceLeDiff, Nat.reduceEqDiff, Nat.reduceBEq, reduceCtorEq, reduceIte, Int.reduceLE, Int.reduceLT, Int.reduceNeg, Int.reduceToNat, encQ, Int.reduceEq, if_false, if_true, or_true, or_false, true_or, false_or, List.map_cons, List.map_nil, List.length_cons, List.length_nil, Int.reduceAdd, List.cons_append, List.nil_append, List.append_nil, List.set_cons_zero, List.set_cons_succ, finC, encEnd_mk, plus_plus, Nat.add_assoc]
          rw [wrap64 (n := (k : Int) + 1) (by omega) (by omega)]
          refine next_at [some 0, some 1, some 2, some 3, some 10, some 5] (k + 1) (by omega) (by omega) rfl ?_ ?_
          · (try simp -implicitDefEqProofs only [push_cast, Nat.reduceAdd, Nat.reduceSub, Nat.reduceMul, Nat.reduceLT, Nat.reduceLeDiff, Nat.reduceEqDiff, Nat.reduceBEq, reduceCtorEq, reduceIte, Int.reduceLE, Int.reduceLT, Int.reduceNeg, Int.reduceToNat, encQ, Int.reduceEq, if_false, if_true, or_true, or_false, true_or, false_or, List.map_cons, List.map_nil, List.length_cons, List.length_nil, Int.reduceAdd, List.cons_append, List.nil_append, List.append_nil, List.set_cons_zero, List.set_cons_succ, hnew, encEnd_mk, finC, encDs_pure, encEs_pure, encIs_pure, encTs_pure, encEnds_pure, encCw_pure, encCws_pure, encCw_len])
          · (try simp -implicitDefEqProofs only [push_cast, Nat.reduceAdd, Nat.reduceSub, Nat.reduceMul, Nat.reduceLT, Nat.reduceLeDiff, Nat.reduceEqDiff, Nat.reduceBEq, reduceCtorEq, reduceIte, Int.reduceLE, Int.reduceLT, Int.reduceNeg, Int.reduceToNat, encQ, Int.reduceEq, if_false, if_true, or_true, or_false, true_or, false_or, List.map_cons, List.map_nil, List.length_cons, List.length_nil, Int.reduceAdd, List.cons_append, List.nil_append, List.append_nil, List.set_cons_zero, List.set_cons_succ, hnew, encEnd_mk, finC, encDs_pure, encEs_pure, encIs_pure, encTs_pure, encEnds_pure, encCw_pure, encCws_pure, encCw_len])
        · obtain rfl := h2 hlt
          replace hnew := hnew.2 hlt
          clear h1 h2
          rw [plus_plus]
          simp -implicitDefEqProofs only [push_cast, Nat.reduceAdd, Nat.reduceSub, Nat.reduceMul, Nat.reduceLT, Nat.reduceLeDiff, Nat.reduceEqDiff, Nat.reduceBEq, reduceCtorEq, reduceIte, Int.reduceLE, Int.reduceLT, Int.reduceNeg, Int.reduceToNat, encQ, Int.reduceEq, if_false, if_true, or_true, or_false, true_or, false_or, List.map_cons, List.map_nil, List.length_cons, List.length_nil, Int.reduceAdd, List.cons_append, List.nil_append, List.append_nil, List.set_cons_zero, List.set_cons_succ, finC, encEnd_mk, plus_plus, Nat.add_assoc]
          rw [wrap64 (n := (k : Int) + 1) (by omega) (by omega)]
          refine next_at [some 0, some 1, some 2, some 3, some 4, some 5] (k + 1) (by omega) (by omega) rfl ?_ ?_
          · (try simp -implicitDefEqProofs only [push_cast, Nat.reduceAdd, Nat.reduceSub, Nat.reduceMul, Nat.reduceLT, Nat.reduceLeDiff, Nat.reduceEqDiff, Nat.reduceBEq, reduceCtorEq, reduceIte, Int.reduceLE, Int.reduceLT, Int.reduceNeg, Int.reduceToNat, encQ, Int.reduceEq, if_false, if_true, or_true, or_false, true_or, false_or, List.map_cons, List.map_nil, List.length_cons, List.length_nil, Int.reduceAdd, List.cons_append, List.nil_append, List.append_nil, List.set_cons_zero, List.set_cons_succ, hnew, encEnd_mk, finC, encDs_pure, encEs_pure, encIs_pure, encTs_pure, encEnds_pure, encCw_pure, encCws_pure, encCw_len])
          · (try simp -implicitDefEqProofs only [push_cast, Nat.reduceAdd, Nat.reduceSub, Nat.reduceMul, Nat.reduceLT, Nat.reduceLeDiff, Nat.reduceEqDiff, Nat.reduceBEq, reduceCtorEq, reduceIte, Int.reduceLE, Int.reduceLT, Int.reduceNeg, Int.reduceToNat, encQ, Int.reduceEq, if_false, if_true, or_true, or_false, true_or, false_or, List.map_cons, List.map_nil, List.length_cons, List.length_nil, Int.reduceAdd, List.cons_append, List.nil_append, List.append_nil, List.set_cons_zero, List.set_cons_succ, hnew, encEnd_mk, finC, encDs_pure, encEs_pure, encIs_pure, encTs_pure, encEnds_pure, encCw_pure, encCws_pure, encCw_len])
    · have hk' : ((k : Int) < ((endsQ q).length : Int)) = False := by simp; omega
      obtain rfl : k = (endsQ q).length := by omega
      rw [← hacc]
      simp -implicitDefEqProofs only [push_cast, Nat.reduceAdd, Nat.reduceSub, Nat.reduceMul, Nat.reduceLT, Nat.reduceLeDiff, Nat.reduceEqDiff, Nat.reduceBEq, reduceCtorEq, reduceIte, Int.reduceLE, Int.reduceLT, Int.reduceNeg, Int.reduceToNat, encQ, Int.reduceEq, if_false, if_true, or_true, or_false, true_or, false_or, List.map_cons, List.map_nil, List.length_cons, List.length_nil, Int.reduceAdd, List.cons_append, List.nil_append, List.append_nil, List.set_cons_zero, List.set_cons_succ, hk', finC, encEnd_mk]
      rw [wrap64 (n := (i : Int) + 1) (by omega) (by omega)]
      refine next_at [some 0, some 1, some 2, some 3, some 4] (i + 1) (by omega) (by omega) rfl ?_ ?_
      · (try simp -implicitDefEqProofs only [push_cast, Nat.reduceAdd, Nat.reduceSub, Nat.reduceMul, Nat.reduceLT, Nat.reduceLeDiff, Nat.reduceEqDiff, Nat.reduceBEq, reduceCtorEq, reduceIte, Int.reduceLE, Int.reduceLT, Int.reduceNeg, Int.reduceToNat, encQ, Int.reduceEq, if_false, if_true, or_true, or_false, true_or, false_or, List.map_cons, List.map_nil, List.length_cons, List.length_nil, Int.reduceAdd, List.cons_append, List.nil_append, List.append_nil, List.set_cons_zero, List.set_cons_succ, encEnd_mk, finC, encDs_pure, encEs_pure, encIs_pure, encTs_pure, encEnds_pure, encCw_pure, encCws_pure])
      · (try simp -implicitDefEqProofs only [push_cast, Nat.reduceAdd, Nat.reduceSub, Nat.reduceMul, Nat.reduceLT, Nat.reduceLeDiff, Nat.reduceEqDiff, Nat.reduceBEq, reduceCtorEq, reduceIte, Int.reduceLE, Int.reduceLT, Int.reduceNeg, Int.reduceToNat, encQ, Int.reduceEq, if_false, if_true, or_true, or_false, true_or, false_or, List.map_cons, List.map_nil, List.length_cons, List.length_nil, Int.reduceAdd, List.cons_append, List.nil_append, List.append_nil, List.set_cons_zero, List.set_cons_succ, encEnd_mk, finC, encDs_pure, encEs_pure, encIs_pure, encTs_pure, encEnds_pure, encCw_pure, encCws_pure])
        exact encCws_all8 _
  have hi' : ((i : Int) < (T.length : Int)) = False := by simp; omega
  obtain rfl : i = T.length := by omega
  rw [soRow_some hne]
  generalize leastW (accO c q T T.length) = y
  obtain ⟨n, ⟨op, occ, a, b, l⟩, e, s⟩ := y
  simp -implicitDefEqProofs only [push_cast, Nat.reduceAdd, Nat.reduceSub, Nat.reduceMul, Nat.reduceLT, Nat.reduceLeDiff, Nat.reduceEqDiff, Nat.reduceBEq, reduceCtorEq, reduceIte, Int.reduceLE, Int.reduceLT, Int.reduceNeg, Int.reduceToNat, encQ, Int.reduceEq, if_false, if_true, or_true, or_false, true_or, false_or, List.map_cons, List.map_nil, List.length_cons, List.length_nil, Int.reduceAdd, List.cons_append, List.nil_append, List.append_nil, List.set_cons_zero, List.set_cons_succ, hi', finC, encEnd_mk, encCw_mk]
  refine areg_at 15 (by kernel_rfl) (by kernel_rfl) ?_
  simp -implicitDefEqProofs only [push_cast, Nat.reduceAdd, Nat.reduceSub, Nat.reduceMul, Nat.reduceLT, Nat.reduceLeDiff, Nat.reduceEqDiff, Nat.reduceBEq, reduceCtorEq, reduceIte, Int.reduceLE, Int.reduceLT, Int.reduceNeg, Int.reduceToNat, encQ, Int.reduceEq, if_false, if_true, or_true, or_false, true_or, false_or, List.map_cons, List.map_nil, List.length_cons, List.length_nil, Int.reduceAdd, List.cons_append, List.nil_append, List.append_nil, List.set_cons_zero, List.set_cons_succ, hi', finC, encEnd_mk, encCw_mk, encWh_mk]
theorem OptBest_ok (c : List Df) (hcl : c.length ≤ 1000000) (q : Qy) (hq : q.Ok) (hp8 : q.p.length ≤ 8) : Quiet Go.Proofs.Tryz.prog 12 [.agg [.sl (c.map encD)], .agg (encQ q)] (.tup [.int (optQ c q).1, .agg (encWh (optQ c q).2), .bool (q.may c)]) := by
  rcases Bool.eq_false_or_eq_true (q.may c) with hm | hm
  · exact OptBest_yes c hcl q hq hp8 hm
  · exact OptBest_no c hcl q hq hm
end
section
attribute [local push_cast] encPl_mk encPl_take encPl_len encPl_one encPls_pure encPl_pure encT_pure encT_len encT_one encT_take
def qNull : Qy := ⟨[], [], 0, [], [], 0⟩
set_option maxHeartbeats 4000000 in
theorem awake14_ok : Quiet Go.Proofs.Tryz.prog 10 [] (.bool true) := by
  have hB := OptBest_ok catTwo (by decide) oneQ9 oneQ9_ok (by decide)
  rw [opt9, oneQ9_may] at hB
  dsimp only at hB
  have hg := (opt_good oneQ9_may (opt_mem oneQ9_may)).1
  rw [opt9] at hg
  dsimp only at hg
  have hF := FinePl_ok catTwo (by decide) oneQ9 oneQ9_ok (.mk 2 0 0 4 [.mk 0 0 0 0 [], .mk 0 1 0 0 []]) (few_ok' _ (by decide)) 0 false
  rw [hg, encW_mk] at hF
  have hE := Ends_ok qNull
  have he2 : ((endsQ qNull).map encEnd).length = 2 := rfl
  generalize (endsQ qNull).map encEnd = ends at hE he2
  have hT := Two13_ok
  rw [encWh_mk] at hB
  generalize [Pl.mk 0 0 0 0 [], Pl.mk 0 1 0 0 []] = l1 at hB hF
  generalize oneQ9 = q at hB hF hT
  refine quiet_of (rs := #[.tmp 0]) Go.Proofs.Tryz.func10 rfl rfl rfl mixed rfl rfl fun H hs => ?_
  simp -implicitDefEqProofs only [push_cast, Nat.reduceAdd, Nat.reduceSub, Nat.reduceMul, Nat.reduceLT, Nat.reduceLeDiff, Nat.reduceEqDiff, Nat.reduceBEq, reduceCtorEq, reduceIte, Int.reduceLE, Int.reduceLT, Int.reduceNeg, Int.reduceToNat]
  refine callq Two_ok ?_
  simp -implicitDefEqProofs only [push_cast, Nat.reduceAdd, Nat.reduceSub, Nat.reduceMul, Nat.reduceLT, Nat.reduceLeDiff, Nat.reduceEqDiff, Nat.reduceBEq, reduceCtorEq, reduceIte, Int.reduceLE, Int.reduceLT, Int.reduceNeg, Int.reduceToNat]
  refine ⟨rfl, ?_⟩
  refine areg_at 10 (by kernel_rfl) (by kernel_rfl) ?_
  simp -implicitDefEqProofs only [push_cast, Nat.reduceAdd, Nat.reduceSub, Nat.reduceMul, Nat.reduceLT, Nat.reduceLeDiff, Nat.reduceEqDiff, Nat.reduceBEq, reduceCtorEq, reduceIte, Int.reduceLE, Int.reduceLT, Int.reduceNeg, Int.reduceToNat]
  refine ahdq hT ?_
  simp -implicitDefEqProofs only [push_cast, Nat.reduceAdd, Nat.reduceSub, Nat.reduceMul, Nat.reduceLT, Nat.reduceLeDiff, Nat.reduceEqDiff, Nat.reduceBEq, reduceCtorEq, reduceIte, Int.reduceLE, Int.reduceLT, Int.reduceNeg, Int.reduceToNat]
  refine ahdq hB ?_
  simp -implicitDefEqProofs only [push_cast, Nat.reduceAdd, Nat.reduceSub, Nat.reduceMul, Nat.reduceLT, Nat.reduceLeDiff, Nat.reduceEqDiff, Nat.reduceBEq, reduceCtorEq, reduceIte, Int.reduceLE, Int.reduceLT, Int.reduceNeg, Int.reduceToNat]
  refine areg_at 23 (by kernel_rfl) (by kernel_rfl) ?_
  simp -implicitDefEqProofs only [push_cast, Nat.reduceAdd, Nat.reduceSub, Nat.reduceMul, Nat.reduceLT, Nat.reduceLeDiff, Nat.reduceEqDiff, Nat.reduceBEq, reduceCtorEq, reduceIte, Int.reduceLE, Int.reduceLT, Int.reduceNeg, Int.reduceToNat, Int.reduceEq]
  refine gcallq (.agg (encQ q)) (fun _ => hT) ?_
  simp -implicitDefEqProofs only [push_cast, Nat.reduceAdd, Nat.reduceSub, Nat.reduceMul, Nat.reduceLT, Nat.reduceLeDiff, Nat.reduceEqDiff, Nat.reduceBEq, reduceCtorEq, reduceIte, Int.reduceLE, Int.reduceLT, Int.reduceNeg, Int.reduceToNat, Int.reduceEq]
  refine gcallq (.bool true) (fun _ => hF) ?_
  simp -implicitDefEqProofs only [push_cast, Nat.reduceAdd, Nat.reduceSub, Nat.reduceMul, Nat.reduceLT, Nat.reduceLeDiff, Nat.reduceEqDiff, Nat.reduceBEq, reduceCtorEq, reduceIte, Int.reduceLE, Int.reduceLT, Int.reduceNeg, Int.reduceToNat, Int.reduceEq]
  refine gcallq (.sl ends) (fun _ => quiet_told hE fun H => ?_) ?_
  · (try simp -implicitDefEqProofs only [push_cast, Nat.reduceAdd, Nat.reduceSub, Nat.reduceMul, Nat.reduceLT, Nat.reduceLeDiff, Nat.reduceEqDiff, Nat.reduceBEq, reduceCtorEq, reduceIte, Int.reduceLE, Int.reduceLT, Int.reduceNeg, Int.reduceToNat, encQ, qNull, List.map_nil])
  simp -implicitDefEqProofs only [push_cast, Nat.reduceAdd, Nat.reduceSub, Nat.reduceMul, Nat.reduceLT, Nat.reduceLeDiff, Nat.reduceEqDiff, Nat.reduceBEq, reduceCtorEq, reduceIte, Int.reduceLE, Int.reduceLT, Int.reduceNeg, Int.reduceToNat, Int.reduceEq, he2, Int.reduceAdd]
end
section
attribute [local push_cast] encPl_mk encPl_take encPl_len encPl_one encPls_pure encPl_pure encT_pure encT_len encT_one encT_take
set_option maxHeartbeats 16000000 in
theorem optOrder_ok (c : List Df) (q : Qy) (hr : q.Raw c) : Quiet Go.Proofs.Tryz.prog 5 [.agg [.sl (c.map encD)], .agg (encQ q)] (.bool true) := by
  have hfar := Far_ok c q hr
  refine quiet_of (rs := #[.tmp 4]) Go.Proofs.Tryz.func5 rfl rfl rfl mixed rfl rfl fun H hs => ?_
  simp -implicitDefEqProofs only [push_cast, Nat.reduceAdd, Nat.reduceSub, Nat.reduceMul, Nat.reduceLT, Nat.reduceLeDiff, Nat.reduceEqDiff, Nat.reduceBEq, reduceCtorEq, reduceIte, Int.reduceLE, Int.reduceLT, Int.reduceNeg, Int.reduceToNat, encQ, encW_mk, encWh_mk]
  refine callq awake14_ok ?_
  simp -implicitDefEqProofs only [push_cast, Nat.reduceAdd, Nat.reduceSub, Nat.reduceMul, Nat.reduceLT, Nat.reduceLeDiff, Nat.reduceEqDiff, Nat.reduceBEq, reduceCtorEq, reduceIte, Int.reduceLE, Int.reduceLT, Int.reduceNeg, Int.reduceToNat, encQ, encW_mk, encWh_mk]
  refine gcall trivial (callq hfar ?_)
  cases hf : fewQ c q
  · simp -implicitDefEqProofs only [push_cast, Nat.reduceAdd, Nat.reduceSub, Nat.reduceMul, Nat.reduceLT, Nat.reduceLeDiff, Nat.reduceEqDiff, Nat.reduceBEq, reduceCtorEq, reduceIte, Int.reduceLE, Int.reduceLT, Int.reduceNeg, Int.reduceToNat, encQ, encW_mk, encWh_mk, Bool.false_eq_true, if_false, Int.reduceEq]
    refine gcallq' (.bool true) (fun h => by cases h) (fun h => by cases h) ?_
    simp -implicitDefEqProofs only [push_cast, Nat.reduceAdd, Nat.reduceSub, Nat.reduceMul, Nat.reduceLT, Nat.reduceLeDiff, Nat.reduceEqDiff, Nat.reduceBEq, reduceCtorEq, reduceIte, Int.reduceLE, Int.reduceLT, Int.reduceNeg, Int.reduceToNat, encQ, encW_mk, encWh_mk]
  have hcl : c.length ≤ 1000000 := by have := (fewQ_split hf).1; omega
  have hq := ok_of_few hr hf
  have hp8 := (fewQ_split hf).2.2.1
  have hM := MayQ_ok c hcl q hq
  simp -implicitDefEqProofs only [push_cast, Nat.reduceAdd, Nat.reduceSub, Nat.reduceMul, Nat.reduceLT, Nat.reduceLeDiff, Nat.reduceEqDiff, Nat.reduceBEq, reduceCtorEq, reduceIte, Int.reduceLE, Int.reduceLT, Int.reduceNeg, Int.reduceToNat, encQ, encW_mk, encWh_mk, if_true, Int.reduceEq]
  refine gcallq' (.bool (q.may c)) (fun _ => by simp) (fun _ => hM) ?_
  cases hm : q.may c
  · simp -implicitDefEqProofs only [push_cast, Nat.reduceAdd, Nat.reduceSub, Nat.reduceMul, Nat.reduceLT, Nat.reduceLeDiff, Nat.reduceEqDiff, Nat.reduceBEq, reduceCtorEq, reduceIte, Int.reduceLE, Int.reduceLT, Int.reduceNeg, Int.reduceToNat, encQ, encW_mk, encWh_mk]
  simp -implicitDefEqProofs only [push_cast, Nat.reduceAdd, Nat.reduceSub, Nat.reduceMul, Nat.reduceLT, Nat.reduceLeDiff, Nat.reduceEqDiff, Nat.reduceBEq, reduceCtorEq, reduceIte, Int.reduceLE, Int.reduceLT, Int.reduceNeg, Int.reduceToNat, encQ, encW_mk, encWh_mk]
  have hB := OptBest_ok c hcl q hq hp8
  rw [hm] at hB
  have hl1 := opt_free hm
  have hl2 := opt_bare hm
  have hqf : q.free.Ok := hq
  have hcl2 : (q.cols c 1).length ≤ 1000000 := by
    rw [Qy.cols, if_pos hm]
    have := colsIn_le c q (bitI 1)
    omega
  have hqb : (q.bare c).Ok := ⟨hq.1, hq.2.1, hq.2.2.1, by simp [Qy.bare, Qy.endAs], by show (q.cols c 1).length ≤ _; omega⟩
  have hB2 := OptBest_ok c hcl q.free hqf hp8
  rw [free_may hm] at hB2
  have hB3 := OptBest_ok c hcl (q.bare c) hqb hp8
  rw [bare_may hm] at hB3
  have hC := ColsQ_ok c hcl q hq 1
  generalize optQ c q = r at hB hl1 hl2
  generalize optQ c q.free = r2 at hB2 hl1
  generalize optQ c (q.bare c) = r3 at hB3 hl2
  obtain ⟨n, ⟨op, occ, a, b, l⟩, e, s⟩ := r
  obtain ⟨n2, ⟨op2, occ2, a2, b2, l2⟩, e2, s2⟩ := r2
  obtain ⟨n3, ⟨op3, occ3, a3, b3, l3⟩, e3, s3⟩ := r3
  dsimp only at hB hB2 hB3 hl1 hl2
  rw [encWh_mk] at hB hB2 hB3
  simp only [encQ, Qy.free, Qy.bare, Qy.endAs, List.map_nil] at hB2 hB3
  generalize q.cols c 1 = cols at hB3 hC
  refine callq hB ?_
  simp -implicitDefEqProofs only [push_cast, Nat.reduceAdd, Nat.reduceSub, Nat.reduceMul, Nat.reduceLT, Nat.reduceLeDiff, Nat.reduceEqDiff, Nat.reduceBEq, reduceCtorEq, reduceIte, Int.reduceLE, Int.reduceLT, Int.reduceNeg, Int.reduceToNat, encQ, encW_mk, encWh_mk]
  refine callq hB2 ?_
  have d1 : decide (n < n2) = false := decide_eq_false (by omega)
  have d2 : decide (n3 ≤ n) = true := decide_eq_true (by omega)
  simp -implicitDefEqProofs only [push_cast, Nat.reduceAdd, Nat.reduceSub, Nat.reduceMul, Nat.reduceLT, Nat.reduceLeDiff, Nat.reduceEqDiff, Nat.reduceBEq, reduceCtorEq, reduceIte, Int.reduceLE, Int.reduceLT, Int.reduceNeg, Int.reduceToNat, encQ, encW_mk, encWh_mk, d1, d2]
  refine areg_at 9 (by kernel_rfl) (by kernel_rfl) ?_
  simp -implicitDefEqProofs only [push_cast, Nat.reduceAdd, Nat.reduceSub, Nat.reduceMul, Nat.reduceLT, Nat.reduceLeDiff, Nat.reduceEqDiff, Nat.reduceBEq, reduceCtorEq, reduceIte, Int.reduceLE, Int.reduceLT, Int.reduceNeg, Int.reduceToNat, encQ, encW_mk, encWh_mk, d1, d2]
  refine ahdq hC ?_
  simp -implicitDefEqProofs only [push_cast, Nat.reduceAdd, Nat.reduceSub, Nat.reduceMul, Nat.reduceLT, Nat.reduceLeDiff, Nat.reduceEqDiff, Nat.reduceBEq, reduceCtorEq, reduceIte, Int.reduceLE, Int.reduceLT, Int.reduceNeg, Int.reduceToNat, encQ, encW_mk, encWh_mk, d1, d2]
  refine calla [.agg [.sl (c.map encD)], .agg [.sl (q.occ.map encI), .sl (q.p.map encE), .int (-1), .sl [], .sl (cols.map encI), .int (-1)]] hB3 ?_ ?_
  · (try simp -implicitDefEqProofs only [push_cast, Nat.reduceAdd, Nat.reduceSub, Nat.reduceMul, Nat.reduceLT, Nat.reduceLeDiff, Nat.reduceEqDiff, Nat.reduceBEq, reduceCtorEq, reduceIte, Int.reduceLE, Int.reduceLT, Int.reduceNeg, Int.reduceToNat, encQ, encDs_pure, encEs_pure, encIs_pure, encTs_pure, encEnds_pure, List.map_nil])
  simp -implicitDefEqProofs only [push_cast, Nat.reduceAdd, Nat.reduceSub, Nat.reduceMul, Nat.reduceLT, Nat.reduceLeDiff, Nat.reduceEqDiff, Nat.reduceBEq, reduceCtorEq, reduceIte, Int.reduceLE, Int.reduceLT, Int.reduceNeg, Int.reduceToNat, encQ, encW_mk, encWh_mk, d1, d2]
theorem optOrder_law (us : List AV) (h : ToldAll Go.Proofs.Tryz.prog Go.Proofs.Tryz.f5.params.toList us) : Quiet Go.Proofs.Tryz.prog 5 us (.bool true) := by
  have e1 : Go.Proofs.Tryz.f5.params.toList = [24, 28] := by kernel_rfl
  rw [e1] at h
  obtain ⟨c, q, us, rfl, _, hr, hin, h⟩ := told_CQ h
  obtain rfl := told_nil h
  exact optOrder_ok c q hr
end
end Go.Sim.Tryz
