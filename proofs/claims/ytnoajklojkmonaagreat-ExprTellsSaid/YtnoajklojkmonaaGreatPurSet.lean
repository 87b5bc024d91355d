/- Numbers put in order, each once: plain facts. Conditions: none. -/
import Derived.Lib.SlicesCompact
set_option linter.unusedVariables false
set_option linter.unusedSimpArgs false
namespace Go.Sim
open Go

/-- Each once, in order. -/
def uniq (l : List Int) : List Int := Lib.compact (l.mergeSort fun x y => decide (x ≤ y))

theorem sort_pw (l : List Int) : (l.mergeSort fun x y => decide (x ≤ y)).Pairwise (· ≤ ·) := by
  have := List.pairwise_mergeSort (le := fun x y : Int => decide (x ≤ y)) (fun a b c h1 h2 => by simp at h1 h2 ⊢; omega) (fun a b => by simp; omega) l
  exact this.imp (fun h => by simpa using h)
theorem sort_mem (l : List Int) (x : Int) : x ∈ (l.mergeSort fun x y => decide (x ≤ y)) ↔ x ∈ l := List.mem_mergeSort

theorem compactUpTo_spec (d : List Int) (hd : d.Pairwise (· ≤ ·)) : ∀ m, m ≤ d.length →
    (Lib.compactUpTo d.toArray m).Pairwise (· < ·) ∧ (∀ x, x ∈ Lib.compactUpTo d.toArray m ↔ ∃ j, j < m ∧ d.toArray[j]! = x) ∧ (∀ x ∈ Lib.compactUpTo d.toArray m, 0 < m → x ≤ d.toArray[m - 1]!) := by
  have get : ∀ j (h : j < d.length), d.toArray[j]! = d[j] := fun j h => by simp [h]
  intro m
  induction m with
  | zero => intro _; simp [Lib.compactUpTo]
  | succ m ih =>
    intro hm
    obtain ⟨h1, h2, h3⟩ := ih (by omega)
    rw [Lib.compactUpTo_succ]
    by_cases hk : Lib.keeps d.toArray m = true
    · rw [if_pos hk]
      have hlt : ∀ x ∈ Lib.compactUpTo d.toArray m, x < d.toArray[m]! := by
        intro x hx
        obtain ⟨j, hj, rfl⟩ := (h2 x).1 hx
        have h4 := h3 _ hx (by omega)
        have h5 : d.toArray[m - 1]! ≤ d.toArray[m]! := by
          rw [get _ (by omega), get _ (by omega)]
          exact List.pairwise_iff_getElem.1 hd (m - 1) m (by omega) (by omega) (by omega)
        have h6 : d.toArray[m]! ≠ d.toArray[m - 1]! := by
          simp only [Lib.keeps, decide_eq_true_eq] at hk
          rcases hk with h | h
          · omega
          · exact h
        omega
      refine ⟨List.pairwise_append.2 ⟨h1, by simp, fun x hx y hy => by rw [List.mem_singleton] at hy; subst hy; exact hlt x hx⟩, fun x => ?_, fun x hx _ => ?_⟩
      · rw [List.mem_append, h2 x, List.mem_singleton]
        constructor
        · rintro (⟨j, hj, rfl⟩ | rfl)
          · exact ⟨j, by omega, rfl⟩
          · exact ⟨m, by omega, rfl⟩
        · rintro ⟨j, hj, rfl⟩
          by_cases e : j = m
          · subst e; exact .inr rfl
          · exact .inl ⟨j, by omega, rfl⟩
      · rw [List.mem_append, List.mem_singleton] at hx
        rw [Nat.add_sub_cancel]
        rcases hx with hx | rfl
        · exact Int.le_of_lt (hlt x hx)
        · exact Int.le_refl _
    · rw [if_neg hk, List.append_nil]
      have hk' : m ≠ 0 ∧ d.toArray[m]! = d.toArray[m - 1]! := by
        simp only [Lib.keeps, decide_eq_true_eq, not_or, Decidable.not_not] at hk
        exact hk
      refine ⟨h1, fun x => ?_, fun x hx _ => ?_⟩
      · rw [h2 x]
        constructor
        · rintro ⟨j, hj, rfl⟩; exact ⟨j, by omega, rfl⟩
        · rintro ⟨j, hj, rfl⟩
          by_cases e : j = m
          · subst e; exact ⟨j - 1, by omega, hk'.2.symm⟩
          · exact ⟨j, by omega, rfl⟩
      · have := h3 x hx (by omega)
        rw [Nat.add_sub_cancel, hk'.2]
        exact this
theorem uniq_pw (l : List Int) : (uniq l).Pairwise (· < ·) := (compactUpTo_spec _ (sort_pw l) _ (Nat.le_refl _)).1
theorem uniq_mem (l : List Int) (x : Int) : x ∈ uniq l ↔ x ∈ l := by
  unfold uniq Lib.compact
  rw [(compactUpTo_spec _ (sort_pw l) _ (Nat.le_refl _)).2.1 x, ← sort_mem l x, List.mem_iff_getElem]
  constructor
  · rintro ⟨j, hj, h⟩
    refine ⟨j, hj, ?_⟩
    rw [← h]
    simp [List.getElem?_eq_getElem hj]
  · rintro ⟨j, hj, h⟩
    refine ⟨j, hj, ?_⟩
    rw [← h]
    simp [List.getElem?_eq_getElem hj]
theorem pw_nodup {l : List Int} (h : l.Pairwise (· < ·)) : l.Nodup := h.imp fun h => by omega
theorem nodup_len : ∀ {l m : List Int}, l.Nodup → (∀ x ∈ l, x ∈ m) → l.length ≤ m.length
  | [], m, _, _ => Nat.zero_le _
  | a :: l, m, h, hs => by
    rw [List.nodup_cons] at h
    have ha : a ∈ m := hs a (by simp)
    have := nodup_len (l := l) (m := m.erase a) h.2 fun x hx => by
      have hxm := hs x (by simp [hx])
      exact (List.mem_erase_of_ne (fun e => by subst e; exact h.1 hx)).2 hxm
    rw [List.length_erase_of_mem ha] at this
    have hp : 0 < m.length := List.length_pos_of_mem ha
    simp only [List.length_cons]
    omega
/-- Two that are in order, each once, and have the same are the same. -/
theorem pw_ext : ∀ {l m : List Int}, l.Pairwise (· < ·) → m.Pairwise (· < ·) → (∀ x, x ∈ l ↔ x ∈ m) → l = m
  | [], m, _, _, h => by
    cases m with
    | nil => rfl
    | cons b m => exact absurd ((h b).2 (by simp)) (by simp)
  | a :: l, [], _, _, h => absurd ((h a).1 (by simp)) (by simp)
  | a :: l, b :: m, hl, hm, h => by
    rw [List.pairwise_cons] at hl hm
    have hab : a = b := by
      have h1 := (h a).1 (by simp)
      have h2 := (h b).2 (by simp)
      rw [List.mem_cons] at h1 h2
      rcases h1 with h1 | h1
      · exact h1
      · rcases h2 with h2 | h2
        · exact h2.symm
        · have := hm.1 a h1
          have := hl.1 b h2
          omega
    subst hab
    congr 1
    refine pw_ext hl.2 hm.2 fun x => ?_
    have hx := h x
    simp only [List.mem_cons] at hx
    constructor
    · intro h1
      rcases hx.1 (.inr h1) with rfl | h2
      · exact absurd (hl.1 _ h1) (by omega)
      · exact h2
    · intro h1
      rcases hx.2 (.inr h1) with rfl | h2
      · exact absurd (hm.1 _ h1) (by omega)
      · exact h2
theorem uniq_len (l : List Int) : (uniq l).length ≤ l.length := nodup_len (pw_nodup (uniq_pw l)) fun x hx => (uniq_mem l x).1 hx
end Go.Sim
