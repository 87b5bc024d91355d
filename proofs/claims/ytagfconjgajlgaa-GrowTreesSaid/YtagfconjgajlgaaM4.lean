/- What the row rests on, part 4. Conditions: none. -/
import Derived.Test.YtagfconjgajlgaaM3
set_option linter.unusedSimpArgs false
set_option linter.unusedVariables false
set_option maxRecDepth 100000
namespace Go.Sim
theorem mayS_max {p : List Int} (hm : mayS p = true) : p.length ≤ 400 := (mayS_iff.1 hm).2
theorem rootN_iff {p : List Int} (hm : mayS p = true) {i : Nat} (h : i < p.length) : rootN p i = i ↔ p.getD i 0 = i := by
  refine ⟨fun h1 => ?_, rootN_self⟩
  have := rootN_root hm h
  rw [h1] at this
  exact this
theorem rootN_idem {p : List Int} (hm : mayS p = true) {i : Nat} (h : i < p.length) : rootN p (rootN p i) = rootN p i := rootN_self (rootN_root hm h)
theorem findS_at {p : List Int} (hm : mayS p = true) {i : Nat} (h : i < p.length) : findS p i = rootN p i := by
  rw [findS, if_pos (by rw [hm]; simp; omega)]; simp
theorem findS_none {p : List Int} {i : Int} (h : ¬ (mayS p = true ∧ 0 ≤ i ∧ i < p.length)) : findS p i = -1 := by
  rw [findS, if_neg]
  simp only [Bool.and_eq_true, decide_eq_true_eq]
  exact fun h1 => h ⟨h1.1.1, h1.1.2, h1.2⟩
def jn (x y r : Nat) : Nat := if r = max x y then min x y else r
theorem jn_le (x y r : Nat) : jn x y r ≤ r := by unfold jn; split <;> omega
theorem joinS_ok {p : List Int} (hm : mayS p = true) {a b : Nat} (ha : a < p.length) (hb : b < p.length) : (joinS p a b).2 = true ∧ ∀ i, i < p.length → (joinS p a b).1.getD i 0 = jn (rootN p a) (rootN p b) (rootN p i) := by
  have e : joinS p a b = ((rootsS p).map fun r => if r = max (findS p a) (findS p b) then min (findS p a) (findS p b) else r, true) := by
    rw [joinS, if_neg]
    rw [findS_at hm ha, findS_at hm hb]
    omega
  rw [e]
  refine ⟨rfl, fun i hi => ?_⟩
  have hR := rootsS_at hm hi
  have hl := rootsS_len hm
  rw [List.getD_eq_getElem?_getD, List.getElem?_eq_getElem (by omega)] at hR
  rw [List.getD_eq_getElem?_getD, List.getElem?_map, List.getElem?_eq_getElem (by omega)]
  simp only [Option.getD_some] at hR
  simp only [Option.map_some, Option.getD_some]
  rw [hR, findS_at hm ha, findS_at hm hb]
  unfold jn
  split
  · rename_i h; rw [if_pos (by omega)]; omega
  · rename_i h; rw [if_neg (by omega)]
theorem joinS_length (p : List Int) (a b : Int) : (joinS p a b).1.length = p.length := by
  unfold joinS
  split
  · rfl
  · rename_i h
    by_cases hm : mayS p = true
    · simp [rootsS_len hm]
    · exact absurd (.inl (findS_none fun h => hm h.1)) h
theorem joinS_bad {p : List Int} {a b : Int} (h : findS p a = -1 ∨ findS p b = -1) : joinS p a b = (p, false) := by rw [joinS, if_pos h]
theorem joinS_may {p : List Int} (hm : mayS p = true) (a b : Int) : mayS (joinS p a b).1 = true := by
  by_cases h : findS p a = -1 ∨ findS p b = -1
  · rw [joinS_bad h]; exact hm
  · have ha : 0 ≤ a ∧ a < p.length := by
      by_cases h1 : 0 ≤ a ∧ a < p.length
      · exact h1
      · exact absurd (.inl (findS_none fun h => h1 h.2)) h
    have hb : 0 ≤ b ∧ b < p.length := by
      by_cases h1 : 0 ≤ b ∧ b < p.length
      · exact h1
      · exact absurd (.inr (findS_none fun h => h1 h.2)) h
    obtain ⟨a, rfl⟩ : ∃ y : Nat, a = y := ⟨a.toNat, by omega⟩
    obtain ⟨b, rfl⟩ : ∃ y : Nat, b = y := ⟨b.toNat, by omega⟩
    have := (joinS_ok hm (a := a) (b := b) (by omega) (by omega)).2
    rw [mayS_iff, joinS_length]
    refine ⟨fun i hi => ?_, mayS_max hm⟩
    rw [this i hi]
    have h1 := jn_le (rootN p a) (rootN p b) (rootN p i)
    have h2 := rootN_le hm hi
    omega
def nr (p : List Int) : Nat := ((List.range p.length).filter fun i => decide (p.getD i 0 = i)).length
theorem nr_le (p : List Int) : nr p ≤ p.length := by
  have := List.length_filter_le (fun i => decide (p.getD i 0 = (i : Int))) (List.range p.length)
  simpa [nr] using this
theorem filter_lt {α : Type} {p q : α → Bool} : ∀ {l : List α} {x : α}, x ∈ l → (∀ y, q y = true → p y = true) → p x = true → q x = false → (l.filter q).length < (l.filter p).length
  | [], _, h, _, _, _ => by cases h
  | y :: l, x, h, hpq, hp, hq => by
    have hle : (l.filter q).length ≤ (l.filter p).length := by
      clear h
      induction l with
      | nil => simp
      | cons z l ih =>
        rw [List.filter_cons, List.filter_cons]
        by_cases hz : q z = true
        · rw [if_pos hz, if_pos (hpq z hz)]; simpa using ih
        · rw [if_neg hz]
          split
          · simp; omega
          · exact ih
    rw [List.filter_cons, List.filter_cons]
    rcases List.mem_cons.1 h with rfl | h1
    · rw [if_pos hp, if_neg (by rw [hq]; decide)]
      simp; omega
    · have ih := filter_lt h1 hpq hp hq
      by_cases hz : q y = true
      · rw [if_pos hz, if_pos (hpq y hz)]; simpa using ih
      · rw [if_neg hz]
        split
        · simp; omega
        · exact ih
theorem join_root {p : List Int} (hm : mayS p = true) {a b : Nat} (ha : a < p.length) (hb : b < p.length) {i : Nat} (hi : i < p.length) (h : (joinS p a b).1.getD i 0 = i) : p.getD i 0 = i := by
  rw [(joinS_ok hm ha hb).2 i hi] at h
  have h1 := jn_le (rootN p a) (rootN p b) (rootN p i)
  have h2 := rootN_le hm hi
  exact (rootN_iff hm hi).1 (by omega)
theorem nr_join {p : List Int} (hm : mayS p = true) {a b : Nat} (ha : a < p.length) (hb : b < p.length) (hne : rootN p a ≠ rootN p b) : nr (joinS p a b).1 < nr p := by
  have hj := (joinS_ok hm ha hb).2
  have h1 := rootN_le hm ha
  have h2 := rootN_le hm hb
  have hy : max (rootN p a) (rootN p b) < p.length := by omega
  have hry : rootN p (max (rootN p a) (rootN p b)) = max (rootN p a) (rootN p b) := by
    rcases Nat.le_total (rootN p a) (rootN p b) with h | h
    · rw [Nat.max_eq_right h]; exact rootN_idem hm hb
    · rw [Nat.max_eq_left h]; exact rootN_idem hm ha
  unfold nr
  rw [joinS_length]
  have e : (List.range p.length).filter (fun i => decide ((joinS p a b).1.getD i 0 = (i : Int))) = (List.range p.length).filter (fun i => decide (p.getD i 0 = i) && decide ((joinS p a b).1.getD i 0 = (i : Int))) := by
    apply List.filter_congr
    intro i hi
    rw [List.mem_range] at hi
    cases h : decide ((joinS p a b).1.getD i 0 = (i : Int)) with
    | false => rw [Bool.and_false]
    | true => rw [Bool.and_true, eq_comm]; exact decide_eq_true (join_root hm ha hb hi (of_decide_eq_true h))
  rw [e]
  refine filter_lt (x := max (rootN p a) (rootN p b)) (List.mem_range.2 hy) (fun y h => ?_) ?_ ?_
  · rw [Bool.and_eq_true] at h; exact h.1
  · exact decide_eq_true ((rootN_iff hm hy).1 hry)
  · rw [Bool.and_eq_false_iff]
    right
    refine decide_eq_false ?_
    rw [hj _ hy, hry]
    unfold jn
    rw [if_pos rfl]
    omega
theorem nr_join_le {p : List Int} (hm : mayS p = true) (a b : Int) : nr (joinS p a b).1 ≤ p.length := by
  have := nr_le (joinS p a b).1
  rw [joinS_length] at this
  exact this
theorem form_def (m : Mm) : m.form = true ↔ mayS m.P = true ∧ m.G.length = m.N.length ∧ m.N.length ≤ 400 ∧ (∀ g ∈ m.G, m.inG g = true) ∧ ∀ n ∈ m.N, m.node n = true := by
  rw [Mm.form]
  simp only [Bool.and_eq_true, decide_eq_true_eq, List.all_eq_true, and_assoc]
def Mm.joined (m : Mm) (a b : Int) : Mm := ⟨m.N, m.G, (joinS m.P a b).1⟩
theorem inG_len {m k : Mm} (h : m.P.length = k.P.length) (g : Int) : m.inG g = k.inG g := by rw [Mm.inG, Mm.inG, h]
theorem node_len {m k : Mm} (h : m.P.length = k.P.length) (n : Nd) : m.node n = k.node n := by rw [Mm.node, Mm.node, inG_len h, inG_len h]
theorem joined_form {m : Mm} (h : m.form = true) (a b : Int) : (m.joined a b).form = true := by
  rw [form_def] at h ⊢
  obtain ⟨h1, h2, h3, h4, h5⟩ := h
  have hl : (m.joined a b).P.length = m.P.length := joinS_length m.P a b
  exact ⟨joinS_may h1 a b, h2, h3, fun g hg => by rw [inG_len hl]; exact h4 g hg, fun n hn => by rw [node_len hl]; exact h5 n hn⟩
theorem openM_spec {m : Mm} {x : Int × Int} (h : m.openM = some x) : ∃ i, i < m.N.length ∧ m.bad i = true ∧ (∀ j, j < i → m.bad j = false) ∧ x = (m.G.getD (m.at1 i) 0, m.G.getD i 0) := by
  rw [Mm.openM, Option.map_eq_some_iff] at h
  obtain ⟨i, hi, rfl⟩ := h
  obtain ⟨h1, h2, h3⟩ := List.find?_range_eq_some.1 hi
  exact ⟨i, by simpa using h2, h1, fun j hj => by have := h3 j hj; simpa using this, rfl⟩
theorem cs_length (m : Mm) : m.cs.length = m.N.length := by simp [Mm.cs]
theorem at1_le {m : Mm} {i : Nat} (hi : i < m.N.length) : m.at1 i ≤ i := idxN_self (by rw [cs_length]; exact hi)
theorem G_at {m : Mm} (h : m.form = true) {i : Nat} (hi : i < m.N.length) : 0 ≤ m.G.getD i 0 ∧ m.G.getD i 0 < m.P.length := by
  obtain ⟨_, h2, _, h4, _⟩ := (form_def m).1 h
  have : m.G.getD i 0 ∈ m.G := by
    rw [List.getD_eq_getElem?_getD, List.getElem?_eq_getElem (by omega)]; exact List.getElem_mem _
  have := h4 _ this
  simpa only [Mm.inG, Bool.and_eq_true, decide_eq_true_eq] using this
theorem rg_at {m : Mm} (h : m.form = true) {i : Nat} (hi : i < m.N.length) : m.rg i = rootN m.P (m.G.getD i 0).toNat := by
  have := G_at h hi
  rw [Mm.rg, rootsS_at ((form_def m).1 h).1 (by omega)]
theorem openM_two {m : Mm} (hf : m.form = true) {x : Int × Int} (h : m.openM = some x) : ∃ a b : Nat, x = ((a : Int), (b : Int)) ∧ a < m.P.length ∧ b < m.P.length ∧ rootN m.P a ≠ rootN m.P b := by
  obtain ⟨i, hi, hb, _, rfl⟩ := openM_spec h
  have h1 := G_at hf hi
  have hk := at1_le hi
  have h2 := G_at hf (show m.at1 i < m.N.length by omega)
  refine ⟨(m.G.getD (m.at1 i) 0).toNat, (m.G.getD i 0).toNat, ?_, by omega, by omega, ?_⟩
  · rw [Int.toNat_of_nonneg h1.1, Int.toNat_of_nonneg h2.1]
  · intro he
    rw [Mm.bad, rg_at hf hi, rg_at hf (by omega), he] at hb
    simp at hb
def enough (m : Mm) (a b : Int) (f : Nat) : Prop := nr (m.joined a b).P + 1 ≤ f
theorem enough_first {m : Mm} (h : mayS m.P = true) (a b : Int) : enough m a b (m.P.length + 1) := by
  have := nr_join_le h a b
  unfold enough
  show nr (joinS m.P a b).1 + 1 ≤ _
  omega
theorem enough_next {m : Mm} (hf : m.form = true) {a b : Int} {f : Nat} (he : enough m a b (f + 1)) {x : Int × Int} (hx : (m.joined a b).openM = some x) : enough (m.joined a b) x.1 x.2 f := by
  obtain ⟨c, d, rfl, hc, hd, hne⟩ := openM_two (joined_form hf a b) hx
  have h1 := nr_join ((form_def _).1 (joined_form hf a b)).1 hc hd hne
  unfold enough at he ⊢
  show nr (joinS (m.joined a b).P c d).1 + 1 ≤ f
  omega
theorem enough_pos {m : Mm} {a b : Int} {f : Nat} (h : enough m a b f) : ∃ g, f = g + 1 := ⟨f - 1, by unfold enough at h; omega⟩
theorem mergeF_end {f : Nat} {m : Mm} {a b : Int} (h : (m.joined a b).openM = none) : mergeF (f + 1) m a b = m.joined a b := by
  rw [mergeF]
  have h' : (Mm.mk m.N m.G (joinS m.P a b).1).openM = none := h
  rw [h']; rfl
theorem mergeF_more {f : Nat} {m : Mm} {a b : Int} {x : Int × Int} (h : (m.joined a b).openM = some x) : mergeF (f + 1) m a b = mergeF f (m.joined a b) x.1 x.2 := by
  rw [mergeF]
  have h' : (Mm.mk m.N m.G (joinS m.P a b).1).openM = some x := h
  rw [h']; rfl
end Go.Sim
namespace Go.Sim
theorem form_small' {m : Mm} (h : m.form = true) : m.N.length ≤ 400 ∧ m.G.length ≤ 400 ∧ m.P.length ≤ 400 := by
  obtain ⟨h1, h2, h3, _⟩ := (form_def m).1 h
  have := (mayS_iff.1 h1).2
  omega
def jobsTo (m : Mm) (e : Nat) (k : Nat) : List Jb := ((List.range k).filter fun f => (m.N.getD f nd0).jn && decide (m.rg f = (rootsS m.P).getD (m.N.getD e nd0).a.toNat 0)).map fun (f : Nat) => ⟨true, e, f⟩
def jobsUp (m : Mm) (i : Nat) : List Jb := (List.range i).flatMap m.jobsAt
theorem jobsAt_def (m : Mm) (e : Nat) : m.jobsAt e = if (m.N.getD e nd0).jn then ⟨false, e, 0⟩ :: jobsTo m e m.N.length else [] := rfl
theorem jobsTo_succ (m : Mm) (e k : Nat) : jobsTo m e (k + 1) = if ((m.N.getD k nd0).jn && decide (m.rg k = (rootsS m.P).getD (m.N.getD e nd0).a.toNat 0)) = true then jobsTo m e k ++ [⟨true, e, k⟩] else jobsTo m e k := by
  rw [jobsTo, List.range_succ, List.filter_append, List.filter_cons, List.map_append]
  split
  · rfl
  · simp [jobsTo]
theorem jobsTo_len (m : Mm) (e k : Nat) : (jobsTo m e k).length ≤ k := by
  have := List.length_filter_le (fun f => (m.N.getD f nd0).jn && decide (m.rg f = (rootsS m.P).getD (m.N.getD e nd0).a.toNat 0)) (List.range k)
  rw [List.length_range] at this
  rw [jobsTo, List.length_map]; exact this
theorem jobsUp_succ (m : Mm) (i : Nat) : jobsUp m (i + 1) = jobsUp m i ++ m.jobsAt i := by
  rw [jobsUp, List.range_succ, List.flatMap_append, List.flatMap_singleton]; rfl
theorem jobsAt_len (m : Mm) (e : Nat) : (m.jobsAt e).length ≤ m.N.length + 1 := by
  rw [jobsAt_def]
  split
  · have := jobsTo_len m e m.N.length
    simp; omega
  · simp
theorem jobsUp_len (m : Mm) : ∀ i, (jobsUp m i).length ≤ i * (m.N.length + 1)
  | 0 => by simp [jobsUp]
  | i + 1 => by
    have h1 := jobsUp_len m i
    have h2 := jobsAt_len m i
    rw [jobsUp_succ, List.length_append, Nat.succ_mul]
    omega
theorem jobs0_up (m : Mm) : m.jobs0 = jobsUp m m.N.length := rfl
theorem mergeF_keep : ∀ (f : Nat) (m : Mm) (a b : Int), (mergeF f m a b).N = m.N ∧ (mergeF f m a b).G = m.G ∧ (mergeF f m a b).P.length = m.P.length
  | 0, m, a, b => ⟨rfl, rfl, rfl⟩
  | f + 1, m, a, b => by
    cases h : (m.joined a b).openM with
    | none => rw [mergeF_end h]; exact ⟨rfl, rfl, joinS_length _ _ _⟩
    | some x =>
      rw [mergeF_more h]
      obtain ⟨h1, h2, h3⟩ := mergeF_keep f (m.joined a b) x.1 x.2
      exact ⟨h1, h2, h3.trans (joinS_length _ _ _)⟩
theorem merge_keep (m : Mm) (a b : Int) : (m.merge a b).1.N = m.N ∧ (m.merge a b).1.G = m.G ∧ (m.merge a b).1.P.length = m.P.length := by
  unfold Mm.merge
  split
  · exact mergeF_keep _ _ _ _
  · exact ⟨rfl, rfl, rfl⟩
theorem may_def (m : Mm) : m.may = (m.form && (m.openM).isNone) := rfl
theorem may_f {m : Mm} (h : m.may = true) : m.form = true := by rw [may_def, Bool.and_eq_true] at h; exact h.1
theorem put_def (m : Mm) (n : Nd) (g : Int) : m.put n g =
  if !(m.may && m.node n && (decide (g = -1) || m.inG g)) then (m, -1, 1)
  else if (m.look n).2 then (if g = -1 ∨ m.find g = (m.look n).1 then (m, (m.look n).1, 0) else m.merge g (m.look n).1)
  else if m.N.length = 400 ∨ (g = -1 ∧ m.P.length = 400) then (m, -1, 3)
  else if g = -1 then (⟨m.N ++ [n], m.G ++ [(m.P.length : Int)], m.P ++ [(m.P.length : Int)]⟩, findS (m.P ++ [(m.P.length : Int)]) m.P.length, 0)
  else (⟨m.N ++ [n], m.G ++ [g], m.P⟩, m.find g, 0) := rfl
theorem not_bad {m : Mm} {n : Nd} {g : Int} (hc : ¬ (!(m.may && m.node n && (decide (g = -1) || m.inG g))) = true) : m.may = true ∧ m.node n = true ∧ (g = -1 ∨ m.inG g = true) := by
  have h : (m.may && m.node n && (decide (g = -1) || m.inG g)) = true := by
    cases h : (m.may && m.node n && (decide (g = -1) || m.inG g)) with
    | true => rfl
    | false => rw [h] at hc; exact absurd rfl hc
  simpa [and_assoc] using h
theorem put_lens (m : Mm) (n : Nd) (g : Int) : ((m.put n g).1.N.length = m.N.length ∧ (m.put n g).1.G.length = m.G.length ∧ (m.put n g).1.P.length = m.P.length) ∨
    (m.may = true ∧ (m.put n g).1.N.length = m.N.length + 1 ∧ (m.put n g).1.G.length = m.G.length + 1 ∧ (m.put n g).1.P.length ≤ m.P.length + 1) := by
  have hp := put_def m n g
  generalize m.put n g = r at hp ⊢
  split at hp
  · rw [hp]; exact .inl ⟨rfl, rfl, rfl⟩
  rename_i hc
  obtain ⟨h1, _, _⟩ := not_bad hc
  split at hp
  · split at hp
    · rw [hp]; exact .inl ⟨rfl, rfl, rfl⟩
    · obtain ⟨k1, k2, k3⟩ := merge_keep m g (m.look n).1
      rw [← hp] at k1 k2 k3
      exact .inl ⟨by rw [k1], by rw [k2], k3⟩
  · split at hp
    · rw [hp]; exact .inl ⟨rfl, rfl, rfl⟩
    · split at hp
      · rw [hp]; exact .inr ⟨h1, by simp, by simp, by simp⟩
      · rw [hp]; exact .inr ⟨h1, by simp, by simp, by simp⟩
def Mm.Few (m : Mm) : Prop := m.N.length ≤ 1000000 ∧ m.G.length ≤ 1000000 ∧ m.P.length ≤ 1000000
theorem put_few {m : Mm} (h : m.Few) (n : Nd) (g : Int) : (m.put n g).1.Few := by
  unfold Mm.Few at *
  rcases put_lens m n g with ⟨h1, h2, h3⟩ | ⟨hm, h1, h2, h3⟩
  · omega
  · have := form_small' (may_f hm)
    omega
theorem do0_def (m : Mm) (j : Jb) : m.do0 j = if j.mv then (if (m.do2 j).2.2 = 0 then (if (m.do3 j).2.2 = 0 then ((m.do3 j).1, 0) else (m, (m.do3 j).2.2)) else (m, (m.do2 j).2.2)) else ((m.do1 j).1, (m.do1 j).2.2) := rfl
theorem mem_jobs0 {m : Mm} {j : Jb} : j ∈ m.jobs0 ↔ ∃ e, e < m.N.length ∧ (m.N.getD e nd0).jn = true ∧ (j = ⟨false, e, 0⟩ ∨ ∃ f, f < m.N.length ∧ (m.N.getD f nd0).jn = true ∧ m.rg f = (rootsS m.P).getD (m.N.getD e nd0).a.toNat 0 ∧ j = ⟨true, e, f⟩) := by
  rw [Mm.jobs0, List.mem_flatMap]
  constructor
  · rintro ⟨e, he, hj⟩
    rw [List.mem_range] at he
    rw [jobsAt_def] at hj
    split at hj
    · rename_i hjn
      refine ⟨e, he, hjn, ?_⟩
      rcases List.mem_cons.1 hj with h | h
      · exact .inl h
      · rw [jobsTo, List.mem_map] at h
        obtain ⟨f, hf, rfl⟩ := h
        rw [List.mem_filter, List.mem_range, Bool.and_eq_true, decide_eq_true_eq] at hf
        exact .inr ⟨f, hf.1, hf.2.1, hf.2.2, rfl⟩
    · cases hj
  · rintro ⟨e, he, hjn, h⟩
    refine ⟨e, List.mem_range.2 he, ?_⟩
    rw [jobsAt_def, if_pos hjn]
    rcases h with rfl | ⟨f, hf, h1, h2, rfl⟩
    · exact .head _
    · refine List.mem_cons_of_mem _ ?_
      rw [jobsTo, List.mem_map]
      exact ⟨f, by rw [List.mem_filter, List.mem_range, Bool.and_eq_true, decide_eq_true_eq]; exact ⟨hf, h1, h2⟩, rfl⟩
theorem job_places {m : Mm} {j : Jb} (h : j ∈ m.jobs0) : 0 ≤ j.e ∧ j.e < m.N.length ∧ 0 ≤ j.f ∧ j.f < m.N.length := by
  obtain ⟨e, he, _, h⟩ := mem_jobs0.1 h
  rcases h with rfl | ⟨f, hf, _, _, rfl⟩
  · dsimp only; omega
  · dsimp only; omega
end Go.Sim
namespace Go.Sim
variable {P : Program}
theorem set_at (H : AH) (i : Nat) (o : AObj) : (H.set i o).obj i = some o := by show (if i = i then some o else H.obj i) = _; rw [if_pos rfl]
theorem set_off (H : AH) {i j : Nat} (o : AObj) (h : j ≠ i) : (H.set i o).obj j = H.obj j := by show (if j = i then some o else H.obj j) = _; rw [if_neg h]
theorem set_twice (H : AH) (i : Nat) (o o' : AObj) : (H.set i o).set i o' = H.set i o' := by
  refine ah_ext (fun j => ?_) rfl
  show (if j = i then some o' else if j = i then some o else H.obj j) = if j = i then some o' else H.obj j
  split <;> rfl
theorem set_as {H : AH} {i : Nat} {o : AObj} (h : H.obj i = some o) : H.set i o = H := by
  refine ah_ext (fun j => ?_) rfl
  show (if j = i then some o else H.obj j) = H.obj j
  split
  · rename_i e; rw [e, h]
  · rfl
theorem hsc_set {H : AH} (hs : HSc H) {i : Nat} {o : AObj} (hi : i < H.nxt) (ho : ScopedO H.nxt o) : HSc (H.set i o) := by
  intro j o' h
  by_cases hj : j = i
  · subst hj
    rw [set_at] at h
    injection h with h
    subst h
    exact ⟨hi, ho⟩
  · rw [set_off H o hj] at h
    exact hs j o' h
def NextB {σ : Type} (B : σ → AH) (inv : σ → Prop) (μ : σ → Nat) (Tf : σ → Tm) (Hf : σ → List (Option AObj)) (s : σ) (T' : Tm) (H' : AH) : Prop :=
  ∃ s' l' ps, H' = (B s').plus l' ∧ inv s' ∧ μ s' < μ s ∧ okPs ps = true ∧ SealT (piL (B s').nxt ps) ((B s').plus l') ((B s').plus (Hf s')) T' (Tf s') ∧ SealOsP (piL (B s').nxt ps) ((B s').plus l') ((B s').plus (Hf s')) l' ps (Hf s')
theorem nextb_at {σ : Type} {B : σ → AH} {inv : σ → Prop} {μ : σ → Nat} {Tf : σ → Tm} {Hf : σ → List (Option AObj)} {s : σ} {T' : Tm} {H' : AH} (ps : List (Option Nat)) (s' : σ) (l' : List (Option AObj)) (he : H' = (B s').plus l') (h1 : inv s') (h2 : μ s' < μ s) (hps : okPs ps = true)
    (h3 : SealT (piL (B s').nxt ps) ((B s').plus l') ((B s').plus (Hf s')) T' (Tf s')) (h4 : SealOsP (piL (B s').nxt ps) ((B s').plus l') ((B s').plus (Hf s')) l' ps (Hf s')) : NextB B inv μ Tf Hf s T' H' := ⟨s', l', ps, he, h1, h2, hps, h3, h4⟩
theorem loop_base {n0 : Nat} {σ : Type} (B : σ → AH) (inv : σ → Prop) (μ : σ → Nat) (Tf : σ → Tm) (Hf : σ → List (Option AObj)) (ps : List (Option Nat)) (s0 : σ) {c : Code} {Q : Exit → Tm → AH → Prop} {T : Tm} {l : List (Option AObj)} {H : AH}
    (hB : ∀ s, inv s → HSc (B s) ∧ (B s).nxt = n0) (hH : H = (B s0).plus l) (h0 : inv s0) (hps : okPs ps = true) (ht : SealT (piL (B s0).nxt ps) ((B s0).plus l) ((B s0).plus (Hf s0)) T (Tf s0)) (ho : SealOsP (piL (B s0).nxt ps) ((B s0).plus l) ((B s0).plus (Hf s0)) l ps (Hf s0))
    (hb : ∀ s, inv s → aw P n0 c (thn (NextB B inv μ Tf Hf s) Q) (Tf s) ((B s).plus (Hf s))) : ALoop n0 (aw P n0 c) Q T H := by
  subst hH
  have wk : ∀ s (T' : Tm) (l' : List (Option AObj)) ps, inv s → okPs ps = true → SealT (piL (B s).nxt ps) ((B s).plus l') ((B s).plus (Hf s)) T' (Tf s) → SealOsP (piL (B s).nxt ps) ((B s).plus l') ((B s).plus (Hf s)) l' ps (Hf s) →
      Weak (piL (B s).nxt ps) n0 T' ((B s).plus l') (Tf s) ((B s).plus (Hf s)) := fun s T' l' ps hi hp h1 h2 => by
    have := weak_plusP (hB s hi).1 ps hp h1 h2
    rwa [(hB s hi).2] at this ⊢
  refine ⟨fun n T' H' => ∃ s, inv s ∧ μ s = n ∧ T' = Tf s ∧ H' = (B s).plus (Hf s), μ s0, .inr (.inl ⟨_, _, _, wk s0 T l ps h0 hps ht ho, s0, h0, rfl, rfl, rfl⟩), ?_⟩
  rintro n T' H' ⟨s, h1, rfl, rfl, rfl⟩
  refine aw_mono _ _ _ _ _ (fun e T' H' he => ?_) (hb s h1)
  cases e with
  | normal =>
    obtain ⟨s', l', ps', rfl, h2, h3, h6, h4, h5⟩ := he
    exact ⟨μ s', h3, .inr (.inl ⟨_, _, _, wk s' _ _ _ h2 h6 h4 h5, s', h2, rfl, rfl, rfl⟩)⟩
  | exit id => exact .inl he
  | goto l => exact .inl he
  | ret => exact .inl he
  | panic ch => exact .inl he
  | outgrown => exact .inl he
theorem retb {n0 : Nat} {H D : AH} (hs : HSc D) (hn : D.nxt = n0) {K : AV → AH → Prop} {v : AV} {φ : Prop} {l l' : List (Option AObj)} (ps : List (Option Nat)) (r' : AV) (hH : H = D.plus l) (hφ : φ) (h : K r' (D.plus l')) (hps : okPs ps = true)
    (ht : Seal (piL D.nxt ps) (D.plus l) (D.plus l') v r') (ho : SealOsP (piL D.nxt ps) (D.plus l) (D.plus l') l ps l') : kfin H H K n0 (φ, v) := by
  subst hH hn
  exact retp hs ps r' hφ h hps ht ho
end Go.Sim
namespace Go.Sim
def jobD : Jb := ⟨false, 0, 0⟩
def leftJ (m : Mm) (done : List Jb) : List Jb := m.jobs0.filter fun x => !(done.any fun j => eqJ x j)
def pickAt (picks : List Int) (n : Nat) : Nat := match picks with | [] => 0 | x :: _ => (max x 0 % n).toNat
def nextJ (m : Mm) (done : List Jb) (picks : List Int) : Jb × Bool × List Int :=
  if leftJ m done = [] then (jobD, false, picks) else ((leftJ m done).getD (pickAt picks (leftJ m done).length) jobD, true, picks.drop 1)
def runF : Nat → Mm → List Jb → List Int → Mm × Int × Int
  | 0, m, done, _ => (m, done.length, 0)
  | f + 1, m, done, picks =>
    if (nextJ m done picks).2.1 then
      (if (m.do0 (nextJ m done picks).1).2 = 0 then runF f (m.do0 (nextJ m done picks).1).1 (done ++ [(nextJ m done picks).1]) (nextJ m done picks).2.2
       else (m, done.length, (m.do0 (nextJ m done picks).1).2))
    else (m, done.length, 0)
theorem pickAt_lt {picks : List Int} {n : Nat} (h : 0 < n) : pickAt picks n < n := by
  unfold pickAt
  split
  · exact h
  · rename_i x _
    have h1 := Int.emod_nonneg (max x 0) (show (n : Int) ≠ 0 by omega)
    have h2 := Int.emod_lt_of_pos (max x 0) (show (0 : Int) < n by omega)
    omega
theorem next_left {m : Mm} {done : List Jb} {picks : List Int} (h : (nextJ m done picks).2.1 = true) : (nextJ m done picks).1 ∈ leftJ m done := by
  unfold nextJ at h ⊢
  split at h
  · cases h
  · rename_i hn
    rw [if_neg hn]
    dsimp only
    have hl : 0 < (leftJ m done).length := List.length_pos_iff.2 hn
    have hp := pickAt_lt (picks := picks) hl
    rw [List.getD_eq_getElem?_getD, List.getElem?_eq_getElem hp]
    exact List.getElem_mem hp
theorem mem_left {m : Mm} {done : List Jb} {j : Jb} : j ∈ leftJ m done ↔ j ∈ m.jobs0 ∧ j ∉ done := by
  unfold leftJ
  rw [List.mem_filter]
  constructor
  · rintro ⟨h1, h2⟩
    refine ⟨h1, fun h => ?_⟩
    rw [show (done.any fun k => eqJ j k) = true from List.any_eq_true.2 ⟨j, h, eqJ_iff.2 rfl⟩] at h2
    cases h2
  · rintro ⟨h1, h2⟩
    refine ⟨h1, ?_⟩
    rw [Bool.not_eq_true', List.any_eq_false]
    intro k hk he
    exact h2 (eqJ_iff.1 he ▸ hk)
def Mm.run (m : Mm) (picks : List Int) : Mm × Int × Int := if m.may then runF 320001 m [] picks else (m, 0, 1)
end Go.Sim
namespace Go.Sim
theorem mergeF_form : ∀ (f : Nat) {m : Mm} (a b : Int), m.form = true → (mergeF f m a b).form = true
  | 0, m, a, b, h => h
  | f + 1, m, a, b, h => by
    cases ho : (m.joined a b).openM with
    | none => rw [mergeF_end ho]; exact joined_form h a b
    | some x => rw [mergeF_more ho]; exact mergeF_form f _ _ (joined_form h a b)
theorem mayS_push {p : List Int} (h : mayS p = true) (hl : p.length < 400) : mayS (p ++ [(p.length : Int)]) = true := by
  rw [mayS_iff] at h ⊢
  refine ⟨fun i hi => ?_, by simp; omega⟩
  rw [List.length_append, List.length_cons, List.length_nil] at hi
  rw [List.getD_eq_getElem?_getD]
  by_cases hlt : i < p.length
  · rw [List.getElem?_append_left hlt, ← List.getD_eq_getElem?_getD]
    exact h.1 i hlt
  · obtain rfl : i = p.length := by omega
    rw [List.getElem?_append_right (Nat.le_refl _)]
    simp
theorem inG_more {m k : Mm} (h : m.P.length ≤ k.P.length) {g : Int} (hg : m.inG g = true) : k.inG g = true := by
  rw [Mm.inG, Bool.and_eq_true, decide_eq_true_eq, decide_eq_true_eq] at hg ⊢
  omega
theorem node_more {m k : Mm} (h : m.P.length ≤ k.P.length) {n : Nd} (hn : m.node n = true) : k.node n = true := by
  rw [Mm.node] at hn ⊢
  split at hn
  · rename_i hj
    rw [if_pos hj]
    simp only [Bool.and_eq_true] at hn ⊢
    exact ⟨⟨hn.1.1, inG_more h hn.1.2⟩, inG_more h hn.2⟩
  · rename_i hj
    rw [if_neg hj]
    exact hn
theorem push_form {m : Mm} (h : m.form = true) (hN : m.N.length ≠ 400) {n : Nd} (hn : m.node n = true) {g : Int} {p : List Int} (hp : mayS p = true) (hpl : m.P.length ≤ p.length) (hg : 0 ≤ g ∧ g < p.length) : (Mm.mk (m.N ++ [n]) (m.G ++ [g]) p).form = true := by
  rw [form_def] at h ⊢
  obtain ⟨h1, h2, h3, h4, h5⟩ := h
  refine ⟨hp, by simp; omega, by simp; omega, fun x hx => ?_, fun x hx => ?_⟩
  · rcases List.mem_append.1 hx with hx | hx
    · exact inG_more (k := ⟨m.N ++ [n], m.G ++ [g], p⟩) hpl (h4 x hx)
    · obtain rfl := List.mem_singleton.1 hx
      rw [Mm.inG, Bool.and_eq_true, decide_eq_true_eq, decide_eq_true_eq]
      exact hg
  · rcases List.mem_append.1 hx with hx | hx
    · exact node_more (k := ⟨m.N ++ [n], m.G ++ [g], p⟩) hpl (h5 x hx)
    · obtain rfl := List.mem_singleton.1 hx
      exact node_more (k := ⟨m.N ++ [x], m.G ++ [g], p⟩) hpl hn
theorem put_form {m : Mm} (h : m.form = true) (n : Nd) (g : Int) : (m.put n g).1.form = true := by
  have hp := put_def m n g
  generalize m.put n g = r at hp ⊢
  split at hp
  · rw [hp]; exact h
  rename_i hc
  obtain ⟨h1, h2, h3⟩ := not_bad hc
  split at hp
  · split at hp
    · rw [hp]; exact h
    · rw [hp]
      unfold Mm.merge
      split
      · exact mergeF_form _ _ _ h
      · exact h
  · split at hp
    · rw [hp]; exact h
    · rename_i hfull
      have hm := ((form_def m).1 h).1
      split at hp
      · rename_i hg
        rw [hp]
        have hP : m.P.length < 400 := by
          have := mayS_max hm
          omega
        exact push_form h (by omega) h2 (mayS_push hm hP) (by simp) (by simp; omega)
      · rename_i hg
        rw [hp]
        have hi := h3.resolve_left hg
        rw [Mm.inG, Bool.and_eq_true, decide_eq_true_eq, decide_eq_true_eq] at hi
        exact push_form h (by omega) h2 hm (Nat.le_refl _) hi
theorem do0_form {m : Mm} (h : m.form = true) (j : Jb) : (m.do0 j).1.form = true := by
  rw [do0_def]
  split
  · split
    · split
      · exact put_form (put_form h _ _) _ _
      · exact h
    · exact h
  · exact put_form h _ _
def jobNo (j : Jb) : Nat := (if j.mv then 160000 else 0) + j.e.toNat * 400 + j.f.toNat
def okJob (j : Jb) : Prop := 0 ≤ j.e ∧ j.e < 400 ∧ 0 ≤ j.f ∧ j.f < 400
theorem jobNo_lt {j : Jb} (h : okJob j) : jobNo j < 320000 := by
  obtain ⟨h1, h2, h3, h4⟩ := h
  unfold jobNo
  split <;> omega
theorem jobNo_inj {j k : Jb} (hj : okJob j) (hk : okJob k) (h : jobNo j = jobNo k) : j = k := by
  obtain ⟨h1, h2, h3, h4⟩ := hj
  obtain ⟨k1, k2, k3, k4⟩ := hk
  obtain ⟨a, b, c⟩ := j
  obtain ⟨d, e, f⟩ := k
  unfold jobNo at h
  dsimp only at *
  have hab : a = d := by
    cases a <;> cases d <;> first | rfl | (simp only [if_true, Bool.false_eq_true, if_false] at h; omega)
  subst hab
  have : b = e ∧ c = f := by split at h <;> omega
  rw [this.1, this.2]
theorem left_ok {m : Mm} (hf : m.form = true) {done : List Jb} {j : Jb} (h : j ∈ leftJ m done) : okJob j := by
  have h1 := job_places (mem_left.1 h).1
  have h2 := ((form_def m).1 hf).2.2.1
  unfold okJob
  omega
theorem nodup_lt : ∀ (n : Nat) (l : List Nat), l.Nodup → (∀ x ∈ l, x < n) → l.length ≤ n
  | 0, l, _, h => by
    cases l with
    | nil => simp
    | cons x l => exact absurd (h x (.head _)) (by omega)
  | n + 1, l, hn, h => by
    have h1 := nodup_lt n (l.filter fun x => decide (x ≠ n)) (hn.filter _) (fun x hx => by
      rw [List.mem_filter, decide_eq_true_eq] at hx
      have := h x hx.1
      omega)
    have h2 : l.length ≤ (l.filter fun x => decide (x ≠ n)).length + 1 := by
      clear h h1
      induction l with
      | nil => simp
      | cons x l ih =>
        rw [List.nodup_cons] at hn
        rw [List.filter_cons]
        by_cases hx : x = n
        · subst hx
          rw [if_neg (by simp), List.filter_eq_self.2 (fun y hy => by rw [decide_eq_true_eq]; exact fun e => hn.1 (e ▸ hy))]
          simp
        · rw [if_pos (by simpa using hx)]
          have := ih hn.2
          simp only [List.length_cons]
          omega
    omega
theorem done_few {l : List Jb} (hn : l.Nodup) (h : ∀ j ∈ l, okJob j) : l.length ≤ 320000 := by
  have h1 := nodup_lt 320000 (l.map jobNo) ?_ (fun x hx => by obtain ⟨j, hj, rfl⟩ := List.mem_map.1 hx; exact jobNo_lt (h j hj))
  · rwa [List.length_map] at h1
  · skip
    induction l with
    | nil => exact List.nodup_nil
    | cons j l ih =>
      rw [List.nodup_cons] at hn
      rw [List.map_cons, List.nodup_cons]
      refine ⟨fun hm => ?_, ih hn.2 fun k hk => h k (.tail _ hk)⟩
      obtain ⟨k, hk, he⟩ := List.mem_map.1 hm
      exact hn.1 (jobNo_inj (h k (.tail _ hk)) (h j (.head _)) he ▸ hk)
end Go.Sim
namespace Go.Sim
def stM (n i : Nat) : Mm := ⟨((List.range n).map fun (k : Nat) => ⟨false, k, 0, 0⟩) ++ (List.range i).map fun (k : Nat) => ndJ (if k = 0 then 0 else (n + k - 1 : Nat)) (k + 1 : Nat), (List.range (n + i)).map fun (k : Nat) => (k : Int), (List.range (n + i)).map fun (k : Nat) => (k : Int)⟩
def lastM (n i : Nat) : Int := if i = 0 then 0 else (n + i - 1 : Nat)
def start (n : Int) : Mm × Int × Bool := if 1 ≤ n ∧ n ≤ 4 then (stM n.toNat (n.toNat - 1), lastM n.toNat (n.toNat - 1), true) else (⟨[], [], []⟩, -1, false)
theorem start_leaf : ∀ k, k < 4 → (stM k 0).put ⟨false, k, 0, 0⟩ (-1) = (stM (k + 1) 0, (k : Int), 0)
  | 0, _ => by kernel_rfl
  | 1, _ => by kernel_rfl
  | 2, _ => by kernel_rfl
  | 3, _ => by kernel_rfl
  | k + 4, h => by omega
theorem start_join : ∀ n i, n ≤ 4 → i + 1 < n → (stM n i).put (ndJ (lastM n i) (i + 1 : Nat)) (-1) = (stM n (i + 1), lastM n (i + 1), 0)
  | 2, 0, _, _ => by kernel_rfl
  | 3, 0, _, _ => by kernel_rfl
  | 3, 1, _, _ => by kernel_rfl
  | 4, 0, _, _ => by kernel_rfl
  | 4, 1, _, _ => by kernel_rfl
  | 4, 2, _, _ => by kernel_rfl
  | 0, i, _, h => by omega
  | 1, i, _, h => by omega
  | 2, i + 1, _, h => by omega
  | 3, i + 2, _, h => by omega
  | 4, i + 3, _, h => by omega
  | n + 5, i, h, _ => by omega
theorem stM_small (n i : Nat) (hn : n ≤ 4) (hi : i ≤ 4) : (stM n i).Few := by
  unfold Mm.Few stM
  simp
  omega
end Go.Sim
namespace Go.Sim
inductive Tr where
  | mk (occ : Int) (l : List Tr)
theorem Tr.ind {p : Tr → Prop} (h : ∀ o l, (∀ x ∈ l, p x) → p (.mk o l)) : ∀ t, p t
  | .mk o l => h o l fun x hx => Tr.ind h x
termination_by t => SizeOf.sizeOf t
inductive Tr.Ok : Tr → Prop
  | mk {o : Int} {l : List Tr} (h1 : l.length ≤ 140737488355328) (h2 : ∀ x ∈ l, x.Ok) : Tr.Ok (.mk o l)
def Tr.occ : Tr → Int | .mk o _ => o
def Tr.l : Tr → List Tr | .mk _ l => l
def Tr.leaf (o : Int) : Tr := .mk o []
def Tr.join (a b : Tr) : Tr := .mk 0 [a, b]
def trO : Tr := .mk 0 []
def setT : Nat → Tr → Int × Bool
  | 0, _ => (0, false)
  | d + 1, .mk o l =>
    match l with
    | [] => (2 ^ (max (o.tmod 4) 0).toNat, decide (0 ≤ o) && decide (o < 4))
    | [a, b] => if o = 0 then (bor .i64 (setT d a).1 (setT d b).1, (setT d a).2 && (setT d b).2 && decide (band .i64 (setT d a).1 (setT d b).1 = 0)) else (0, false)
    | _ => (0, false)
theorem setT_nil (d : Nat) (o : Int) : setT (d + 1) (.mk o []) = (2 ^ (max (o.tmod 4) 0).toNat, decide (0 ≤ o) && decide (o < 4)) := rfl
theorem setT_two (d : Nat) (o : Int) (a b : Tr) : setT (d + 1) (.mk o [a, b]) = if o = 0 then (bor .i64 (setT d a).1 (setT d b).1, (setT d a).2 && (setT d b).2 && decide (band .i64 (setT d a).1 (setT d b).1 = 0)) else (0, false) := rfl
theorem setT_one (d : Nat) (o : Int) (a : Tr) : setT (d + 1) (.mk o [a]) = (0, false) := rfl
theorem setT_more (d : Nat) (o : Int) (a b c : Tr) (l : List Tr) : setT (d + 1) (.mk o (a :: b :: c :: l)) = (0, false) := rfl
def Tr.may (t : Tr) : Bool := (setT 4 t).2
def Tr.set (t : Tr) : Int := if t.may then (setT 4 t).1 else 0
theorem tmod4 (o : Int) : 0 ≤ max (o.tmod 4) 0 ∧ max (o.tmod 4) 0 ≤ 3 := by
  have h1 := Int.tmod_lt_of_pos o (show (0 : Int) < 4 by decide)
  omega
theorem pow2_cases {n : Nat} (h : n ≤ 3) : (2 : Int) ^ n = 1 ∨ (2 : Int) ^ n = 2 ∨ (2 : Int) ^ n = 4 ∨ (2 : Int) ^ n = 8 := by
  have hc : n = 0 ∨ n = 1 ∨ n = 2 ∨ n = 3 := by omega
  rcases hc with rfl | rfl | rfl | rfl <;> decide
theorem bor16 {a b : Int} (a0 : 0 ≤ a) (a1 : a ≤ 15) (b0 : 0 ≤ b) (b1 : b ≤ 15) : 0 ≤ bor .i64 a b ∧ bor .i64 a b ≤ 15 ∧ (band .i64 a b = 0 → bor .i64 a b = a + b) := by
  obtain ⟨i, rfl⟩ : ∃ i : Fin 16, a = (i.val : Int) := ⟨⟨a.toNat, by omega⟩, by simp; omega⟩
  obtain ⟨j, rfl⟩ : ∃ j : Fin 16, b = (j.val : Int) := ⟨⟨b.toNat, by omega⟩, by simp; omega⟩
  clear a0 a1 b0 b1
  revert i j
  decide +kernel
theorem setT_range : ∀ (d : Nat) (t : Tr), 0 ≤ (setT d t).1 ∧ (setT d t).1 ≤ 15
  | 0, _ => by simp [setT]
  | d + 1, .mk o [] => by
    rw [setT_nil]
    have h := tmod4 o
    have := pow2_cases (n := (max (o.tmod 4) 0).toNat) (by omega)
    dsimp only
    omega
  | d + 1, .mk o [a, b] => by
    rw [setT_two]
    split
    · have ha := setT_range d a
      have hb := setT_range d b
      have := bor16 ha.1 ha.2 hb.1 hb.2
      exact ⟨this.1, this.2.1⟩
    · simp
  | d + 1, .mk o [a] => by rw [setT_one]; simp
  | d + 1, .mk o (a :: b :: c :: l) => by rw [setT_more]; simp
def lvsT : Nat → Tr → List Int × Bool
  | 0, _ => ([], false)
  | d + 1, .mk o l =>
    match l with
    | [] => ([o], decide (0 ≤ o) && decide (o ≤ 3))
    | [a, b] => if o = 0 then ((lvsT d a).1 ++ (lvsT d b).1, (lvsT d a).2 && (lvsT d b).2) else ([], false)
    | _ => ([], false)
theorem lvsT_nil (d : Nat) (o : Int) : lvsT (d + 1) (.mk o []) = ([o], decide (0 ≤ o) && decide (o ≤ 3)) := rfl
theorem lvsT_two (d : Nat) (o : Int) (a b : Tr) : lvsT (d + 1) (.mk o [a, b]) = if o = 0 then ((lvsT d a).1 ++ (lvsT d b).1, (lvsT d a).2 && (lvsT d b).2) else ([], false) := rfl
theorem lvsT_one (d : Nat) (o : Int) (a : Tr) : lvsT (d + 1) (.mk o [a]) = ([], false) := rfl
theorem lvsT_more (d : Nat) (o : Int) (a b c : Tr) (l : List Tr) : lvsT (d + 1) (.mk o (a :: b :: c :: l)) = ([], false) := rfl
def sumB (l : List Int) : Int := (l.map fun o => (2 : Int) ^ o.toNat).foldr (· + ·) 0
theorem sumB_append (l m : List Int) : sumB (l ++ m) = sumB l + sumB m := by
  unfold sumB
  induction l with
  | nil => simp
  | cons x l ih => simp only [List.cons_append, List.map_cons, List.foldr_cons, ih]; omega
theorem lvsT_range : ∀ (d : Nat) (t : Tr), (lvsT d t).2 = true → ∀ o ∈ (lvsT d t).1, 0 ≤ o ∧ o ≤ 3
  | 0, _, h => by simp [lvsT] at h
  | d + 1, .mk o [], h => by
    rw [lvsT_nil] at h ⊢
    intro x hx
    simp only [Bool.and_eq_true, decide_eq_true_eq] at h
    simp only [List.mem_singleton] at hx
    subst hx
    exact h
  | d + 1, .mk o [a, b], h => by
    rw [lvsT_two] at h ⊢
    by_cases ho : o = 0
    · rw [if_pos ho] at h ⊢
      simp only [Bool.and_eq_true] at h
      intro x hx
      rw [List.mem_append] at hx
      rcases hx with hx | hx
      · exact lvsT_range d a h.1 x hx
      · exact lvsT_range d b h.2 x hx
    · rw [if_neg ho] at h
      cases h
  | d + 1, .mk o [a], h => by rw [lvsT_one] at h; cases h
  | d + 1, .mk o (a :: b :: c :: l), h => by rw [lvsT_more] at h; cases h
theorem bits16 {a b : Int} (a0 : 0 ≤ a) (a1 : a ≤ 15) (b0 : 0 ≤ b) (b1 : b ≤ 15) : band .i64 a b = 0 ↔ ∀ k : Nat, k < 4 → ¬ (bitI a k = true ∧ bitI b k = true) := by
  obtain ⟨i, rfl⟩ : ∃ i : Fin 16, a = (i.val : Int) := ⟨⟨a.toNat, by omega⟩, by simp; omega⟩
  obtain ⟨j, rfl⟩ : ∃ j : Fin 16, b = (j.val : Int) := ⟨⟨b.toNat, by omega⟩, by simp; omega⟩
  clear a0 a1 b0 b1
  revert i j
  decide +kernel
theorem leaf_bits (o : Int) (h0 : 0 ≤ o) (h1 : o < 4) : (2 : Int) ^ (max (o.tmod 4) 0).toNat = sumB [o] ∧ ∀ k : Nat, k < 4 → (bitI ((2 : Int) ^ (max (o.tmod 4) 0).toNat) k = true ↔ (k : Int) = o) := by
  obtain ⟨i, rfl⟩ : ∃ i : Fin 4, o = (i.val : Int) := ⟨⟨o.toNat, by omega⟩, by simp; omega⟩
  clear h0 h1
  revert i
  decide +kernel
theorem set_lvs : ∀ (d : Nat) (t : Tr), ((setT d t).2 = true ↔ (lvsT d t).2 = true ∧ (lvsT d t).1.Nodup) ∧
    ((setT d t).2 = true → (setT d t).1 = sumB (lvsT d t).1 ∧ ∀ k : Nat, k < 4 → (bitI (setT d t).1 k = true ↔ (k : Int) ∈ (lvsT d t).1))
  | 0, t => by simp [setT, lvsT]
  | d + 1, .mk o [] => by
      rw [setT_nil, lvsT_nil]
      refine ⟨?_, fun h => ?_⟩
      · simp only [Bool.and_eq_true, decide_eq_true_eq, List.nodup_cons, List.not_mem_nil, not_false_eq_true, List.nodup_nil, and_self, and_true]
        omega
      · simp only [Bool.and_eq_true, decide_eq_true_eq] at h
        have := leaf_bits o h.1 h.2
        exact ⟨this.1, fun k hk => by rw [this.2 k hk, List.mem_singleton]⟩
  | d + 1, .mk o [a, b] => by
      rw [setT_two, lvsT_two]
      by_cases ho : o = 0
      · simp only [if_pos ho]
        obtain ⟨ha1, ha2⟩ := set_lvs d a
        obtain ⟨hb1, hb2⟩ := set_lvs d b
        have ra := setT_range d a
        have rb := setT_range d b
        have la := lvsT_range d a
        have lb := lvsT_range d b
        have hbits := bits16 ra.1 ra.2 rb.1 rb.2
        have key : (setT d a).2 = true → (setT d b).2 = true → (band .i64 (setT d a).1 (setT d b).1 = 0 ↔ ∀ x ∈ (lvsT d a).1, ∀ y ∈ (lvsT d b).1, x ≠ y) := by
          intro h1 h2
          rw [hbits]
          have ka := (ha2 h1).2
          have kb := (hb2 h2).2
          have la' := la (ha1.1 h1).1
          constructor
          · intro h x hx y hy e
            subst e
            obtain ⟨k, rfl⟩ : ∃ k : Nat, x = k := ⟨x.toNat, by have := la' x hx; omega⟩
            have hk : k < 4 := by have := la' k hx; omega
            exact h k hk ⟨(ka k hk).2 hx, (kb k hk).2 hy⟩
          · intro h k hk hh
            exact h k ((ka k hk).1 hh.1) k ((kb k hk).1 hh.2) rfl
        refine ⟨?_, fun h => ?_⟩
        · simp only [Bool.and_eq_true, decide_eq_true_eq, List.nodup_append]
          constructor
          · rintro ⟨⟨h1, h2⟩, h3⟩
            exact ⟨⟨(ha1.1 h1).1, (hb1.1 h2).1⟩, (ha1.1 h1).2, (hb1.1 h2).2, (key h1 h2).1 h3⟩
          · rintro ⟨⟨h1, h2⟩, h3, h4, h5⟩
            have e1 := ha1.2 ⟨h1, h3⟩
            have e2 := hb1.2 ⟨h2, h4⟩
            exact ⟨⟨e1, e2⟩, (key e1 e2).2 h5⟩
        · simp only [Bool.and_eq_true, decide_eq_true_eq] at h
          obtain ⟨⟨h1, h2⟩, h3⟩ := h
          have hs := (bor16 ra.1 ra.2 rb.1 rb.2).2.2 h3
          refine ⟨by rw [hs, sumB_append, (ha2 h1).1, (hb2 h2).1], fun k hk => ?_⟩
          rw [bor_bit _ _ k hk, Bool.or_eq_true, List.mem_append, (ha2 h1).2 k hk, (hb2 h2).2 k hk]
      · simp [if_neg ho]
  | d + 1, .mk o [a] => by rw [setT_one, lvsT_one]; simp
  | d + 1, .mk o (a :: b :: c :: l) => by rw [setT_more, lvsT_more]; simp
end Go.Sim
namespace Go.Sim
variable {P : Program}
def NextR (I : Nat → Tm → AH → Prop) (n : Nat) (T : Tm) (H : AH) : Prop := ∃ n', n' < n ∧ I n' T H
theorem loop_raw {n0 : Nat} (I : Nat → Tm → AH → Prop) (n : Nat) {c : Code} {Q : Exit → Tm → AH → Prop} {T : Tm} {H : AH} (h0 : I n T H)
    (hb : ∀ n T H, I n T H → aw P n0 c (thn (NextR I n) Q) T H) : ALoop n0 (aw P n0 c) Q T H := by
  refine ⟨I, n, .inl h0, fun n T H h1 => ?_⟩
  refine aw_mono _ _ _ _ _ (fun e T' H' he => ?_) (hb n T H h1)
  cases e with
  | normal =>
    obtain ⟨n', h2, h3⟩ := he
    exact ⟨n', h2, .inl h3⟩
  | exit id => exact .inl he
  | goto l => exact .inl he
  | ret => exact .inl he
  | panic ch => exact .inl he
  | outgrown => exact .inl he
def SameE (ex : List Nat) (D D' : AH) : Prop := Lw D' ∧ D.nxt ≤ D'.nxt ∧ ∀ k, k < D.nxt → k ∉ ex → D'.obj k = D.obj k
theorem SameE.refl {ex : List Nat} {D : AH} (h : Lw D) : SameE ex D D := ⟨h, Nat.le_refl _, fun _ _ _ => rfl⟩
theorem SameE.trans {e1 e2 e3 : List Nat} {A B C : AH} (h1 : SameE e1 A B) (h2 : SameE e2 B C) (h3 : ∀ k, k < A.nxt → k ∉ e3 → k ∉ e1 ∧ k ∉ e2) : SameE e3 A C :=
  ⟨h2.1, Nat.le_trans h1.2.1 h2.2.1, fun k hk he => by
    obtain ⟨k1, k2⟩ := h3 k hk he
    rw [h2.2.2 k (Nat.lt_of_lt_of_le hk h1.2.1) k2, h1.2.2 k hk k1]⟩
theorem SameE.plus {ex : List Nat} {D D' : AH} (h : SameE ex D D') (l : List (Option AObj)) : SameE ex D (D'.plus l) :=
  ⟨lw_plus _ _, Nat.le_trans h.2.1 (by rw [plus_nxt]; exact Nat.le_add_right _ _), fun k hk he => by rw [plus_low D' l (Nat.lt_of_lt_of_le hk h.2.1), h.2.2 k hk he]⟩
theorem lw_set {D : AH} (h : Lw D) {i : Nat} {o : AObj} (hi : i < D.nxt) : Lw (D.set i o) := fun j x hx => by
  by_cases e : j = i
  · rw [e]; exact hi
  · rw [set_off D o e] at hx; exact h j x hx
theorem SameE.set {ex : List Nat} {D D' : AH} (h : SameE ex D D') {i : Nat} {o : AObj} (hi : i < D'.nxt) (he : i ∈ ex ∨ D.nxt ≤ i) : SameE ex D (D'.set i o) :=
  ⟨lw_set h.1 hi, h.2.1, fun k hk hx => by
    rw [set_off D' o (fun e => by subst e; rcases he with he | he; exact hx he; omega), h.2.2 k hk hx]⟩
def HasT (T : Tm) (TT : List (Nat × AV)) : Prop := ∀ p ∈ TT, tget T p.1 = p.2
theorem HasT.nil (T : Tm) : HasT T [] := fun p hp => by cases hp
theorem HasT.cons {T : Tm} {k : Nat} {v : AV} {l : List (Nat × AV)} (h1 : tget T k = v) (h2 : HasT T l) : HasT T ((k, v) :: l) := fun p hp => by
  rcases List.mem_cons.1 hp with rfl | h
  · exact h1
  · exact h2 p h
theorem hasT_nil {T : Tm} : HasT T [] = True := eq_true (HasT.nil T)
theorem hasT_cons {T : Tm} {k : Nat} {v : AV} {l : List (Nat × AV)} : HasT T ((k, v) :: l) = (tget T k = v ∧ HasT T l) :=
  propext ⟨fun h => ⟨h _ (.head _), fun p hp => h p (.tail _ hp)⟩, fun h => h.2.cons h.1⟩
theorem same_plus {H D : AH} (h : Lw H) (hs : SameE [] H D) : ∃ l, D = H.plus l := by
  refine ⟨(List.range (D.nxt - H.nxt)).map fun k => D.obj (H.nxt + k), ah_ext (fun j => ?_) ?_⟩
  · rw [plus_obj']
    split
    · rename_i hj; exact hs.2.2 j hj (by simp)
    · rename_i hj
      rw [List.getElem?_map]
      by_cases hj2 : j - H.nxt < D.nxt - H.nxt
      · rw [List.getElem?_range hj2]
        simp only [Option.map_some, Option.join_some]
        congr 1; omega
      · rw [List.getElem?_eq_none (by simpa using hj2)]
        cases h1 : D.obj j with
        | none => rfl
        | some o => have := hs.1 j o h1; omega
  · rw [plus_nxt, List.length_map, List.length_range]
    have := hs.2.1
    omega
end Go.Sim
namespace Go.Sim
open Go.Sort (grow putRow putCells mapBlock onCells)
def rowStr (ss : List (List UInt8)) : List (List AV) := ss.map fun s => [AV.lit (Go.Proofs.encStr s)]
variable {P : Program} {ρ : Nat → Option Nat} {H : AH} {w : World}
theorem rep_rowS {zs : List (List UInt8)} {xss : List (List Value)} (h : RepLL ρ H w (rowStr zs) xss) : xss = zs.map fun n => [Go.Proofs.encStr n] := by
  induction zs generalizing xss with
  | nil => simpa [rowStr, RepLL] using h
  | cons z zs ih =>
    simp only [rowStr, List.map_cons, RepLL, RepL, Rep] at h
    obtain ⟨y, ys, rfl, ⟨y', ys', rfl, rfl, rfl⟩, h2⟩ := h
    rw [ih h2]
    rfl
theorem rowS_rep (ρ : Nat → Option Nat) (H : AH) (w : World) (zs : List (List UInt8)) : RepLL ρ H w (rowStr zs) (zs.map fun n => [Go.Proofs.encStr n]) := by
  induction zs with
  | nil => simp only [rowStr, List.map_nil, RepLL]
  | cons z zs ih =>
    simp only [rowStr, List.map_cons, RepLL, RepL, Rep]
    exact ⟨_, _, rfl, ⟨_, _, rfl, rfl, rfl⟩, ih⟩
theorem put_rowS (hh : Holds ρ H w) {i b n : Nat} {zs ns : List (List UInt8)} {os : Array Obj} (ho : H.obj i = some (.cells 1 (rowStr zs) 0)) (hb : ρ i = some b) (hl : ns.length = zs.length) :
    Holds ρ (H.set i (.cells 1 (rowStr ns) 0)) (grow (putRow Go.Proofs.encStr (Sort.ahead w n) b 0 ns.toArray) os) ∧ Ext ρ H w ρ (H.set i (.cells 1 (rowStr ns) 0)) (grow (putRow Go.Proofs.encStr (Sort.ahead w n) b 0 ns.toArray) os) := by
  rcases hh.obj i _ ho with ⟨b', ccs, t, xss, k1, k2, k3, k4, k5, k6, k7⟩ | ⟨k1, _⟩
  · rw [hb] at k1
    injection k1 with k1
    subst k1
    have hx := rep_rowS k4
    subst hx
    have hroom : zs.length ≤ ccs.size := by simpa [rowStr] using k6
    have hW : Wrote ρ H w ρ (H.set i (.cells 1 (rowStr ns) 0)) i i b 1 0 (rowStr zs) (rowStr ns) ccs (putCells Go.Proofs.encStr 0 ns.toArray ccs) t (ns.map fun n => [Go.Proofs.encStr n]) := {
      ho := ho
      hb := hb
      hw := k2
      ho' := by simp [AH.set]
      hk := .inl rfl
      hρk := hb
      hρ := fun _ _ => rfl
      hρ' := fun j b' hj => .inr hj
      other := fun j o hj hne => by simp only [AH.set] at hj; rw [if_neg hne] at hj; exact ⟨hj, hne⟩
      nxt := Nat.le_refl _
      klt := hh.lt i _ ho
      size := by simp [putCells]
      low := fun j hj => by omega
      rep := rowS_rep _ _ _ _
      len := by simp [rowStr]
      fz := Nat.zero_le _
      room := by simp only [rowStr, List.length_map, Nat.mul_one]; omega
      at_ := fun j l xs v hxs hv => by
        rw [List.getElem?_map] at hxs
        cases hj : ns[j]? with
        | none => rw [hj] at hxs; cases hxs
        | some m =>
          rw [hj] at hxs
          simp only [Option.map_some, Option.some.injEq] at hxs
          subst hxs
          have hjl := (List.getElem?_eq_some_iff.1 hj).1
          cases l with
          | succ l => simp at hv
          | zero =>
            simp only [List.getElem?_cons_zero, Option.some.injEq] at hv
            subst hv
            have hjc : j < ccs.size := by omega
            have hg : ns[j]! = m := by rw [List.getElem!_eq_getElem?_getD, hj]; rfl
            simp [putCells, hjc, hjl, hg]
            have := (List.getElem?_eq_some_iff.1 hj).2
            exact this }
    have h1 := hW.holds hh
    have h2 := hW.ext hh
    have hbl : b < w.heap.size := (Array.getElem?_eq_some_iff.1 k2).1
    have hsz : (w.setRow b (putCells Go.Proofs.encStr 0 ns.toArray ccs)).heap.size = w.heap.size := by
      unfold World.setRow
      simp
    have hg : ∀ k, k < (w.setRow b (putCells Go.Proofs.encStr 0 ns.toArray ccs)).heap.size → (grow (putRow Go.Proofs.encStr (Sort.ahead w n) b 0 ns.toArray) os).heap[k]? = (w.setRow b (putCells Go.Proofs.encStr 0 ns.toArray ccs)).heap[k]? := by
      intro k hk
      rw [hsz] at hk
      have e1 : (grow (putRow Go.Proofs.encStr (Sort.ahead w n) b 0 ns.toArray) os).heap[k]? = (w.heap.modify b (onCells (putCells Go.Proofs.encStr 0 ns.toArray)))[k]? := by
        simp only [grow, putRow, mapBlock, Sort.ahead]
        rw [Array.getElem?_append_left (by simpa using hk)]
      rw [e1, Array.getElem?_modify]
      by_cases e : b = k
      · subst e
        rw [if_pos rfl, k2, setRow_heap w b ccs _ t (0, 0) k2]
        rfl
      · rw [if_neg e, setRow_other w b k _ (Ne.symm e)]
    have hs : (w.setRow b (putCells Go.Proofs.encStr 0 ns.toArray ccs)).heap.size ≤ (grow (putRow Go.Proofs.encStr (Sort.ahead w n) b 0 ns.toArray) os).heap.size := by
      rw [hsz]
      simp [grow, putRow, mapBlock, Sort.ahead]
    exact ⟨h1.grown hg hs rfl rfl rfl, h2.trans (Ext.grown h1 hg hs rfl rfl rfl)⟩
  · rw [hb] at k1; cases k1
theorem sortS_row {ρf : Shelf.Ren} (Ly : Go.Proofs.Lays.n190 P ρf) (hcall : callable P (ρf.f 190) = true) {i : Nat} {zs : List (List UInt8)} (hz : zs.length < 4611686018427387904) (ho : H.obj i = some (.cells 1 (rowStr zs) 0)) :
    ACalls P (ρf.f 190) [.rsl i 1 0 zs.length] H fun r H' => r = .tup [] ∧ H' = H.set i (.cells 1 (rowStr (zs.mergeSort fun x y => decide (x ≤ y))) 0) := by
  refine ⟨hcall, fun ρ w xs hh hr => ?_⟩
  simp only [RepL] at hr
  obtain ⟨x, _, rfl, hr, rfl⟩ := hr
  have hrep : ∀ ρ' H' w', Rep ρ' H' w' (.tup []) (.tuple #[]) := by
    intro ρ' H' w'
    simp only [Rep, RepL]
    exact ⟨[], rfl, rfl⟩
  simp only [Rep] at hr
  rcases hr with ⟨b, cap, ccs, t, fr, hb, rfl, h1, h2, h3, h4⟩ | ⟨h0, hlt, A, rfl⟩
  · have hH : Sort.Holds Go.Proofs.encStr w b (0 * 1) zs.toArray := by
      intro j hj
      have hj' : j < zs.length := by simpa using hj
      obtain ⟨ys, hy, hz1, hc⟩ := hh.elem ho hb (e := j) (cs := [.lit (Go.Proofs.encStr zs[j])]) (by simp [rowStr, hj'])
      simp only [RepL, Rep] at hy
      obtain ⟨y, ys', rfl, rfl, rfl⟩ := hy
      have := hc 0 _ rfl
      simp only [Nat.mul_one, Nat.add_zero] at this
      simp only [Nat.zero_mul, Nat.zero_add]
      have hg : (zs.toArray)[j]! = zs[j] := by simp [hj']
      rw [hg]
      exact this
    refine (Go.Proofs.Any.slices_Sort_string Ly b (0 * 1) cap zs w hH (hh.bound i b hb).2 hz).mono ?_
    rintro e w' ⟨rfl, n, os, rfl⟩
    obtain ⟨k1, k2⟩ := put_rowS (n := n) (os := os) hh ho hb (ns := zs.mergeSort fun x y => decide (x ≤ y)) (List.length_mergeSort _)
    rw [Nat.zero_mul]
    exact ⟨_, _, ρ, _, ⟨rfl, rfl⟩, rfl, k1, k2, hrep _ _ _⟩
  · obtain rfl : zs = [] := List.eq_nil_of_length_eq_zero h0
    refine (Go.Proofs.Any.slices_Sort_string_none Ly A 0 w).mono ?_
    rintro e w' ⟨rfl, rfl⟩
    have hH : H.set i (.cells 1 (rowStr ([].mergeSort fun x y => decide (x ≤ y))) 0) = H := by
      refine ah_ext (fun q => ?_) rfl
      show (if q = i then _ else H.obj q) = H.obj q
      split
      · rename_i e; subst e; rw [ho]; simp
      · rfl
    rw [hH]
    exact ⟨_, _, ρ, _, ⟨rfl, rfl⟩, rfl, hh, Ext.refl hh, hrep _ _ _⟩
theorem sortS_nil {ρf : Shelf.Ren} (Ly : Go.Proofs.Lays.n190 P ρf) (hcall : callable P (ρf.f 190) = true) : ACalls P (ρf.f 190) [.nilS] H fun r H' => r = .tup [] ∧ H' = H := by
  refine ⟨hcall, fun ρ w xs hh hr => ?_⟩
  simp only [RepL, Rep] at hr
  obtain ⟨x, _, rfl, rfl, rfl⟩ := hr
  refine (Go.Proofs.Any.slices_Sort_string_none Ly none 0 w).mono ?_
  rintro e w' ⟨rfl, rfl⟩
  exact ⟨_, _, ρ, _, ⟨rfl, rfl⟩, rfl, hh, Ext.refl hh, by simp only [Rep, RepL]; exact ⟨[], rfl, rfl⟩⟩
end Go.Sim
namespace Go.Sim.Try
open Go Go.Sim
section
open Go.Sim
theorem ty_load1 : tload Go.Proofs.Try.prog 1 = some (1, false) := by kernel_rfl
theorem ty_zero1 : tzero Go.Proofs.Try.prog 1 = some [Value.nilFunc] := by kernel_rfl
theorem ty_load2 : tload Go.Proofs.Try.prog 2 = some (1, false) := by kernel_rfl
theorem ty_zero2 : tzero Go.Proofs.Try.prog 2 = some [(Value.int IntKind.i64 0)] := by kernel_rfl
theorem ty_und2 : Go.Proofs.Try.prog.underlying 2 = some (.int .i64) := by kernel_rfl
theorem ty_load3 : tload Go.Proofs.Try.prog 3 = some (1, false) := by kernel_rfl
theorem ty_zero3 : tzero Go.Proofs.Try.prog 3 = some [(Value.int IntKind.i64 0)] := by kernel_rfl
theorem ty_und3 : Go.Proofs.Try.prog.underlying 3 = some (.int .i64) := by kernel_rfl
theorem ty_load4 : tload Go.Proofs.Try.prog 4 = some (1, false) := by kernel_rfl
theorem ty_zero4 : tzero Go.Proofs.Try.prog 4 = some [(Value.bool false)] := by kernel_rfl
theorem ty_und4 : Go.Proofs.Try.prog.underlying 4 = some .bool := by kernel_rfl
theorem ty_load5 : tload Go.Proofs.Try.prog 5 = some (1, false) := by kernel_rfl
theorem ty_zero5 : tzero Go.Proofs.Try.prog 5 = some [(Value.int IntKind.u8 0)] := by kernel_rfl
theorem ty_und5 : Go.Proofs.Try.prog.underlying 5 = some (.int .u8) := by kernel_rfl
theorem ty_load9 : tload Go.Proofs.Try.prog 9 = some (1, false) := by kernel_rfl
theorem ty_zero9 : tzero Go.Proofs.Try.prog 9 = some [(Value.string { data := #[] })] := by kernel_rfl
theorem ty_und9 : Go.Proofs.Try.prog.underlying 9 = some .string := by kernel_rfl
theorem ty_load21 : tload Go.Proofs.Try.prog 21 = some (1, false) := by kernel_rfl
theorem ty_zero21 : tzero Go.Proofs.Try.prog 21 = some [(Value.int IntKind.i32 0)] := by kernel_rfl
theorem ty_und21 : Go.Proofs.Try.prog.underlying 21 = some (.int .i32) := by kernel_rfl
theorem ty_load22 : tload Go.Proofs.Try.prog 22 = some (1, false) := by kernel_rfl
theorem ty_zero22 : tzero Go.Proofs.Try.prog 22 = some [(Value.slice none 0 0)] := by kernel_rfl
theorem ty_el22 : tel Go.Proofs.Try.prog 22 = some (4, true) := by kernel_rfl
theorem ty_zeroE22 : tzeroE Go.Proofs.Try.prog 22 = some ([(Value.bool false), (Value.int IntKind.i64 0), (Value.int IntKind.i64 0), (Value.int IntKind.i64 0)], 32) := by kernel_rfl
theorem ty_load23 : tload Go.Proofs.Try.prog 23 = some (1, false) := by kernel_rfl
theorem ty_zero23 : tzero Go.Proofs.Try.prog 23 = some [(Value.slice none 0 0)] := by kernel_rfl
theorem ty_el23 : tel Go.Proofs.Try.prog 23 = some (1, false) := by kernel_rfl
theorem ty_zeroE23 : tzeroE Go.Proofs.Try.prog 23 = some ([(Value.int IntKind.i64 0)], 8) := by kernel_rfl
theorem ty_load25 : tload Go.Proofs.Try.prog 25 = some (3, true) := by kernel_rfl
theorem ty_zero25 : tzero Go.Proofs.Try.prog 25 = some [(Value.slice none 0 0), (Value.slice none 0 0), (Value.slice none 0 0)] := by kernel_rfl
theorem ty_fld25_0 : tfld Go.Proofs.Try.prog 25 0 = some (0, 1, false) := by kernel_rfl
theorem ty_part25_0 : tparts Go.Proofs.Try.prog 25 0 = some (0, 1) := by kernel_rfl
theorem ty_fld25_1 : tfld Go.Proofs.Try.prog 25 1 = some (1, 1, false) := by kernel_rfl
theorem ty_part25_1 : tparts Go.Proofs.Try.prog 25 1 = some (1, 1) := by kernel_rfl
theorem ty_fld25_2 : tfld Go.Proofs.Try.prog 25 2 = some (2, 1, false) := by kernel_rfl
theorem ty_part25_2 : tparts Go.Proofs.Try.prog 25 2 = some (2, 1) := by kernel_rfl
theorem ty_struct25 : tstruct Go.Proofs.Try.prog 25 = true := by kernel_rfl
theorem ty_load29 : tload Go.Proofs.Try.prog 29 = some (1, false) := by kernel_rfl
theorem ty_zero29 : tzero Go.Proofs.Try.prog 29 = some [(Value.slice none 0 0)] := by kernel_rfl
theorem ty_el29 : tel Go.Proofs.Try.prog 29 = some (2, true) := by kernel_rfl
theorem ty_zeroE29 : tzeroE Go.Proofs.Try.prog 29 = some ([(Value.int IntKind.i64 0), (Value.slice none 0 0)], 32) := by kernel_rfl
theorem ty_load34 : tload Go.Proofs.Try.prog 34 = some (1, false) := by kernel_rfl
theorem ty_zero34 : tzero Go.Proofs.Try.prog 34 = some [(Value.int IntKind.i64 0)] := by kernel_rfl
theorem ty_und34 : Go.Proofs.Try.prog.underlying 34 = some (.int .i64) := by kernel_rfl
theorem ty_load41 : tload Go.Proofs.Try.prog 41 = some (3, true) := by kernel_rfl
theorem ty_zero41 : tzero Go.Proofs.Try.prog 41 = some [(Value.bool false), (Value.int IntKind.i64 0), (Value.int IntKind.i64 0)] := by kernel_rfl
theorem ty_fld41_0 : tfld Go.Proofs.Try.prog 41 0 = some (0, 1, false) := by kernel_rfl
theorem ty_part41_0 : tparts Go.Proofs.Try.prog 41 0 = some (0, 1) := by kernel_rfl
theorem ty_fld41_1 : tfld Go.Proofs.Try.prog 41 1 = some (1, 1, false) := by kernel_rfl
theorem ty_part41_1 : tparts Go.Proofs.Try.prog 41 1 = some (1, 1) := by kernel_rfl
theorem ty_fld41_2 : tfld Go.Proofs.Try.prog 41 2 = some (2, 1, false) := by kernel_rfl
theorem ty_part41_2 : tparts Go.Proofs.Try.prog 41 2 = some (2, 1) := by kernel_rfl
theorem ty_struct41 : tstruct Go.Proofs.Try.prog 41 = true := by kernel_rfl
theorem ty_load47 : tload Go.Proofs.Try.prog 47 = some (1, false) := by kernel_rfl
theorem ty_zero47 : tzero Go.Proofs.Try.prog 47 = some [(Value.slice none 0 0)] := by kernel_rfl
theorem ty_el47 : tel Go.Proofs.Try.prog 47 = some (3, true) := by kernel_rfl
theorem ty_zeroE47 : tzeroE Go.Proofs.Try.prog 47 = some ([(Value.bool false), (Value.int IntKind.i64 0), (Value.int IntKind.i64 0)], 24) := by kernel_rfl
theorem ty_load55 : tload Go.Proofs.Try.prog 55 = some (4, true) := by kernel_rfl
theorem ty_zero55 : tzero Go.Proofs.Try.prog 55 = some [(Value.bool false), (Value.int IntKind.i64 0), (Value.int IntKind.i64 0), (Value.int IntKind.i64 0)] := by kernel_rfl
theorem ty_fld55_0 : tfld Go.Proofs.Try.prog 55 0 = some (0, 1, false) := by kernel_rfl
theorem ty_part55_0 : tparts Go.Proofs.Try.prog 55 0 = some (0, 1) := by kernel_rfl
theorem ty_fld55_1 : tfld Go.Proofs.Try.prog 55 1 = some (1, 1, false) := by kernel_rfl
theorem ty_part55_1 : tparts Go.Proofs.Try.prog 55 1 = some (1, 1) := by kernel_rfl
theorem ty_fld55_2 : tfld Go.Proofs.Try.prog 55 2 = some (2, 1, false) := by kernel_rfl
theorem ty_part55_2 : tparts Go.Proofs.Try.prog 55 2 = some (2, 1) := by kernel_rfl
theorem ty_fld55_3 : tfld Go.Proofs.Try.prog 55 3 = some (3, 1, false) := by kernel_rfl
theorem ty_part55_3 : tparts Go.Proofs.Try.prog 55 3 = some (3, 1) := by kernel_rfl
theorem ty_struct55 : tstruct Go.Proofs.Try.prog 55 = true := by kernel_rfl
theorem ty_load56 : tload Go.Proofs.Try.prog 56 = some (1, false) := by kernel_rfl
theorem ty_zero56 : tzero Go.Proofs.Try.prog 56 = some [Value.nilFunc] := by kernel_rfl
theorem ty_load58 : tload Go.Proofs.Try.prog 58 = some (2, true) := by kernel_rfl
theorem ty_zero58 : tzero Go.Proofs.Try.prog 58 = some [(Value.int IntKind.i64 0), (Value.slice none 0 0)] := by kernel_rfl
theorem ty_fld58_0 : tfld Go.Proofs.Try.prog 58 0 = some (0, 1, false) := by kernel_rfl
theorem ty_part58_0 : tparts Go.Proofs.Try.prog 58 0 = some (0, 1) := by kernel_rfl
theorem ty_fld58_1 : tfld Go.Proofs.Try.prog 58 1 = some (1, 1, false) := by kernel_rfl
theorem ty_part58_1 : tparts Go.Proofs.Try.prog 58 1 = some (1, 1) := by kernel_rfl
theorem ty_struct58 : tstruct Go.Proofs.Try.prog 58 = true := by kernel_rfl
theorem ty_load60 : tload Go.Proofs.Try.prog 60 = some (1, false) := by kernel_rfl
theorem ty_zero60 : tzero Go.Proofs.Try.prog 60 = some [Value.nilFunc] := by kernel_rfl
theorem ty_load67 : tload Go.Proofs.Try.prog 67 = some (1, false) := by kernel_rfl
theorem ty_zero67 : tzero Go.Proofs.Try.prog 67 = some [(Value.slice none 0 0)] := by kernel_rfl
theorem ty_el67 : tel Go.Proofs.Try.prog 67 = some (1, false) := by kernel_rfl
theorem ty_zeroE67 : tzeroE Go.Proofs.Try.prog 67 = some ([(Value.map none)], 8) := by kernel_rfl
theorem ty_load68 : tload Go.Proofs.Try.prog 68 = some (1, false) := by kernel_rfl
theorem ty_zero68 : tzero Go.Proofs.Try.prog 68 = some [(Value.map none)] := by kernel_rfl
theorem ty_und68 : Go.Proofs.Try.prog.underlying 68 = some (.map 9 58) := by kernel_rfl
theorem ty_vzero58 : vzero Go.Proofs.Try.prog 58 = some (.agg [.lit (Value.int IntKind.i64 0), .lit (Value.slice none 0 0)]) := by kernel_rfl
theorem ty_load72 : tload Go.Proofs.Try.prog 72 = some (1, false) := by kernel_rfl
theorem ty_zero72 : tzero Go.Proofs.Try.prog 72 = some [(Value.slice none 0 0)] := by kernel_rfl
theorem ty_el72 : tel Go.Proofs.Try.prog 72 = some (1, false) := by kernel_rfl
theorem ty_zeroE72 : tzeroE Go.Proofs.Try.prog 72 = some ([(Value.string { data := #[] })], 16) := by kernel_rfl
theorem ty_load79 : tload Go.Proofs.Try.prog 79 = some (1, false) := by kernel_rfl
theorem ty_zero79 : tzero Go.Proofs.Try.prog 79 = some [(Value.pointer none)] := by kernel_rfl
theorem ty_load80 : tload Go.Proofs.Try.prog 80 = some (1, false) := by kernel_rfl
theorem ty_zero80 : tzero Go.Proofs.Try.prog 80 = some [(Value.map none)] := by kernel_rfl
theorem ty_und80 : Go.Proofs.Try.prog.underlying 80 = some (.map 41 4) := by kernel_rfl
theorem ty_vzero4 : vzero Go.Proofs.Try.prog 4 = some (.lit (Value.bool false)) := by kernel_rfl
theorem ty_load82 : tload Go.Proofs.Try.prog 82 = some (5, true) := by kernel_rfl
theorem ty_zero82 : tzero Go.Proofs.Try.prog 82 = some [(Value.slice none 0 0), (Value.slice none 0 0), (Value.slice none 0 0), (Value.map none), (Value.slice none 0 0)] := by kernel_rfl
theorem ty_fld82_0 : tfld Go.Proofs.Try.prog 82 0 = some (0, 3, true) := by kernel_rfl
theorem ty_part82_0 : tparts Go.Proofs.Try.prog 82 0 = some (0, 3) := by kernel_rfl
theorem ty_fld82_1 : tfld Go.Proofs.Try.prog 82 1 = some (3, 1, false) := by kernel_rfl
theorem ty_part82_1 : tparts Go.Proofs.Try.prog 82 1 = some (3, 1) := by kernel_rfl
theorem ty_fld82_2 : tfld Go.Proofs.Try.prog 82 2 = some (4, 1, false) := by kernel_rfl
theorem ty_part82_2 : tparts Go.Proofs.Try.prog 82 2 = some (4, 1) := by kernel_rfl
theorem ty_struct82 : tstruct Go.Proofs.Try.prog 82 = true := by kernel_rfl
theorem ty_load86 : tload Go.Proofs.Try.prog 86 = some (1, false) := by kernel_rfl
theorem ty_zero86 : tzero Go.Proofs.Try.prog 86 = some [(Value.map none)] := by kernel_rfl
theorem ty_und86 : Go.Proofs.Try.prog.underlying 86 = some (.map 55 3) := by kernel_rfl
theorem ty_vzero3 : vzero Go.Proofs.Try.prog 3 = some (.lit (Value.int IntKind.i64 0)) := by kernel_rfl
theorem ty_load87 : tload Go.Proofs.Try.prog 87 = some (2, true) := by kernel_rfl
theorem ty_zero87 : tzero Go.Proofs.Try.prog 87 = some [(Value.int IntKind.i64 0), (Value.int IntKind.i64 0)] := by kernel_rfl
theorem ty_arr87 : tarr Go.Proofs.Try.prog 87 = some (2, 1, false) := by kernel_rfl
theorem ty_part87_0 : tparts Go.Proofs.Try.prog 87 0 = some (0, 1) := by kernel_rfl
theorem ty_part87_1 : tparts Go.Proofs.Try.prog 87 1 = some (1, 1) := by kernel_rfl
theorem ty_struct87 : tstruct Go.Proofs.Try.prog 87 = true := by kernel_rfl
theorem ty_load98 : tload Go.Proofs.Try.prog 98 = some (1, false) := by kernel_rfl
theorem ty_zero98 : tzero Go.Proofs.Try.prog 98 = some [(Value.int IntKind.u64 0)] := by kernel_rfl
theorem ty_und98 : Go.Proofs.Try.prog.underlying 98 = some (.int .u64) := by kernel_rfl
theorem ty_load100 : tload Go.Proofs.Try.prog 100 = some (1, false) := by kernel_rfl
theorem ty_zero100 : tzero Go.Proofs.Try.prog 100 = some [(Value.slice none 0 0)] := by kernel_rfl
theorem ty_und100 : Go.Proofs.Try.prog.underlying 100 = some (.slice 5) := by kernel_rfl
theorem ty_el100 : tel Go.Proofs.Try.prog 100 = some (1, false) := by kernel_rfl
theorem ty_zeroE100 : tzeroE Go.Proofs.Try.prog 100 = some ([(Value.int IntKind.u8 0)], 1) := by kernel_rfl
theorem ty_load104 : tload Go.Proofs.Try.prog 104 = some (1, false) := by kernel_rfl
theorem ty_zero104 : tzero Go.Proofs.Try.prog 104 = some [Value.nilFunc] := by kernel_rfl
theorem ty_load109 : tload Go.Proofs.Try.prog 109 = some (1, false) := by kernel_rfl
theorem ty_zero109 : tzero Go.Proofs.Try.prog 109 = some [Value.nilFunc] := by kernel_rfl
theorem ty_load112 : tload Go.Proofs.Try.prog 112 = some (1, false) := by kernel_rfl
theorem ty_zero112 : tzero Go.Proofs.Try.prog 112 = some [(Value.int IntKind.i64 0)] := by kernel_rfl
theorem ty_und112 : Go.Proofs.Try.prog.underlying 112 = some (.int .i64) := by kernel_rfl
theorem ty_load119 : tload Go.Proofs.Try.prog 119 = some (1, false) := by kernel_rfl
theorem ty_zero119 : tzero Go.Proofs.Try.prog 119 = some [(Value.int IntKind.u32 0)] := by kernel_rfl
theorem ty_und119 : Go.Proofs.Try.prog.underlying 119 = some (.int .u32) := by kernel_rfl
theorem ty_load121 : tload Go.Proofs.Try.prog 121 = some (1, false) := by kernel_rfl
theorem ty_zero121 : tzero Go.Proofs.Try.prog 121 = some [(Value.int IntKind.u64 0)] := by kernel_rfl
theorem ty_und121 : Go.Proofs.Try.prog.underlying 121 = some (.int .u64) := by kernel_rfl
theorem ty_load129 : tload Go.Proofs.Try.prog 129 = some (1, false) := by kernel_rfl
theorem ty_zero129 : tzero Go.Proofs.Try.prog 129 = some [(Value.int IntKind.u64 0)] := by kernel_rfl
theorem ty_und129 : Go.Proofs.Try.prog.underlying 129 = some (.int .u64) := by kernel_rfl
theorem ty_load133 : tload Go.Proofs.Try.prog 133 = some (1, false) := by kernel_rfl
theorem ty_zero133 : tzero Go.Proofs.Try.prog 133 = some [(Value.pointer none)] := by kernel_rfl
end
attribute [local push_cast] aops_cons aops_nil aopG_none aopG_some aopP_eq aopE_eq aopC_eq aopE?_eq aopC?_eq aopB_eq aopB?_eq aopN_eq aopN?_eq anxt anext amrange alast amapNil abr anilq gopP_eq gopL_eq ahead_cons ahead_nil ahdG_none ahdG_some ahdP_eq ahdN_eq ahdC_eq ahdN?_eq ahdS_eq ahdS?_eq astoreN ahdC?_eq ghdP_eq ghdC_eq ghdC?_eq ghdZ_f ghdZ_t ahdI_eq ahdI?_eq ghdN?_eq aim_nil aim_cons isIn_nil isIn_none isIn_cons aimm aheP_eq aheA_eq aheC_eq aheC?_eq aheI?_eq aheA?_eq gheP_eq gheC_eq gheC?_eq gheZ_eq aheG_none aheG_some aheff_cons aheff_nil aapp gro_rsl gro_lit gro_esl opt_some opt_none no_eq acondT_true acondT_false acondT_lit abytes bytesU aw_skip aw_region aw_regionD aw_seq aw_cond aw_block aw_loop aw_exit aw_label aw_ret thn_normal thn_exit thn_ret inb_normal inb_exit inb_ret qret_ret qret_normal gcond apure aeff anew acallee ares aresT aresL aresC ares1 qfin_eq ev ofV evL gokL tget tput_some tput_none initT abin aint aun aload afaddr aiaddr afield aindex aextract apick pickv_lit Bool.or_false Bool.false_or Bool.or_true Bool.true_or imp_self aslice chunk roomB abound aconv abuild afill splice alen aminmax abuiltin anil apart Value.oneCell' astore aappend srcEs abuildSlice amakeSlice amapPut aclear aentry aestore alookup aput afind mget keyV sameV_int Option.isSome_some Option.isSome_none cond_true cond_false asets isEq plus_obj plus_nxt plus_add plus_set plus_del IntKind.bits Option.map_some Option.map_none Option.bind_some Option.bind_none Option.join_some Option.getD_some Option.getD_none Option.toList List.getElem?_toArray List.getElem?_cons_zero List.getElem?_cons_succ List.getElem?_nil List.length_cons List.length_nil List.length_map List.head?_cons List.cons_append List.nil_append List.append_nil List.map_cons List.map_nil List.getD_cons_zero List.getD_cons_succ List.replicate_succ List.replicate_zero List.set_cons_zero List.set_cons_succ List.take_succ_cons List.take_zero List.drop_succ_cons List.drop_zero List.all_cons List.all_nil Nat.zero_add if_true if_false true_and and_true false_and and_false true_implies implies_true forall_const Bool.and_true Bool.true_and Bool.false_and Bool.and_false Bool.true_beq Bool.false_beq Bool.not_not beq_tt beq_ff Int.toNat_natCast decide_true decide_false Bool.not_true Bool.not_false Bool.true_eq_false Bool.false_eq_true false_implies exists_prop eq_self bne_self_eq_false beq_self_eq_true decide_eq_true_eq decide_eq_false_iff_not Bool.not_eq_true' Bool.not_eq_false' AV.int AV.bool AV.nilS ne_eq not_false_eq_true not_true_eq_false exists_eq_left exists_eq_left' Nat.lt_irrefl core_lit grd_lit acells_lit one_lit core_agg grd_agg acells_agg one_agg core_tup grd_tup acells_tup one_tup core_sl grd_sl acells_sl one_sl core_esl grd_esl acells_esl one_esl core_rsl grd_rsl acells_rsl one_rsl core_ptr grd_ptr acells_ptr one_ptr core_iptr grd_iptr acells_iptr one_iptr core_clo grd_clo acells_clo one_clo core_mp grd_mp acells_mp one_mp core_any grd_any acells_any one_any core_gv grd_gv fit_agg fit_lit fit_sl fit_esl fit_rsl fit_ptr fit_iptr fit_clo fit_mp retq_ret retq_normal set_nxt set_set plus_obj_set plus_set_set app_get0 app_get app_set0 app_set List.append_assoc List.length_append List.length_set Nat.lt_add_one Nat.add_lt_add_iff_right Nat.lt_add_right_iff_pos Nat.add_lt_add_iff_left List.mem_cons List.not_mem_nil or_false forall_eq forall_eq_or_imp lt_s0 lt_s1 lt_s2 lt_s3 lt_s4 lt_s5 lt_s6 lt_s7 lt_s8 pickv_t pickv_f or_nand or_nand2 imp_and_l SealT SealOs sealO_cells sl_lit sl_any sl_agg sl_tup sl_sl sl_rsl slO sl_esl sl_nil sl_eslesl sl_eslnil sl_rslrsl sl_eslrsl sl_nilrsl sl_ptr sl_iptr sl_ptri slP sl_clo sl_mp sl_gv sll_nil sll_cons slll_nil slll_cons shut_eq shutO Option.join_none Fn.func.injEq and_self sealL_self sealLL_self seal_self PureL PureLL Pure Nat.le_refl Nat.zero_le AV.lit.injEq Value.int.injEq Value.bool.injEq false_or or_true true_or Int.natCast_zero Int.ofNat_zero Int.cast_ofNat_Int Int.natCast_add Int.natCast_one Option.some.injEq piL_is sop_nil sop_cons sop_none sop_some sopO_some sop_new shut_pi shutL_nil shutL_cons exQ_exit exQ_ret exQ_normal Go.Sim.Try.ty_load1 Go.Sim.Try.ty_zero1 Go.Sim.Try.ty_load2 Go.Sim.Try.ty_zero2 Go.Sim.Try.ty_und2 Go.Sim.Try.ty_load3 Go.Sim.Try.ty_zero3 Go.Sim.Try.ty_und3 Go.Sim.Try.ty_load4 Go.Sim.Try.ty_zero4 Go.Sim.Try.ty_und4 Go.Sim.Try.ty_load5 Go.Sim.Try.ty_zero5 Go.Sim.Try.ty_und5 Go.Sim.Try.ty_load9 Go.Sim.Try.ty_zero9 Go.Sim.Try.ty_und9 Go.Sim.Try.ty_load21 Go.Sim.Try.ty_zero21 Go.Sim.Try.ty_und21 Go.Sim.Try.ty_load22 Go.Sim.Try.ty_zero22 Go.Sim.Try.ty_el22 Go.Sim.Try.ty_zeroE22 Go.Sim.Try.ty_load23 Go.Sim.Try.ty_zero23 Go.Sim.Try.ty_el23 Go.Sim.Try.ty_zeroE23 Go.Sim.Try.ty_load25 Go.Sim.Try.ty_zero25 Go.Sim.Try.ty_fld25_0 Go.Sim.Try.ty_part25_0 Go.Sim.Try.ty_fld25_1 Go.Sim.Try.ty_part25_1 Go.Sim.Try.ty_fld25_2 Go.Sim.Try.ty_part25_2 Go.Sim.Try.ty_struct25 Go.Sim.Try.ty_load29 Go.Sim.Try.ty_zero29 Go.Sim.Try.ty_el29 Go.Sim.Try.ty_zeroE29 Go.Sim.Try.ty_load34 Go.Sim.Try.ty_zero34 Go.Sim.Try.ty_und34 Go.Sim.Try.ty_load41 Go.Sim.Try.ty_zero41 Go.Sim.Try.ty_fld41_0 Go.Sim.Try.ty_part41_0 Go.Sim.Try.ty_fld41_1 Go.Sim.Try.ty_part41_1 Go.Sim.Try.ty_fld41_2 Go.Sim.Try.ty_part41_2 Go.Sim.Try.ty_struct41 Go.Sim.Try.ty_load47 Go.Sim.Try.ty_zero47 Go.Sim.Try.ty_el47 Go.Sim.Try.ty_zeroE47 Go.Sim.Try.ty_load55 Go.Sim.Try.ty_zero55 Go.Sim.Try.ty_fld55_0 Go.Sim.Try.ty_part55_0 Go.Sim.Try.ty_fld55_1 Go.Sim.Try.ty_part55_1 Go.Sim.Try.ty_fld55_2 Go.Sim.Try.ty_part55_2 Go.Sim.Try.ty_fld55_3 Go.Sim.Try.ty_part55_3 Go.Sim.Try.ty_struct55 Go.Sim.Try.ty_load56 Go.Sim.Try.ty_zero56 Go.Sim.Try.ty_load58 Go.Sim.Try.ty_zero58 Go.Sim.Try.ty_fld58_0 Go.Sim.Try.ty_part58_0 Go.Sim.Try.ty_fld58_1 Go.Sim.Try.ty_part58_1 Go.Sim.Try.ty_struct58 Go.Sim.Try.ty_load60 Go.Sim.Try.ty_zero60 Go.Sim.Try.ty_load67 Go.Sim.Try.ty_zero67 Go.Sim.Try.ty_el67 Go.Sim.Try.ty_zeroE67 Go.Sim.Try.ty_load68 Go.Sim.Try.ty_zero68 Go.Sim.Try.ty_und68 Go.Sim.Try.ty_vzero58 Go.Sim.Try.ty_load72 Go.Sim.Try.ty_zero72 Go.Sim.Try.ty_el72 Go.Sim.Try.ty_zeroE72 Go.Sim.Try.ty_load79 Go.Sim.Try.ty_zero79 Go.Sim.Try.ty_load80 Go.Sim.Try.ty_zero80 Go.Sim.Try.ty_und80 Go.Sim.Try.ty_vzero4 Go.Sim.Try.ty_load82 Go.Sim.Try.ty_zero82 Go.Sim.Try.ty_fld82_0 Go.Sim.Try.ty_part82_0 Go.Sim.Try.ty_fld82_1 Go.Sim.Try.ty_part82_1 Go.Sim.Try.ty_fld82_2 Go.Sim.Try.ty_part82_2 Go.Sim.Try.ty_struct82 Go.Sim.Try.ty_load86 Go.Sim.Try.ty_zero86 Go.Sim.Try.ty_und86 Go.Sim.Try.ty_vzero3 Go.Sim.Try.ty_load87 Go.Sim.Try.ty_zero87 Go.Sim.Try.ty_arr87 Go.Sim.Try.ty_part87_0 Go.Sim.Try.ty_part87_1 Go.Sim.Try.ty_struct87 Go.Sim.Try.ty_load98 Go.Sim.Try.ty_zero98 Go.Sim.Try.ty_und98 Go.Sim.Try.ty_load100 Go.Sim.Try.ty_zero100 Go.Sim.Try.ty_und100 Go.Sim.Try.ty_el100 Go.Sim.Try.ty_zeroE100 Go.Sim.Try.ty_load104 Go.Sim.Try.ty_zero104 Go.Sim.Try.ty_load109 Go.Sim.Try.ty_zero109 Go.Sim.Try.ty_load112 Go.Sim.Try.ty_zero112 Go.Sim.Try.ty_und112 Go.Sim.Try.ty_load119 Go.Sim.Try.ty_zero119 Go.Sim.Try.ty_und119 Go.Sim.Try.ty_load121 Go.Sim.Try.ty_zero121 Go.Sim.Try.ty_und121 Go.Sim.Try.ty_load129 Go.Sim.Try.ty_zero129 Go.Sim.Try.ty_und129 Go.Sim.Try.ty_load133 Go.Sim.Try.ty_zero133
section
inductive Ex where
  | mk (op col k n : Int) (l : List Ex)
theorem Ex.ind {p : Ex → Prop} (h : ∀ op col k n l, (∀ x ∈ l, p x) → p (.mk op col k n l)) : ∀ e, p e
  | .mk op col k n l => h op col k n l fun x hx => Ex.ind h x
termination_by e => SizeOf.sizeOf e
structure Vl where
  k : Int
  n : Int
def encV (v : Vl) : List AV := [.int v.k, .int v.n]
mutual
def encE : Ex → List AV
  | .mk op col k n l => [.int op, .int col, .int k, .int n, .sl (encEs l)]
def encEs : List Ex → List (List AV)
  | [] => []
  | x :: l => encE x :: encEs l
end
theorem encEs_eq : ∀ l : List Ex, encEs l = l.map encE
  | [] => rfl
  | x :: l => by simp only [encEs, List.map_cons, encEs_eq l]
theorem encE_mk (op col k n : Int) (l : List Ex) : encE (.mk op col k n l) = [.int op, .int col, .int k, .int n, .sl (l.map encE)] := by rw [← encEs_eq, encE]
theorem encE_len (e : Ex) : (encE e).length = 5 := by cases e; rw [encE_mk]; rfl
theorem encE_take (e : Ex) : (encE e).take 5 = encE e := by rw [← encE_len e, List.take_length]
theorem encE_one (e : Ex) : (encE e).all AV.one = true := by cases e; rw [encE_mk]; rfl
theorem encE_pure (e : Ex) : PureL (encE e) := by
  induction e using Ex.ind with
  | h op col k n l ih =>
    rw [encE_mk]
    simp only [PureL, Pure, true_and, and_true, pureLL_iff, List.mem_map]
    rintro _ ⟨x, hx, rfl⟩
    exact ih x hx
theorem encEs_pure (l : List Ex) : PureLL (l.map encE) := by
  rw [pureLL_iff]
  simp only [List.mem_map]
  rintro _ ⟨x, _, rfl⟩
  exact encE_pure x
attribute [local push_cast] encE_mk encE_take encE_len encV encE_one encEs_pure encE_pure
inductive Ex.Ok : Ex → Prop
  | mk {op col k n : Int} {l : List Ex} (h1 : l.length ≤ 140737488355328) (h2 : ∀ x ∈ l, x.Ok) : Ex.Ok (.mk op col k n l)
mutual
def sz : Ex → Int → Int
  | .mk _ _ _ _ l, m => szL l m 1
def szL : List Ex → Int → Int → Int
  | [], _, n => n
  | x :: l, m, n => if n ≤ m then szL l m (n + sz x (m - n)) else n
end
/- How many parts. -/
mutual
def cnt : Ex → Nat
  | .mk _ _ _ _ l => 1 + cntL l
def cntL : List Ex → Nat
  | [] => 0
  | x :: l => cnt x + cntL l
end
theorem mixed : Go.Proofs.Try.prog.follows .mixedOrders = true := by kernel_rfl
theorem encIs_get (l : List Int) (i : Nat) (h : i < l.length) : (l.map encI).getD i [] = encI l[i] := getD_map encI l [] i h
theorem encIs_pure (l : List Int) : PureLL (l.map encI) := by
  rw [pureLL_iff]
  simp only [List.mem_map]
  rintro _ ⟨x, _, rfl⟩
  simp [encI, PureL, Pure]
end
section
theorem int_at {p : List Int} {i : Nat} (h : i < p.length) : (p.map encI).getD i [] = [.int (p.getD i 0)] := by
  rw [encIs_get p i h, encI, List.getD_eq_getElem?_getD, List.getElem?_eq_getElem h]; rfl
theorem encIs_one (l : List Int) : (∀ e ∈ l.map encI, e.length = 1) = True := eq_true fun e he => by obtain ⟨x, _, rfl⟩ := List.mem_map.1 he; rfl
attribute [local push_cast] encIs_pure plus_obj0 plus_set0 piL_is00 piL_is0 piL_isk encIs_one
theorem mayS_cut (p : List Int) : mayS p = ((List.range p.length).all (fun i => decide (0 ≤ p.getD i 0) && decide (p.getD i 0 ≤ i)) && decide (p.length ≤ 400)) := rfl
theorem MayS_ok (p : List Int) (hp : p.length ≤ 1000000) : Quiet Go.Proofs.Try.prog 71 [.sl (p.map encI)] (.bool (mayS p)) := by
  refine quiet_of (rs := #[.tmp 2]) Go.Proofs.Try.func71 rfl rfl rfl mixed rfl rfl fun H hs => ?_
  push_cast -implicitDefEqProofs [eq_self, iff_self]
  refine loop_at hs (σ := Nat) (fun i => i ≤ p.length ∧ ∀ k, k < i → 0 ≤ p.getD k 0 ∧ p.getD k 0 ≤ k) (fun i => p.length - i)
    (fun i => [(7, .int i), (6, .int p.length), (5, .sl (p.map encI)), (0, .sl (p.map encI))]) (fun i => []) [] 0 ⟨by omega, fun k hk => by omega⟩ rfl ?_ ?_ ?_
  · (try push_cast -implicitDefEqProofs [eq_self, iff_self])
  · (try push_cast -implicitDefEqProofs [eq_self, iff_self])
  rintro i ⟨hi2, hall⟩
  by_cases hi : i < p.length
  · have hi' : ((i : Int) < (p.length : Int)) = True := by simp; omega
    have hi0 : (0 ≤ (i : Int)) = True := by simp
    have hget := int_at hi
    have hbad : ¬ (0 ≤ p.getD i 0 ∧ p.getD i 0 ≤ i) → mayS p = false := fun h => by
      rw [Bool.eq_false_iff]
      intro hm
      exact h ((mayS_iff.1 hm).1 i hi)
    have hall' : (0 ≤ p.getD i 0 ∧ p.getD i 0 ≤ i) → ∀ k, k < i + 1 → 0 ≤ p.getD k 0 ∧ p.getD k 0 ≤ k := fun h k hk => by
      rcases Nat.lt_succ_iff_lt_or_eq.1 hk with h1 | h1
      · exact hall k h1
      · rw [h1]; exact h
    generalize p.getD i 0 = x at hget hbad hall'
    push_cast -implicitDefEqProofs [eq_self, iff_self, hi', hi0, hget]
    by_cases h1 : x < 0
    · have hd : decide (x < 0) = true := decide_eq_true h1
      rw [hbad (by omega)]
      push_cast -implicitDefEqProofs [eq_self, iff_self, hd]
    · have hd : decide (x < 0) = false := decide_eq_false h1
      push_cast -implicitDefEqProofs [eq_self, iff_self, hd]
      refine ⟨fun h => (hbad (by omega)).symm, fun h => ?_⟩
      rw [wrap64 (by omega) (by omega)]
      refine next_at [] (i + 1) ⟨by omega, hall' (by omega)⟩ (by omega) rfl ?_ ?_
      · (try push_cast -implicitDefEqProofs [eq_self, iff_self])
      · (try push_cast -implicitDefEqProofs [eq_self, iff_self])
  · have hi' : ((i : Int) < (p.length : Int)) = False := by simp; omega
    obtain rfl : i = p.length := by omega
    have hm : mayS p = decide (p.length ≤ 400) := by
      rw [mayS_cut, List.all_eq_true.2 (fun k hk => ?_), Bool.true_and]
      have := hall k (List.mem_range.1 hk)
      simp only [Bool.and_eq_true, decide_eq_true_eq]
      exact this
    rw [hm]
    push_cast -implicitDefEqProofs [eq_self, iff_self, hi']
    exact decide_eq_decide.2 (by omega)
theorem up_lt {p : List Int} (hm : mayS p = true) {i : Nat} (h : i < p.length) : 0 ≤ p.getD i 0 ∧ p.getD i 0 ≤ i := (mayS_iff.1 hm).1 i h
theorem FindS_ok (p : List Int) (hp : p.length ≤ 1000000) (i : Int) : Quiet Go.Proofs.Try.prog 89 [.sl (p.map encI), .int i] (.int (findS p i)) := by
  refine quiet_of (rs := #[.tmp 4]) Go.Proofs.Try.func89 rfl rfl rfl mixed rfl rfl fun H hs => ?_
  push_cast -implicitDefEqProofs [eq_self, iff_self]
  refine ascope mixed 0 (fun n T H' => ∃ k : Nat, n = k ∧ k < p.length ∧ mayS p = true ∧ findS p i = rootN p k ∧ (∃ y, tget T 0 = .sl (p.map encI) ∧ tget T 1 = .int k ∧ y = T) ∧ H' = H.plus []) rfl ?_ ?_
  · have pass : True := trivial
    push_cast -implicitDefEqProofs [eq_self, iff_self, aw_goto, jmp_normal, jmp_exit, jmp_ret, jmp_goto]
    refine callq (MayS_ok p hp) ?_
    push_cast -implicitDefEqProofs [eq_self, iff_self, aw_goto, jmp_normal, jmp_exit, jmp_ret, jmp_goto]
    by_cases hc : mayS p = true ∧ 0 ≤ i ∧ i < p.length
    case neg =>
      have hc' : (!mayS p || decide (i < 0) || decide ((p.length : Int) ≤ i)) = true := by
        cases hm : mayS p <;> simp [hm] at hc ⊢; omega
      rw [hc']
      refine ⟨fun _ => ?_, fun h => (Bool.noConfusion h)⟩
      rw [findS, if_neg (by simp only [Bool.and_eq_true, decide_eq_true_eq]; exact fun h => hc ⟨h.1.1, h.1.2, h.2⟩)]
    obtain ⟨hm, h0, hlt⟩ := hc
    have hc' : (!mayS p || decide (i < 0) || decide ((p.length : Int) ≤ i)) = false := by
      rw [hm, decide_eq_false (by omega), decide_eq_false (by omega)]; rfl
    rw [hc']
    refine ⟨fun h => (Bool.noConfusion h), fun _ => ?_⟩
    have hf : findS p i = rootN p i.toNat := by rw [findS, if_pos (by simp only [Bool.and_eq_true, decide_eq_true_eq]; exact ⟨⟨hm, h0⟩, hlt⟩)]
    obtain ⟨n, rfl⟩ : ∃ n : Nat, i = n := ⟨i.toNat, by omega⟩
    have hk : n < p.length := by omega
    rw [Int.toNat_natCast] at hf ⊢
    clear pass
    have hget := int_at hk
    have hx := up_lt hm hk
    have hup : ¬ p.getD n 0 = (n : Nat) → rootN p n = rootN p (p.getD n 0).toNat := fun h => rootN_up hm hk h
    have hself : p.getD n 0 = (n : Nat) → rootN p n = n := rootN_self
    generalize p.getD n 0 = x at hget hx hup hself
    push_cast -implicitDefEqProofs [eq_self, iff_self, hget]
    obtain ⟨x, rfl⟩ : ∃ y : Nat, x = y := ⟨x.toNat, by omega⟩
    by_cases hxi : x = n
    · obtain rfl := hxi
      have hd : decide ((x : Int) = (x : Int)) = true := decide_eq_true rfl
      push_cast -implicitDefEqProofs [eq_self, iff_self, aw_goto, jmp_normal, jmp_exit, jmp_ret, jmp_goto, hd]
      exact ⟨by omega, by rw [hf, hself rfl]⟩
    · have hd : ((x : Int) = (n : Int)) = False := eq_false (by omega)
      push_cast -implicitDefEqProofs [eq_self, iff_self, aw_goto, jmp_normal, jmp_exit, jmp_ret, jmp_goto, thn_goto, hd, hget]
      exact ⟨by omega, by omega, x, by omega, hm, by rw [hf, hup (by omega), Int.toNat_natCast], _, rfl, rfl⟩
  · rintro n T H' ⟨k, rfl, hk, hm, hf, ⟨y, h0, h1, rfl⟩, rfl⟩
    push_cast -implicitDefEqProofs [eq_self, iff_self, aw_goto, jmp_normal, jmp_exit, jmp_ret, jmp_goto, h0, h1]
    have hget := int_at hk
    have hx := up_lt hm hk
    have hup : ¬ p.getD n 0 = (n : Nat) → rootN p n = rootN p (p.getD n 0).toNat := fun h => rootN_up hm hk h
    have hself : p.getD n 0 = (n : Nat) → rootN p n = n := rootN_self
    generalize p.getD n 0 = x at hget hx hup hself
    push_cast -implicitDefEqProofs [eq_self, iff_self, hget]
    obtain ⟨x, rfl⟩ : ∃ y : Nat, x = y := ⟨x.toNat, by omega⟩
    by_cases hxi : x = n
    · obtain rfl := hxi
      have hd : decide ((x : Int) = (x : Int)) = true := decide_eq_true rfl
      push_cast -implicitDefEqProofs [eq_self, iff_self, aw_goto, jmp_normal, jmp_exit, jmp_ret, jmp_goto, hd, h0, h1]
      exact ⟨by omega, by rw [hf, hself rfl]⟩
    · have hd : ((x : Int) = (n : Int)) = False := eq_false (by omega)
      push_cast -implicitDefEqProofs [eq_self, iff_self, aw_goto, jmp_normal, jmp_exit, jmp_ret, jmp_goto, thn_goto, hd, hget, h0, h1]
      exact ⟨by omega, by omega, x, by omega, by omega, hm, by rw [hf, hup (by omega), Int.toNat_natCast], _, rfl, rfl⟩
theorem CloneI_ok (p : List Int) (hp : p.length ≤ 1000000) (H : AH) : ACalls Go.Proofs.Try.prog 72 [.sl (p.map encI)] H (RowR H 1 (p.map encI)) := by
  refine acalls_sc (rs := #[.tmp 2]) Go.Proofs.Try.func72 rfl rfl rfl mixed rfl (Nat.le_of_ble_eq_true rfl) fun hs _ => ?_
  push_cast -implicitDefEqProofs [eq_self, iff_self]
  intro b hb
  push_cast -implicitDefEqProofs [eq_self, iff_self]
  refine ⟨fun h => ?_, fun h => ⟨⟨fun e he => ?_, by omega⟩, ?_⟩⟩
  · have : p.map encI = [] := by
      cases p with
      | nil => rfl
      | cons z p => rw [h] at hb; exact absurd (hb rfl) (by decide)
    rw [this]
    exact ret_none hs trivial
  · obtain ⟨x, _, rfl⟩ := List.mem_map.1 he; rfl
  · have := ret_row hs (z := 1) (k := 1) (rows := p.map encI) (l := [none, some (.cells 1 (p.map encI) 0)]) (φ := True) rfl (encIs_pure p) (fun e he => by obtain ⟨x, _, rfl⟩ := List.mem_map.1 he; rfl) trivial
    rwa [List.length_map] at this
theorem RootsS_ok (p : List Int) (hp : p.length ≤ 1000000) (H : AH) : ACalls Go.Proofs.Try.prog 42 [.sl (p.map encI)] H (RowR H 1 ((rootsS p).map encI)) := by
  refine acalls_sc (rs := #[.tmp 2]) Go.Proofs.Try.func42 rfl rfl rfl mixed rfl (Nat.le_of_ble_eq_true rfl) fun hs _ => ?_
  push_cast -implicitDefEqProofs [eq_self, iff_self]
  refine callq (MayS_ok p hp) ?_
  push_cast -implicitDefEqProofs [eq_self, iff_self]
  refine ⟨fun h => ?_, fun h => ?_⟩
  · have hm : mayS p = false := by simpa using h
    rw [rootsS, if_neg (by rw [hm]; exact Bool.false_ne_true)]
    exact ret_none hs trivial
  have hm : mayS p = true := by simpa using h
  refine (CloneI_ok p hp _).mono ?_
  rintro r H' ⟨rfl, rfl⟩
  push_cast -implicitDefEqProofs [eq_self, iff_self, plus_plus, Nat.add_zero]
  refine loop_at hs (σ := Nat) (fun i => i ≤ p.length) (fun i => p.length - i)
    (fun i => [(13, .int i), (12, .int p.length), (11, .rsl H.nxt 1 0 p.length), (3, .rsl H.nxt 1 0 p.length)]) (fun i => [some (.cells 1 ((rowS p i).map encI) 0)]) [some 0] 0 (by omega) rfl ?_ ?_ ?_
  · (try push_cast -implicitDefEqProofs [eq_self, iff_self])
  · (try push_cast -implicitDefEqProofs [eq_self, iff_self, rowS_zero])
  intro i hi2
  by_cases hi : i < p.length
  · have hi' : ((i : Int) < (p.length : Int)) = True := by simp; omega
    have hi0 : (0 ≤ (i : Int)) = True := by simp
    have hlen : (rowS p i).length = p.length := rowS_len hi2
    have hget := int_at (p := rowS p i) (i := i) (by omega)
    have hup := up_lt hm hi
    have e1 : (rowS p i).getD i 0 = p.getD i 0 := by rw [rowS_at (by omega), if_neg (by omega)]
    rw [e1] at hget
    have hsucc := rowS_succ hm hi
    rw [e1] at hsucc
    have hget2 := int_at (p := rowS p i) (i := (p.getD i 0).toNat) (by omega)
    generalize p.getD i 0 = x at hget hup hsucc hget2
    obtain ⟨x, rfl⟩ : ∃ y : Nat, x = y := ⟨x.toNat, by omega⟩
    rw [Int.toNat_natCast] at hget2 hsucc
    push_cast -implicitDefEqProofs [eq_self, iff_self, hi', hi0, hget, hget2]
    rw [wrap64 (by omega) (by omega)]
    refine ⟨by omega, by omega, by omega, by omega, next_at [some 0] (i + 1) (by omega) (by omega) rfl ?_ ?_⟩
    · (try push_cast -implicitDefEqProofs [eq_self, iff_self])
    · have hset : ((rowS p i).map encI).set i [AV.lit (.int .i64 ((rowS p i).getD x 0))] = (rowS p (i + 1)).map encI := by rw [← hsucc, List.map_set]; rfl
      (try push_cast -implicitDefEqProofs [eq_self, iff_self, hset])
  · have hi' : ((i : Int) < (p.length : Int)) = False := by simp; omega
    obtain rfl : i = p.length := by omega
    push_cast -implicitDefEqProofs [eq_self, iff_self, hi']
    rw [rowS_all hm]
    have := ret_row hs (z := 1) (k := 0) (rows := (rootsS p).map encI) (l := [some (.cells 1 ((rootsS p).map encI) 0)]) (φ := True) rfl (encIs_pure _) (of_eq_true (encIs_one _)) trivial
    rwa [List.length_map, rootsS_len hm] at this
theorem rootsS_le (p : List Int) : (rootsS p).length ≤ p.length := by
  rw [rootsS]; split <;> simp
theorem RootsS_q (p : List Int) (hp : p.length ≤ 1000000) : Quiet Go.Proofs.Try.prog 42 [.sl (p.map encI)] (.sl ((rootsS p).map encI)) := quiet_row (encIs_pure _) (RootsS_ok p hp)
def joinF (x y r : Int) : Int := if r = max x y then min x y else r
def joinR (R : List Int) (x y : Int) (n : Nat) : List Int := (R.take n).map (joinF x y) ++ R.drop n
theorem joinR_zero (R : List Int) (x y : Int) : joinR R x y 0 = R := by simp [joinR]
theorem joinR_len (R : List Int) (x y : Int) (n : Nat) : (joinR R x y n).length = R.length := by simp [joinR]; omega
theorem joinR_at {R : List Int} {x y : Int} {n : Nat} (h : n < R.length) : (joinR R x y n).getD n 0 = R.getD n 0 := by
  rw [joinR, List.getD_eq_getElem?_getD, List.getElem?_append_right (by simp; omega), List.getD_eq_getElem?_getD, List.getElem?_drop]
  simp [Nat.min_eq_left (Nat.le_of_lt h)]
theorem joinR_succ {R : List Int} {x y : Int} {n : Nat} (h : n < R.length) : joinR R x y (n + 1) = (joinR R x y n).set n (joinF x y (R.getD n 0)) := by
  have e : R.take (n + 1) = R.take n ++ [R.getD n 0] := by
    rw [List.take_add_one, List.getElem?_eq_getElem h, List.getD_eq_getElem?_getD, List.getElem?_eq_getElem h]; rfl
  have e2 : R.drop n = R.getD n 0 :: R.drop (n + 1) := by
    rw [List.getD_eq_getElem?_getD, List.getElem?_eq_getElem h]; exact List.drop_eq_getElem_cons h
  rw [joinR, joinR, e, List.map_append, e2]
  rw [List.set_append, if_neg (by simp; omega)]
  simp [Nat.min_eq_left (Nat.le_of_lt h)]
theorem joinR_all {R : List Int} {x y : Int} : joinR R x y R.length = R.map (joinF x y) := by simp [joinR]
theorem JoinS_ok (p : List Int) (hp : p.length ≤ 1000000) (a b : Int) (H : AH) : ACalls Go.Proofs.Try.prog 114 [.sl (p.map encI), .int a, .int b] H
    (fun r H' => r = .tup [.rsl H.nxt 1 0 p.length, .bool (joinS p a b).2] ∧ H' = H.plus [some (.cells 1 ((joinS p a b).1.map encI) 0)]) := by
  refine acalls_sc (rs := #[.tmp 6, .tmp 7]) Go.Proofs.Try.func114 rfl rfl rfl mixed rfl (Nat.le_of_ble_eq_true rfl) fun hs _ => ?_
  push_cast -implicitDefEqProofs [eq_self, iff_self]
  refine callq (FindS_ok p hp a) ?_
  push_cast -implicitDefEqProofs [eq_self, iff_self]
  refine callq (FindS_ok p hp b) ?_
  push_cast -implicitDefEqProofs [eq_self, iff_self]
  by_cases hx : findS p a = -1 ∨ findS p b = -1
  · have hd : (decide (findS p a = -1) || decide (findS p b = -1)) = true := by simpa using hx
    rw [hd]
    refine ⟨fun _ => ?_, fun h => Bool.noConfusion h⟩
    refine (CloneI_ok p hp _).mono ?_
    rintro r H' ⟨rfl, rfl⟩
    push_cast -implicitDefEqProofs [eq_self, iff_self, plus_plus, Nat.add_zero]
    refine retk trivial ?_
    rw [joinS, if_pos hx]
    exact ⟨rfl, rfl⟩
  · have hd : (decide (findS p a = -1) || decide (findS p b = -1)) = false := by simpa using hx
    rw [hd]
    refine ⟨fun h => Bool.noConfusion h, fun _ => ?_⟩
    have hm : mayS p = true := by
      by_cases hm : mayS p = true
      · exact hm
      · exact absurd (.inl (by rw [findS, if_neg (by simp [hm])])) hx
    refine (RootsS_ok p hp _).mono ?_
    rintro r H' ⟨rfl, rfl⟩
    have hj : joinS p a b = ((rootsS p).map (joinF (findS p a) (findS p b)), true) := by rw [joinS, if_neg hx]; rfl
    rw [hj]
    generalize findS p a = x at hx
    generalize findS p b = y at hx
    have hR := rootsS_len hm
    generalize rootsS p = R at hR
    push_cast -implicitDefEqProofs [eq_self, iff_self, plus_plus, Nat.add_zero]
    refine loop_at hs (σ := Nat) (fun i => i ≤ R.length) (fun i => R.length - i)
      (fun i => [(31, .int i), (30, .int R.length), (29, .rsl H.nxt 1 0 R.length), (10, .rsl H.nxt 1 0 R.length), (8, .int x), (9, .int y)]) (fun i => [some (.cells 1 ((joinR R x y i).map encI) 0)]) [some 0] 0 (by omega) rfl ?_ ?_ ?_
    · (try push_cast -implicitDefEqProofs [eq_self, iff_self])
    · (try push_cast -implicitDefEqProofs [eq_self, iff_self, joinR_zero])
    intro i hi2
    by_cases hi : i < R.length
    · have hi' : ((i : Int) < (R.length : Int)) = True := by simp; omega
      have hi0 : (0 ≤ (i : Int)) = True := by simp
      have hlen := joinR_len R x y i
      have hget := int_at (p := joinR R x y i) (i := i) (by omega)
      rw [joinR_at hi] at hget
      push_cast -implicitDefEqProofs [eq_self, iff_self, hi', hi0, hget]
      rw [wrap64 (by omega) (by omega)]
      have hmax : (if y > x then y else x) = max x y := by split <;> omega
      have hmin : (if y < x then y else x) = min x y := by split <;> omega
      have hsucc := joinR_succ (x := x) (y := y) hi
      refine ⟨by omega, fun h => ⟨by omega, next_at [some 0] (i + 1) (by omega) (by omega) rfl ?_ ?_⟩, fun h => next_at [some 0] (i + 1) (by omega) (by omega) rfl ?_ ?_⟩
      · (try push_cast -implicitDefEqProofs [eq_self, iff_self])
      · rw [hmax] at h
        rw [joinF, if_pos h] at hsucc
        have hset : ((joinR R x y i).map encI).set i [AV.lit (.int .i64 (if y < x then y else x))] = (joinR R x y (i + 1)).map encI := by rw [hsucc, List.map_set, hmin]; rfl
        (try push_cast -implicitDefEqProofs [eq_self, iff_self, hset])
      · (try push_cast -implicitDefEqProofs [eq_self, iff_self])
      · rw [hmax] at h
        rw [joinF, if_neg h] at hsucc
        have hset : joinR R x y i = joinR R x y (i + 1) := by
          rw [hsucc, ← joinR_at (x := x) (y := y) hi, List.getD_eq_getElem?_getD, List.getElem?_eq_getElem (by rw [joinR_len]; exact hi)]
          exact (List.set_getElem_self _).symm
        (try push_cast -implicitDefEqProofs [eq_self, iff_self, hset])
    · have hi' : ((i : Int) < (R.length : Int)) = False := by simp; omega
      obtain rfl : i = R.length := by omega
      push_cast -implicitDefEqProofs [eq_self, iff_self, hi']
      rw [joinR_all]
      refine retk trivial ?_
      rw [hR]
      exact ⟨rfl, rfl⟩
end
section
def encN (n : Nd) : List AV := [.bool n.jn, .int n.occ, .int n.a, .int n.b]
def encM (m : Mm) : AV := .agg [.sl (m.N.map encN), .sl (m.G.map encI), .sl (m.P.map encI)]
theorem encN_get (l : List Nd) (i : Nat) (h : i < l.length) : (l.map encN).getD i [] = encN (l.getD i nd0) := by
  rw [List.getD_eq_getElem?_getD, List.getD_eq_getElem?_getD, List.getElem?_map, List.getElem?_eq_getElem h]; rfl
theorem encN_eq (n : Nd) : encN n = [.bool n.jn, .int n.occ, .int n.a, .int n.b] := rfl
theorem encNs_pure (l : List Nd) : PureLL (l.map encN) := by
  rw [pureLL_iff]
  intro e he
  obtain ⟨x, _, rfl⟩ := List.mem_map.1 he
  simp [encN, PureL, Pure]
theorem encNs_four (l : List Nd) : (∀ e ∈ l.map encN, e.length = 4) = True := eq_true fun e he => by obtain ⟨x, _, rfl⟩ := List.mem_map.1 he; rfl
theorem encM_eq (m : Mm) : encM m = .agg [.sl (m.N.map encN), .sl (m.G.map encI), .sl (m.P.map encI)] := rfl
def _root_.Go.Sim.Mm.Small (m : Mm) : Prop := m.N.length ≤ 1000000 ∧ m.G.length ≤ 1000000 ∧ m.P.length ≤ 1000000
attribute [local push_cast] encIs_pure encNs_pure encN_eq encM_eq plus_obj0 plus_set0 piL_is00 piL_is0 piL_isk encIs_one encNs_four
def fJoin : Field := { name := "Join", type := 4, offset := 0, embedded := false, tag := "", pkgPath := "", byteOffset := 0 }
def fOcc : Field := { name := "Occ", type := 3, offset := 1, embedded := false, tag := "", pkgPath := "", byteOffset := 8 }
def fA : Field := { name := "A", type := 3, offset := 2, embedded := false, tag := "", pkgPath := "", byteOffset := 16 }
def fB : Field := { name := "B", type := 3, offset := 3, embedded := false, tag := "", pkgPath := "", byteOffset := 24 }
theorem und_node : Go.Proofs.Try.prog.underlying 55 = some (.struct #[fJoin, fOcc, fA, fB]) := by kernel_rfl
theorem cmpN (a a' : Bool) (b c d b' c' d' : Int) : CmpAt Go.Proofs.Try.prog 55 [.bool a, .int .i64 b, .int .i64 c, .int .i64 d] [.bool a', .int .i64 b', .int .i64 c', .int .i64 d'] (a == a' && (decide (b = b') && (decide (c = c') && (decide (d = d') && true)))) :=
  cmp_f4 und_node (by kernel_rfl) (by kernel_rfl) (by decide) (by decide) (by decide) (by decide)
    (fun _ _ _ _ w => run_part (t := 4) (n := 1) (by kernel_rfl) rfl) (fun _ _ _ _ w => run_part (t := 3) (n := 1) (by kernel_rfl) rfl) (fun _ _ _ _ w => run_part (t := 3) (n := 1) (by kernel_rfl) rfl) (fun _ _ _ _ w => run_part (t := 3) (n := 1) (by kernel_rfl) rfl)
    (eqIn_bool (u := 4) (by kernel_rfl) _ _) (eqIn_int (u := 3) (by kernel_rfl) _ _) (eqIn_int (u := 3) (by kernel_rfl) _ _) (eqIn_int (u := 3) (by kernel_rfl) _ _)
theorem inG_cut (m : Mm) (g : Int) : m.inG g = (decide (0 ≤ g) && decide (g < m.P.length)) := rfl
theorem Is_ok (m : Mm) (g : Int) : Quiet Go.Proofs.Try.prog 83 [encM m, .int g] (.bool (m.inG g)) := by
  refine quiet_of (rs := #[.tmp 4]) Go.Proofs.Try.func83 rfl rfl rfl mixed rfl rfl fun H hs => ?_
  push_cast -implicitDefEqProofs [eq_self, iff_self]
  by_cases h : 0 ≤ g
  · have hd : decide (0 ≤ g) = true := decide_eq_true h
    push_cast -implicitDefEqProofs [eq_self, iff_self, hd, inG_cut]
  · have hd : decide (0 ≤ g) = false := decide_eq_false h
    push_cast -implicitDefEqProofs [eq_self, iff_self, hd, inG_cut]
theorem node_cut (m : Mm) (n : Nd) : m.node n = if n.jn then decide (n.occ = 0) && m.inG n.a && m.inG n.b else decide (n.a = 0) && decide (n.b = 0) && decide (0 ≤ n.occ) && decide (n.occ < 4) := rfl
theorem Node_ok (m : Mm) (n : Nd) : Quiet Go.Proofs.Try.prog 65 [encM m, .agg (encN n)] (.bool (m.node n)) := by
  refine quiet_of (rs := #[.tmp 4]) Go.Proofs.Try.func65 rfl rfl rfl mixed rfl rfl fun H hs => ?_
  obtain ⟨j, o, a, b⟩ := n
  rw [node_cut]
  cases j with
  | false =>
    push_cast -implicitDefEqProofs [eq_self, iff_self, lits, cellsEq, cellEq, cmpN]
    have := cmpN false false o a b o 0 0
    simpa using this
  | true =>
    push_cast -implicitDefEqProofs [eq_self, iff_self]
    refine gcallq' (.bool (m.inG a)) (fun h => by simpa using h) (fun _ => Is_ok m a) ?_
    push_cast -implicitDefEqProofs [eq_self, iff_self]
    by_cases h1 : o = 0
    · have hd : decide (o = 0) = true := decide_eq_true h1
      push_cast -implicitDefEqProofs [eq_self, iff_self, hd]
      refine gcallq' (.bool (m.inG b)) (fun h => by simpa using h) (fun _ => Is_ok m b) ?_
      cases h2 : m.inG a <;> push_cast -implicitDefEqProofs [eq_self, iff_self, hd]
    · have hd : decide (o = 0) = false := decide_eq_false h1
      push_cast -implicitDefEqProofs [eq_self, iff_self, hd]
      refine gskip ?_
      push_cast -implicitDefEqProofs [eq_self, iff_self, hd]
theorem FormG_ok (m : Mm) (g : Int) : Quiet Go.Proofs.Try.prog 95 [.int g, .iptr [.sl (m.N.map encN), .sl (m.G.map encI), .sl (m.P.map encI)]] (.bool (!m.inG g)) := by
  refine quiet_of (rs := #[.tmp 3]) Go.Proofs.Try.func95 rfl rfl rfl mixed rfl rfl fun H hs => ?_
  push_cast -implicitDefEqProofs [eq_self, iff_self]
  refine callq (Is_ok m g) ?_
  push_cast -implicitDefEqProofs [eq_self, iff_self]
theorem FormN_ok (m : Mm) (n : Nd) : Quiet Go.Proofs.Try.prog 98 [.agg (encN n), .iptr [.sl (m.N.map encN), .sl (m.G.map encI), .sl (m.P.map encI)]] (.bool (!m.node n)) := by
  refine quiet_of (rs := #[.tmp 3]) Go.Proofs.Try.func98 rfl rfl rfl mixed rfl rfl fun H hs => ?_
  push_cast -implicitDefEqProofs [eq_self, iff_self]
  refine callq (Node_ok m n) ?_
  push_cast -implicitDefEqProofs [eq_self, iff_self]
def idxP {α : Type} (p : α → Bool) (l : List α) : Int := match (List.range l.length).find? fun i => (l[i]?.map p).getD false with | some i => i | none => -1
theorem idxP_hit {α : Type} {p : α → Bool} {l : List α} {i : Nat} {x : α} (hi : l[i]? = some x) (hx : p x = true) (hn : ∀ k, k < i → (l[k]?.map p).getD false = false) : idxP p l = i := by
  have hlt : i < l.length := (List.getElem?_eq_some_iff.1 hi).1
  have : (List.range l.length).find? (fun i => (l[i]?.map p).getD false) = some i := by
    rw [List.find?_range_eq_some]
    refine ⟨by rw [hi]; exact hx, by simpa using hlt, fun j hj => by rw [hn j hj]; rfl⟩
  rw [idxP, this]
theorem idxP_none {α : Type} {p : α → Bool} {l : List α} (hn : ∀ k, k < l.length → (l[k]?.map p).getD false = false) : idxP p l = -1 := by
  have : (List.range l.length).find? (fun i => (l[i]?.map p).getD false) = none := by
    rw [List.find?_eq_none]
    intro k hk
    rw [hn k (List.mem_range.1 hk)]; simp
  rw [idxP, this]
theorem idxP_any {α : Type} (p : α → Bool) (l : List α) : decide (0 ≤ idxP p l) = l.any p := by
  unfold idxP
  split
  · rename_i i h
    obtain ⟨h1, h2, _⟩ := List.find?_range_eq_some.1 h
    have hlt := List.mem_range.1 h2
    rw [List.getElem?_eq_getElem hlt] at h1
    rw [decide_eq_true (by omega), eq_comm, List.any_eq_true]
    exact ⟨_, List.getElem_mem hlt, by simpa using h1⟩
  · rename_i h
    rw [List.find?_eq_none] at h
    rw [decide_eq_false (by omega), eq_comm, List.any_eq_false]
    intro x hx
    obtain ⟨i, hi, rfl⟩ := List.getElem_of_mem hx
    have := h i (List.mem_range.2 hi)
    rw [List.getElem?_eq_getElem hi] at this
    simpa using this
theorem IndexI_ok {p : Int → Bool} {fn : FuncId} {caps : List AV} (hc : PureL caps) (l : List Int) (hl : l.length ≤ 1000000) (hf : ∀ x, Quiet Go.Proofs.Try.prog fn (.int x :: caps) (.bool (p x))) :
    Quiet Go.Proofs.Try.prog 118 [.sl (l.map encI), .clo (.func fn) [] caps] (.int (idxP p l)) := by
  refine quiet_of (rs := #[.tmp 4]) Go.Proofs.Try.func118 rfl rfl rfl mixed rfl rfl fun H hs => ?_
  push_cast -implicitDefEqProofs [eq_self, iff_self]
  refine loop_at hs (σ := Nat) (fun i => i ≤ l.length ∧ ∀ k, k < i → (l[k]?.map p).getD false = false) (fun i => l.length - i)
    (fun i => [(8, .int i), (7, .int l.length), (1, .clo (.func fn) [] caps), (0, .sl (l.map encI))]) (fun i => []) [] 0 ⟨by omega, fun k hk => by omega⟩ rfl ?_ ?_ ?_
  · (try push_cast -implicitDefEqProofs [eq_self, iff_self])
    exact sealL_pure _ _ _ hc
  · (try push_cast -implicitDefEqProofs [eq_self, iff_self])
  rintro i ⟨hi2, hall⟩
  by_cases hi : i < l.length
  · have hi' : ((i : Int) < (l.length : Int)) = True := by simp; omega
    have hi0 : (0 ≤ (i : Int)) = True := by simp
    have hget : (l.map encI).getD i [] = encI l[i] := by rw [List.getD_eq_getElem?_getD, List.getElem?_map, List.getElem?_eq_getElem hi]; rfl
    have hsome : l[i]? = some l[i] := List.getElem?_eq_getElem hi
    generalize l[i] = x at hget hsome
    push_cast -implicitDefEqProofs [eq_self, iff_self, hi', hi0, hget, encI]
    refine callq (hf x) ?_
    cases hp : p x with
    | true =>
      rw [idxP_hit hsome hp hall]
      push_cast -implicitDefEqProofs [eq_self, iff_self, hi', hi0]
    | false =>
      push_cast -implicitDefEqProofs [eq_self, iff_self, hi', hi0]
      rw [wrap64 (by omega) (by omega)]
      refine next_at [] (i + 1) ⟨by omega, fun k hk => ?_⟩ (by omega) rfl ?_ ?_
      · rcases Nat.lt_succ_iff_lt_or_eq.1 hk with h1 | h1
        · exact hall k h1
        · subst h1; rw [hsome]; exact hp
      · (try push_cast -implicitDefEqProofs [eq_self, iff_self])
        exact sealL_pure _ _ _ hc
      · (try push_cast -implicitDefEqProofs [eq_self, iff_self])
  · have hi' : ((i : Int) < (l.length : Int)) = False := by simp; omega
    obtain rfl : i = l.length := by omega
    rw [idxP_none hall]
    push_cast -implicitDefEqProofs [eq_self, iff_self, hi']
theorem ContainsI_ok {p : Int → Bool} {fn : FuncId} {caps : List AV} (hc : PureL caps) (l : List Int) (hl : l.length ≤ 1000000) (hf : ∀ x, Quiet Go.Proofs.Try.prog fn (.int x :: caps) (.bool (p x))) :
    Quiet Go.Proofs.Try.prog 96 [.sl (l.map encI), .clo (.func fn) [] caps] (.bool (l.any p)) := by
  refine quiet_of (rs := #[.tmp 4]) Go.Proofs.Try.func96 rfl rfl rfl mixed rfl rfl fun H hs => ?_
  push_cast -implicitDefEqProofs [eq_self, iff_self]
  refine callq (IndexI_ok hc l hl hf) ?_
  push_cast -implicitDefEqProofs [eq_self, iff_self]
  rw [idxP_any]
theorem IndexN_ok {p : Nd → Bool} {fn : FuncId} {caps : List AV} (hc : PureL caps) (l : List Nd) (hl : l.length ≤ 1000000) (hf : ∀ x, Quiet Go.Proofs.Try.prog fn (.agg (encN x) :: caps) (.bool (p x))) :
    Quiet Go.Proofs.Try.prog 119 [.sl (l.map encN), .clo (.func fn) [] caps] (.int (idxP p l)) := by
  refine quiet_of (rs := #[.tmp 4]) Go.Proofs.Try.func119 rfl rfl rfl mixed rfl rfl fun H hs => ?_
  push_cast -implicitDefEqProofs [eq_self, iff_self]
  refine loop_at hs (σ := Nat) (fun i => i ≤ l.length ∧ ∀ k, k < i → (l[k]?.map p).getD false = false) (fun i => l.length - i)
    (fun i => [(8, .int i), (7, .int l.length), (1, .clo (.func fn) [] caps), (0, .sl (l.map encN))]) (fun i => []) [] 0 ⟨by omega, fun k hk => by omega⟩ rfl ?_ ?_ ?_
  · (try push_cast -implicitDefEqProofs [eq_self, iff_self])
    exact sealL_pure _ _ _ hc
  · (try push_cast -implicitDefEqProofs [eq_self, iff_self])
  rintro i ⟨hi2, hall⟩
  by_cases hi : i < l.length
  · have hi' : ((i : Int) < (l.length : Int)) = True := by simp; omega
    have hi0 : (0 ≤ (i : Int)) = True := by simp
    have hget : (l.map encN).getD i [] = encN l[i] := by rw [List.getD_eq_getElem?_getD, List.getElem?_map, List.getElem?_eq_getElem hi]; rfl
    have hsome : l[i]? = some l[i] := List.getElem?_eq_getElem hi
    generalize l[i] = x at hget hsome
    push_cast -implicitDefEqProofs [eq_self, iff_self, hi', hi0, hget, List.length_cons]
    refine callq (hf x) ?_
    cases hp : p x with
    | true =>
      rw [idxP_hit hsome hp hall]
      push_cast -implicitDefEqProofs [eq_self, iff_self, hi', hi0]
    | false =>
      push_cast -implicitDefEqProofs [eq_self, iff_self, hi', hi0]
      rw [wrap64 (by omega) (by omega)]
      refine next_at [] (i + 1) ⟨by omega, fun k hk => ?_⟩ (by omega) rfl ?_ ?_
      · rcases Nat.lt_succ_iff_lt_or_eq.1 hk with h1 | h1
        · exact hall k h1
        · subst h1; rw [hsome]; exact hp
      · (try push_cast -implicitDefEqProofs [eq_self, iff_self])
        exact sealL_pure _ _ _ hc
      · (try push_cast -implicitDefEqProofs [eq_self, iff_self])
  · have hi' : ((i : Int) < (l.length : Int)) = False := by simp; omega
    obtain rfl : i = l.length := by omega
    rw [idxP_none hall]
    push_cast -implicitDefEqProofs [eq_self, iff_self, hi']
theorem ContainsN_ok {p : Nd → Bool} {fn : FuncId} {caps : List AV} (hc : PureL caps) (l : List Nd) (hl : l.length ≤ 1000000) (hf : ∀ x, Quiet Go.Proofs.Try.prog fn (.agg (encN x) :: caps) (.bool (p x))) :
    Quiet Go.Proofs.Try.prog 97 [.sl (l.map encN), .clo (.func fn) [] caps] (.bool (l.any p)) := by
  refine quiet_of (rs := #[.tmp 4]) Go.Proofs.Try.func97 rfl rfl rfl mixed rfl rfl fun H hs => ?_
  push_cast -implicitDefEqProofs [eq_self, iff_self]
  refine callq (IndexN_ok hc l hl hf) ?_
  push_cast -implicitDefEqProofs [eq_self, iff_self]
  rw [idxP_any]
theorem form_cut (m : Mm) : m.form = (mayS m.P && decide (m.G.length = m.N.length) && decide (m.N.length ≤ 400) && m.G.all m.inG && m.N.all m.node) := rfl
theorem Form_ok (m : Mm) (hm : m.Small) : Quiet Go.Proofs.Try.prog 61 [encM m] (.bool m.form) := by
  refine quiet_of (rs := #[.tmp 2]) Go.Proofs.Try.func61 rfl rfl rfl mixed rfl rfl fun H hs => ?_
  push_cast -implicitDefEqProofs [eq_self, iff_self]
  refine callq (MayS_ok m.P hm.2.2) ?_
  push_cast -implicitDefEqProofs [eq_self, iff_self]
  have hpG : m.G.any (fun g => !m.inG g) = !m.G.all m.inG := by rw [Bool.eq_iff_iff]; simp
  have hpN : m.N.any (fun g => !m.node g) = !m.N.all m.node := by rw [Bool.eq_iff_iff]; simp
  by_cases hc : mayS m.P = true ∧ m.G.length = m.N.length ∧ m.N.length ≤ 400
  case neg =>
    have hd : (!mayS m.P || !decide ((m.G.length : Int) = m.N.length) || decide (400 < (m.N.length : Int))) = true := by
      cases h : mayS m.P <;> simp [h] at hc ⊢; omega
    rw [hd]
    refine ⟨fun _ => ?_, fun h => Bool.noConfusion h⟩
    rw [form_cut, eq_comm, Bool.eq_false_iff]
    intro h
    simp only [Bool.and_eq_true, decide_eq_true_eq] at h
    exact hc ⟨h.1.1.1.1, h.1.1.1.2, h.1.1.2⟩
  obtain ⟨h1, h2, h3⟩ := hc
  have hd : (!mayS m.P || !decide ((m.G.length : Int) = m.N.length) || decide (400 < (m.N.length : Int))) = false := by
    rw [h1, h2, decide_eq_true rfl, decide_eq_false (by omega)]; rfl
  have hf : m.form = (m.G.all m.inG && m.N.all m.node) := by
    rw [form_cut, h1, decide_eq_true h2, decide_eq_true h3]; rfl
  rw [hd, hf]
  refine ⟨fun h => Bool.noConfusion h, fun _ => ?_⟩
  refine fzk H 0 1 [.sl (m.G.map encI), .clo (.func 95) [] [.iptr [.sl (m.N.map encN), .sl (m.G.map encI), .sl (m.P.map encI)]]] rfl (by omega) (by simp) (by (try push_cast -implicitDefEqProofs [eq_self, iff_self])) ?_
  refine callq (ContainsI_ok (by simp only [PureL, Pure, encNs_pure, encIs_pure, and_self]) m.G hm.2.1 (FormG_ok m)) ?_
  rw [hpG]
  push_cast -implicitDefEqProofs [eq_self, iff_self]
  refine gcalla [.sl (m.N.map encN), .clo (.func 98) [] [.iptr [.sl (m.N.map encN), .sl (m.G.map encI), .sl (m.P.map encI)]]] (.bool (!m.N.all m.node)) (fun h => by simpa using h) (fun _ => ?_) (by (try push_cast -implicitDefEqProofs [eq_self, iff_self])) ?_
  · rw [← hpN]
    exact ContainsN_ok (by simp only [PureL, Pure, encNs_pure, encIs_pure, and_self]) m.N hm.1 (FormN_ok m)
  cases hg : m.G.all m.inG <;> push_cast -implicitDefEqProofs [eq_self, iff_self]
end
section
attribute [local push_cast] encIs_pure encNs_pure encN_eq encM_eq plus_obj0 plus_set0 piL_is00 piL_is0 piL_isk encIs_one encNs_four awY_skip awY_region awY_regionD awY_seq awY_cond awY_block awY_loop awY_exit awY_ret awY_range aopsY_nil aopsY_cons acy ayl xq_eq rq_normal
set_option maxHeartbeats 4000000 in
theorem CanonR_ok (R : List Int) (hR : R.length ≤ 1000000) (n : Nd) (hn : n.jn = true → (0 ≤ n.a ∧ n.a < R.length) ∧ 0 ≤ n.b ∧ n.b < R.length) : Quiet Go.Proofs.Try.prog 99 [.agg (encN n), .sl (R.map encI)] (.agg (encN (canonR R n))) := by
  refine quietY_of (rs := #[.cell 4 55]) Go.Proofs.Try.func99 rfl rfl rfl mixed rfl rfl (Nat.le_of_ble_eq_true rfl) fun H hs => ?_
  obtain ⟨j, o, a, b⟩ := n
  cases j with
  | false => push_cast -implicitDefEqProofs [eq_self, iff_self, canonR]
  | true =>
    obtain ⟨⟨ha, ha2⟩, hb, hb2⟩ : (0 ≤ a ∧ a < R.length) ∧ 0 ≤ b ∧ b < R.length := hn rfl
    obtain ⟨a, rfl⟩ : ∃ y : Nat, a = y := ⟨a.toNat, by omega⟩
    obtain ⟨b, rfl⟩ : ∃ y : Nat, b = y := ⟨b.toNat, by omega⟩
    have hga := int_at (p := R) (i := a) (by omega)
    have hgb := int_at (p := R) (i := b) (by omega)
    have hga1 : ((a : Int) < (R.length : Int)) = True := by simp; omega
    have hgb1 : ((b : Int) < (R.length : Int)) = True := by simp; omega
    push_cast -implicitDefEqProofs [eq_self, iff_self, canonR]
    refine aregY_cutW 12 (by kernel_rfl) (.inl (areg_free2 (H1 := H.plus [some (.cells 4 [[.bool true, .int o, .int (R.getD a 0), .int b]] 0), some (.cells 4 [[.bool false, .int 0, .int 0, .int 0]] 0)]) 11 7
      (fun k => [AV.sl (R.map encI), .ptr (H.nxt + 0) 4 0 2, .int a, .iptr [.int (R.getD a 0)], .int (R.getD a 0), .sl (R.map encI), .ptr (H.nxt + 0) 4 0 3, .int b, .iptr [.int (R.getD b 0)], .int (R.getD b 0), .ptr (H.nxt + 0) 4 0 2].getD k .any) (by kernel_rfl) (by kernel_rfl) ?_ ?_ ?_))
    · intro k p T H' C hk ho hT hd hH hC
      have t1 := hT 1 (by omega)
      have t2 := hT 2 (by omega)
      have hc : k = 0 ∨ k = 1 ∨ k = 2 ∨ k = 3 ∨ k = 4 ∨ k = 5 ∨ k = 6 ∨ k = 7 ∨ k = 8 ∨ k = 9 ∨ k = 10 := by omega
      rcases hc with rfl | rfl | rfl | rfl | rfl | rfl | rfl | rfl | rfl | rfl | rfl
      all_goals
        simp only [headArr, List.take_succ_cons, List.take_zero, List.getElem?_toArray, List.getElem?_cons_zero, List.getElem?_cons_succ, Option.some.injEq] at ho
        subst ho
      · skip
        rcases hH with rfl | ⟨rfl, hno⟩
        · push_cast -implicitDefEqProofs [eq_self, iff_self, t1, hga, hgb, hga1, hgb1, List.getD_cons_zero, List.getD_cons_succ, List.length_cons, List.length_nil]
          exact hC
        · exact absurd (hno _ rfl) (by decide)
      · skip
        rcases hH with rfl | ⟨rfl, hno⟩
        · push_cast -implicitDefEqProofs [eq_self, iff_self, t2, hga, hgb, hga1, hgb1, List.getD_cons_zero, List.getD_cons_succ, List.length_cons, List.length_nil]
          exact hC
        · exact absurd (hno _ rfl) (by decide)
      · skip
        have d1 := hd 1 (by rfl) (by omega)
        rcases hH with rfl | ⟨rfl, hno⟩
        · push_cast -implicitDefEqProofs [eq_self, iff_self, d1, hga, hgb, hga1, hgb1, List.getD_cons_zero, List.getD_cons_succ, List.length_cons, List.length_nil]
          exact hC
        · exact absurd (hno _ rfl) (by decide)
      · skip
        have d0 := hd 0 (by rfl) (by omega)
        have d2 := hd 2 (by rfl) (by omega)
        rcases hH with rfl | ⟨rfl, hno⟩
        · push_cast -implicitDefEqProofs [eq_self, iff_self, d0, d2, hga, hgb, hga1, hgb1, List.getD_cons_zero, List.getD_cons_succ, List.length_cons, List.length_nil]
          exact ⟨by omega, hC⟩
        · exact absurd (hno _ rfl) (by decide)
      · skip
        have d3 := hd 3 (by rfl) (by omega)
        rcases hH with rfl | ⟨rfl, hno⟩
        · push_cast -implicitDefEqProofs [eq_self, iff_self, d3, hga, hgb, hga1, hgb1, List.getD_cons_zero, List.getD_cons_succ, List.length_cons, List.length_nil]
          exact hC
        · exact absurd (hno _ rfl) (by decide)
      · skip
        rcases hH with rfl | ⟨rfl, hno⟩
        · push_cast -implicitDefEqProofs [eq_self, iff_self, t1, hga, hgb, hga1, hgb1, List.getD_cons_zero, List.getD_cons_succ, List.length_cons, List.length_nil]
          exact hC
        · push_cast -implicitDefEqProofs [eq_self, iff_self, t1, hga, hgb, hga1, hgb1, List.getD_cons_zero, List.getD_cons_succ, List.length_cons, List.length_nil]
          exact hC
      · skip
        rcases hH with rfl | ⟨rfl, hno⟩
        · push_cast -implicitDefEqProofs [eq_self, iff_self, t2, hga, hgb, hga1, hgb1, List.getD_cons_zero, List.getD_cons_succ, List.length_cons, List.length_nil]
          exact hC
        · exact absurd (hno _ rfl) (by decide)
      · skip
        have d6 := hd 6 (by rfl) (by omega)
        rcases hH with rfl | ⟨rfl, hno⟩
        · push_cast -implicitDefEqProofs [eq_self, iff_self, d6, hga, hgb, hga1, hgb1, List.getD_cons_zero, List.getD_cons_succ, List.length_cons, List.length_nil]
          exact hC
        · exact absurd (hno _ rfl) (by decide)
      · skip
        have d5 := hd 5 (by rfl) (by omega)
        have d7 := hd 7 (by rfl) (by omega)
        rcases hH with rfl | ⟨rfl, hno⟩
        · push_cast -implicitDefEqProofs [eq_self, iff_self, d5, d7, hga, hgb, hga1, hgb1, List.getD_cons_zero, List.getD_cons_succ, List.length_cons, List.length_nil]
          exact ⟨by omega, hC⟩
        · push_cast -implicitDefEqProofs [eq_self, iff_self, d5, d7, hga, hgb, hga1, hgb1, List.getD_cons_zero, List.getD_cons_succ, List.length_cons, List.length_nil]
          exact ⟨by omega, hC⟩
      · skip
        have d8 := hd 8 (by rfl) (by omega)
        rcases hH with rfl | ⟨rfl, hno⟩
        · push_cast -implicitDefEqProofs [eq_self, iff_self, d8, hga, hgb, hga1, hgb1, List.getD_cons_zero, List.getD_cons_succ, List.length_cons, List.length_nil]
          exact hC
        · push_cast -implicitDefEqProofs [eq_self, iff_self, d8, hga, hgb, hga1, hgb1, List.getD_cons_zero, List.getD_cons_succ, List.length_cons, List.length_nil]
          exact hC
      · skip
        rcases hH with rfl | ⟨rfl, hno⟩
        · push_cast -implicitDefEqProofs [eq_self, iff_self, t2, hga, hgb, hga1, hgb1, List.getD_cons_zero, List.getD_cons_succ, List.length_cons, List.length_nil]
          exact hC
        · push_cast -implicitDefEqProofs [eq_self, iff_self, t2, hga, hgb, hga1, hgb1, List.getD_cons_zero, List.getD_cons_succ, List.length_cons, List.length_nil]
          exact hC
    · intro p T C ho hT hd hC
      simp only [headArr, List.take_succ_cons, List.take_zero, List.getElem?_toArray, List.getElem?_cons_zero, List.getElem?_cons_succ, Option.some.injEq] at ho
      subst ho
      have d4 := hd 4 (by rfl) (by omega)
      have d10 := hd 10 (by rfl) (by omega)
      push_cast -implicitDefEqProofs [eq_self, iff_self, d4, d10, List.getD_cons_zero, List.getD_cons_succ, List.length_cons, List.length_nil]
      exact hC
    · intro T hT hd
      have t1 := hT 1 (by omega)
      have t2 := hT 2 (by omega)
      have t4 := hT 4 (by omega)
      have d9 := hd 9 (by omega)
      push_cast -implicitDefEqProofs [eq_self, iff_self, t1, t2, t4, d9, List.getD_cons_zero, List.getD_cons_succ, List.length_cons, List.length_nil]
end
section
attribute [local push_cast] encIs_pure encNs_pure encN_eq encM_eq plus_obj0 plus_set0 piL_is00 piL_is0 piL_isk encIs_one encNs_four
def keyN (n : Nd) : Value := .agg #[.bool n.jn, .int .i64 n.occ, .int .i64 n.a, .int .i64 n.b]
theorem sameV_N (x y : Nd) : sameV (keyN x) (keyN y) = eqN x y := by
  simp only [keyN, sameV, sameVs, same1, eqN, decide_true, Bool.true_and]
theorem findAtN (n : Nd) (l : List Nd) : FindAt Go.Proofs.Try.prog 55 (keyN n) (l.map keyN) := by
  refine findAt_ask (by kernel_rfl) (fun w em => ?_) (fun v hv w => ?_) (fun v hv h => ?_) (by simp [keyN, Instr.sameBits])
  · exact key_f4 und_node (by decide) (by decide) (by decide) (by decide) (.inr (by kernel_rfl)) (.inl (by kernel_rfl)) (.inl (by kernel_rfl)) (.inl (by kernel_rfl))
      (fun _ _ _ _ w => run_part (t := 4) (n := 1) (by kernel_rfl) rfl) (fun _ _ _ _ w => run_part (t := 3) (n := 1) (by kernel_rfl) rfl) (fun _ _ _ _ w => run_part (t := 3) (n := 1) (by kernel_rfl) rfl) (fun _ _ _ _ w => run_part (t := 3) (n := 1) (by kernel_rfl) rfl) _ _ _ _ w em
  · obtain ⟨y, _, rfl⟩ := List.mem_map.1 hv
    rw [sameV_N]
    exact (cmpN n.jn y.jn n.occ n.a n.b y.occ y.a y.b w).1
  · obtain ⟨y, _, rfl⟩ := List.mem_map.1 hv
    rw [sameV_N] at h
    rw [eqN_iff.1 h]
def kvN (C : List Nd) (i : Nat) : List (Value × AV) := (newN C i).map fun j => (keyN (C.getD j nd0), AV.int j)
theorem keyN_of (n : Nd) : Value.agg [Value.bool n.jn, .int .i64 n.occ, .int .i64 n.a, .int .i64 n.b].toArray = keyN n := rfl
theorem kvN_pure (C : List Nd) (i : Nat) : PureL ((kvN C i).map (·.2)) := by
  rw [pureL_iff]
  intro v hv
  simp only [kvN, List.map_map, List.mem_map] at hv
  obtain ⟨j, _, rfl⟩ := hv
  trivial
theorem sealO_kv (π : Nat → Option Nat) (H H' : AH) (C : List Nd) (i : Nat) : SealO π H H' (.amap (kvN C i)) (.amap (kvN C i)) = True := eq_true ⟨_, rfl, rfl, sealL_pure _ _ _ (kvN_pure C i)⟩
theorem kvN_keys (C : List Nd) (i : Nat) : (kvN C i).map (·.1) = ((newN C i).map fun j => C.getD j nd0).map keyN := by
  rw [kvN, List.map_map, List.map_map]; rfl
theorem afind_map (c : Nd) (C : List Nd) : ∀ (l : List Nat), afind (keyN c) (l.map fun j => (keyN (C.getD j nd0), AV.int j)) = (l.find? fun j => eqN c (C.getD j nd0)).map fun j => AV.int j
  | [] => rfl
  | j :: l => by
    rw [List.map_cons, afind, sameV_N, List.find?_cons]
    cases h : eqN c (C.getD j nd0)
    · rw [if_neg (by decide)]; exact afind_map c C l
    · rfl
theorem kvN_find {C : List Nd} {i : Nat} (hi : i ≤ C.length) (c : Nd) : afind (keyN c) (kvN C i) = if idxN c C < i then some (AV.int (idxN c C)) else none := by
  rw [kvN, afind_map, newN_find hi]
  split <;> rfl
theorem kidx_none {k : Value} {v : List (Value × AV)} (h : afind k v = none) : kidx k (v.map (·.1)) = none := by
  induction v with
  | nil => rfl
  | cons x l ih =>
    obtain ⟨k', u⟩ := x
    rw [afind] at h
    rw [List.map_cons, kidx]
    split at h
    · cases h
    · rename_i hs
      rw [if_neg hs, ih h]; rfl
theorem kvN_put {C : List Nd} {i : Nat} (hi : i < C.length) (hn : ¬ idxN (C.getD i nd0) C < i) : aput (keyN (C.getD i nd0)) (.int i) (kvN C i) = kvN C (i + 1) := by
  have h1 := idxN_self hi
  have hf := kvN_find (Nat.le_of_lt hi) (C.getD i nd0)
  rw [if_neg hn] at hf
  rw [aput_none (kidx_none hf), kvN, kvN, newN_succ, if_pos (by omega), List.map_append]
  rfl
theorem kvN_stay {C : List Nd} {i : Nat} (hn : idxN (C.getD i nd0) C < i) : kvN C i = kvN C (i + 1) := by
  rw [kvN, kvN, newN_succ, if_neg (by omega), List.append_nil]
theorem form_iff (m : Mm) : m.form = true ↔ mayS m.P = true ∧ m.G.length = m.N.length ∧ m.N.length ≤ 400 ∧ (∀ g ∈ m.G, m.inG g = true) ∧ ∀ n ∈ m.N, m.node n = true := by
  rw [form_cut]
  simp only [Bool.and_eq_true, decide_eq_true_eq, List.all_eq_true, and_assoc]
theorem form_P {m : Mm} (h : m.form = true) : mayS m.P = true := ((form_iff m).1 h).1
theorem form_small {m : Mm} (h : m.form = true) : m.Small := by
  obtain ⟨h1, h2, h3, _⟩ := (form_iff m).1 h
  have := (mayS_iff.1 h1).2
  exact ⟨by omega, by omega, by omega⟩
theorem node_join {m : Mm} {n : Nd} (h : m.node n = true) (hj : n.jn = true) : n.occ = 0 ∧ (0 ≤ n.a ∧ n.a < m.P.length) ∧ 0 ≤ n.b ∧ n.b < m.P.length := by
  rw [node_cut, if_pos hj] at h
  simp only [Bool.and_eq_true, decide_eq_true_eq, inG_cut] at h
  exact ⟨h.1.1, h.1.2, h.2⟩
theorem node_leaf {m : Mm} {n : Nd} (h : m.node n = true) (hj : n.jn = false) : n.a = 0 ∧ n.b = 0 ∧ 0 ≤ n.occ ∧ n.occ < 4 := by
  rw [node_cut, if_neg (by rw [hj]; decide)] at h
  simp only [Bool.and_eq_true, decide_eq_true_eq] at h
  exact ⟨h.1.1.1, h.1.1.2, h.1.2, h.2⟩
theorem getD_mem {α : Type} {l : List α} {i : Nat} {d : α} (h : i < l.length) : l.getD i d ∈ l := by
  rw [List.getD_eq_getElem?_getD, List.getElem?_eq_getElem h]; exact List.getElem_mem h
theorem form_G {m : Mm} (h : m.form = true) {i : Nat} (hi : i < m.N.length) : 0 ≤ m.G.getD i 0 ∧ m.G.getD i 0 < m.P.length := by
  obtain ⟨_, h2, _, h4, _⟩ := (form_iff m).1 h
  have := h4 _ (getD_mem (d := 0) (show i < m.G.length by omega))
  simpa only [inG_cut, Bool.and_eq_true, decide_eq_true_eq] using this
theorem form_N {m : Mm} (h : m.form = true) {i : Nat} (hi : i < m.N.length) : m.node (m.N.getD i nd0) = true := ((form_iff m).1 h).2.2.2.2 _ (getD_mem hi)
theorem cs_len (m : Mm) : m.cs.length = m.N.length := by simp [Mm.cs]
theorem cs_at {m : Mm} {i : Nat} (hi : i < m.N.length) : m.cs.getD i nd0 = canonR (rootsS m.P) (m.N.getD i nd0) := by
  rw [Mm.cs, List.getD_eq_getElem?_getD, List.getElem?_map, List.getElem?_eq_getElem hi, List.getD_eq_getElem?_getD, List.getElem?_eq_getElem hi]; rfl
theorem bad_cut (m : Mm) (i : Nat) : m.bad i = !decide (m.rg (m.at1 i) = m.rg i) := rfl
theorem openM_none {m : Mm} (h : ∀ j, j < m.N.length → m.bad j = false) : m.openM = none := by
  rw [Mm.openM, Option.map_eq_none_iff, List.find?_eq_none]
  intro j hj
  rw [h j (List.mem_range.1 hj)]
  decide
theorem openM_some {m : Mm} {i : Nat} (hi : i < m.N.length) (hb : m.bad i = true) (h : ∀ j, j < i → m.bad j = false) : m.openM = some (m.G.getD (m.at1 i) 0, m.G.getD i 0) := by
  have : (List.range m.N.length).find? m.bad = some i := by
    rw [List.find?_range_eq_some]
    exact ⟨hb, by simpa using hi, fun j hj => by rw [h j hj]; rfl⟩
  rw [Mm.openM, this]; rfl
set_option maxHeartbeats 4000000 in
theorem First_ok (m : Mm) (hf : m.form = true) (H : AH) : ACalls Go.Proofs.Try.prog 62 [encM m] H
    (fun r H' => ∃ kvs, H' = H.plus [some (.amap kvs)] ∧ ((m.openM = none ∧ kvs = kvN m.cs m.N.length ∧ r = .tup [.mp (H.nxt + 0), .agg [.int 0, .int 0], .bool true]) ∨ (∃ x, m.openM = some x ∧ r = .tup [.mp (H.nxt + 0), .agg [.int x.1, .int x.2], .bool false]))) := by
  have hsm := form_small hf
  have hP := form_P hf
  have hRl := rootsS_len hP
  have hPl := (mayS_iff.1 hP).2
  have hNl := ((form_iff m).1 hf).2.2.1
  refine acalls_sc (rs := #[.tmp 2, .cell 3 87, .tmp 4]) Go.Proofs.Try.func62 rfl rfl rfl mixed rfl (Nat.le_of_ble_eq_true rfl) fun hs _ => ?_
  push_cast -implicitDefEqProofs [eq_self, iff_self]
  refine callq (RootsS_q m.P hsm.2.2) ?_
  push_cast -implicitDefEqProofs [eq_self, iff_self]
  have e0 : kvN m.cs 0 = [] := rfl
  refine loop_at hs (σ := Nat) (fun i => i ≤ m.N.length ∧ ∀ j, j < i → m.bad j = false) (fun i => m.N.length - i)
    (fun i => [(19, .int i), (18, .int m.N.length), (17, .sl (m.N.map encN)), (6, .mp (H.nxt + 2)), (5, .sl ((rootsS m.P).map encI)), (3, .ptr (H.nxt + 1) 2 0 0), (1, .ptr (H.nxt + 0) 3 0 0)])
    (fun i => [some (.cells 3 [[.sl (m.N.map encN), .sl (m.G.map encI), .sl (m.P.map encI)]] 0), some (.cells 2 [[.int 0, .int 0]] 0), some (.amap (kvN m.cs i))]) [some 0, some 1, some 2] 0 ⟨by omega, fun j hj => by omega⟩ rfl ?_ ?_ ?_
  · (try push_cast -implicitDefEqProofs [eq_self, iff_self])
  · rw [← e0]
    (try push_cast -implicitDefEqProofs [eq_self, iff_self, sealO_kv])
  rintro i ⟨hi2, hall⟩
  by_cases hi : i < m.N.length
  · have hi' : ((i : Int) < (m.N.length : Int)) = True := by simp; omega
    have hi0 : (0 ≤ (i : Int)) = True := by simp
    have hget := encN_get m.N i hi
    have hcs := cs_at hi
    have hcl := cs_len m
    have hG := form_G hf hi
    have hN := form_N hf hi
    have hself := idxN_self (l := m.cs) (i := i) (by omega)
    have hfind := kvN_find (C := m.cs) (i := i) (by omega) (m.cs.getD i nd0)
    have hfa := fun l => findAtN (m.cs.getD i nd0) l
    have hbad := bad_cut m i
    have hat : m.at1 i = idxN (m.cs.getD i nd0) m.cs := rfl
    push_cast -implicitDefEqProofs [eq_self, iff_self, hi', hi0, hget]
    refine callq (CanonR_ok (rootsS m.P) (by omega) (m.N.getD i nd0) fun hj => ?_) ?_
    · have := node_join hN hj
      rw [hRl]; exact this.2
    rw [← hcs]
    by_cases hnew : idxN (m.cs.getD i nd0) m.cs < i
    · rw [if_pos hnew] at hfind
      have hG1 := form_G hf (show m.at1 i < m.N.length by omega)
      have hstay := kvN_stay hnew
      push_cast -implicitDefEqProofs [eq_self, iff_self, hi', hi0, lits, keyN_of, hfind, kvN_keys, hfa]
      have hop := openM_some hi
      rw [← hat] at hnew hfind ⊢
      generalize m.at1 i = k at *
      have hk0 : (0 ≤ (k : Int)) = True := by simp
      have hg1 := int_at (p := m.G) (i := k) (by have := ((form_iff m).1 hf).2.1; omega)
      have hg2 := int_at (p := m.G) (i := i) (by have := ((form_iff m).1 hf).2.1; omega)
      have hr1 := int_at (p := rootsS m.P) (i := (m.G.getD k 0).toNat) (by omega)
      have hr2 := int_at (p := rootsS m.P) (i := (m.G.getD i 0).toNat) (by omega)
      have er1 : m.rg k = (rootsS m.P).getD (m.G.getD k 0).toNat 0 := rfl
      have er2 : m.rg i = (rootsS m.P).getD (m.G.getD i 0).toNat 0 := rfl
      rw [← er1] at hr1
      rw [← er2] at hr2
      refine areg_at 17 (by kernel_rfl) (by kernel_rfl) ?_
      push_cast -implicitDefEqProofs [eq_self, iff_self, hi', hi0, hk0, hg1, hg2, hr1, hr2]
      have hGl := ((form_iff m).1 hf).2.1
      refine ⟨by omega, ⟨hG1.1, by omega⟩, by omega, ⟨hG.1, by omega⟩, fun hne => ?_, fun heq => ?_⟩
      · refine areg_at 13 (by kernel_rfl) (by kernel_rfl) ?_
        push_cast -implicitDefEqProofs [eq_self, iff_self, hi', hi0, hk0, hg1, hg2, hr1, hr2]
        have hb1 : m.bad i = true := by rw [hbad]; simpa using hne
        refine ⟨by omega, by omega, retp (l' := [some (.amap (kvN m.cs i))]) hs [some 2] (.tup [.mp (H.nxt + 0), .agg [.int (m.G.getD k 0), .int (m.G.getD i 0)], .bool false]) trivial ⟨_, rfl, .inr ⟨_, hop hb1 hall, rfl⟩⟩ rfl ?_ ?_⟩
        · (try push_cast -implicitDefEqProofs [eq_self, iff_self])
        · (try push_cast -implicitDefEqProofs [eq_self, iff_self, sealO_kv])
      · rw [wrap64 (by omega) (by omega)]
        have hb0 : m.bad i = false := by rw [hbad]; simpa using heq
        refine next_at [some 0, some 1, some 2] (i + 1) ⟨by omega, fun j hj => ?_⟩ (by omega) rfl ?_ ?_
        · rcases Nat.lt_succ_iff_lt_or_eq.1 hj with h1 | h1
          · exact hall j h1
          · rw [h1]; exact hb0
        · (try push_cast -implicitDefEqProofs [eq_self, iff_self])
        · rw [← hstay]
          (try push_cast -implicitDefEqProofs [eq_self, iff_self, sealO_kv])
    · rw [if_neg hnew] at hfind
      have hput := kvN_put (show i < m.cs.length by omega) hnew
      push_cast -implicitDefEqProofs [eq_self, iff_self, hi', hi0, lits, keyN_of, hfind, kvN_keys, hfa, hput]
      rw [wrap64 (by omega) (by omega)]
      have hb0 : m.bad i = false := by rw [hbad, hat, show idxN (m.cs.getD i nd0) m.cs = i by omega]; simp
      refine next_at [some 0, some 1, some 2] (i + 1) ⟨by omega, fun j hj => ?_⟩ (by omega) rfl ?_ ?_
      · rcases Nat.lt_succ_iff_lt_or_eq.1 hj with h1 | h1
        · exact hall j h1
        · rw [h1]; exact hb0
      · (try push_cast -implicitDefEqProofs [eq_self, iff_self])
      · (try push_cast -implicitDefEqProofs [eq_self, iff_self, sealO_kv])
  · have hi' : ((i : Int) < (m.N.length : Int)) = False := by simp; omega
    obtain rfl : i = m.N.length := by omega
    push_cast -implicitDefEqProofs [eq_self, iff_self, hi']
    refine retp (l' := [some (.amap (kvN m.cs m.N.length))]) hs [some 2] (.tup [.mp (H.nxt + 0), .agg [.int 0, .int 0], .bool true]) trivial ⟨_, rfl, .inl ⟨openM_none hall, rfl, rfl⟩⟩ rfl ?_ ?_
    · (try push_cast -implicitDefEqProofs [eq_self, iff_self])
    · (try push_cast -implicitDefEqProofs [eq_self, iff_self, sealO_kv])
end
section
attribute [local push_cast] encIs_pure encNs_pure encN_eq encM_eq plus_obj0 plus_set0 piL_is00 piL_is0 piL_isk encIs_one encNs_four
theorem CloneN_ok (p : List Nd) (hp : p.length ≤ 1000000) (H : AH) : ACalls Go.Proofs.Try.prog 86 [.sl (p.map encN)] H (RowR H 4 (p.map encN)) := by
  refine acalls_sc (rs := #[.tmp 2]) Go.Proofs.Try.func86 rfl rfl rfl mixed rfl (Nat.le_of_ble_eq_true rfl) fun hs _ => ?_
  push_cast -implicitDefEqProofs [eq_self, iff_self]
  intro b hb
  push_cast -implicitDefEqProofs [eq_self, iff_self]
  refine ⟨fun h => ?_, fun h => ⟨⟨fun e he => ?_, by omega⟩, ?_⟩⟩
  · have : p.map encN = [] := by
      cases p with
      | nil => rfl
      | cons z p => rw [h] at hb; exact absurd (hb rfl) (by decide)
    rw [this]
    exact ret_none hs trivial
  · obtain ⟨x, _, rfl⟩ := List.mem_map.1 he; rfl
  · have := ret_row hs (z := 4) (k := 1) (rows := p.map encN) (l := [none, some (.cells 4 (p.map encN) 0)]) (φ := True) rfl (encNs_pure p) (of_eq_true (encNs_four p)) trivial
    rwa [List.length_map] at this
def OwnR (H : AH) (m : Mm) (r : AV) (H' : AH) : Prop := r = .agg [.rsl (H.nxt + 0) 4 0 m.N.length, .rsl (H.nxt + 1) 1 0 m.G.length, .rsl (H.nxt + 2) 1 0 m.P.length] ∧ H' = H.plus [some (.cells 4 (m.N.map encN) 0), some (.cells 1 (m.G.map encI) 0), some (.cells 1 (m.P.map encI) 0)]
def ownS (H : AH) (m : Mm) (D : Nat → Bool) : AH := H.plus ([some (.cells 3 [[.sl (m.N.map encN), .sl (m.G.map encI), .sl (m.P.map encI)]] 0), if D 10 then some (.cells 3 [[.rsl (H.nxt + 2) 4 0 m.N.length, .rsl (H.nxt + 3) 1 0 m.G.length, .rsl (H.nxt + 4) 1 0 m.P.length]] 0) else some (.cells 3 [[.nilS, .nilS, .nilS]] 0)]
  ++ (if D 2 then [some (.cells 4 (m.N.map encN) 0)] else []) ++ (if D 5 then [some (.cells 1 (m.G.map encI) 0)] else []) ++ (if D 8 then [some (.cells 1 (m.P.map encI) 0)] else []))
set_option maxHeartbeats 4000000 in
theorem Own_ok (m : Mm) (hm : m.Small) (H : AH) : ACalls Go.Proofs.Try.prog 84 [encM m] H (OwnR H m) := by
  refine acalls_sc (rs := #[.cell 2 25]) Go.Proofs.Try.func84 rfl rfl rfl mixed rfl (Nat.le_of_ble_eq_true rfl) fun hs _ => ?_
  push_cast -implicitDefEqProofs [eq_self, iff_self]
  refine .inl (areg_ord (ownS H m) (fun k => [AV.ptr (H.nxt + 0) 3 0 0, .sl (m.N.map encN), .rsl (H.nxt + 2) 4 0 m.N.length, .ptr (H.nxt + 0) 3 0 1, .sl (m.G.map encI), .rsl (H.nxt + 3) 1 0 m.G.length, .ptr (H.nxt + 0) 3 0 2, .sl (m.P.map encI), .rsl (H.nxt + 4) 1 0 m.P.length,
    .agg [.rsl (H.nxt + 2) 4 0 m.N.length, .rsl (H.nxt + 3) 1 0 m.G.length, .rsl (H.nxt + 4) 1 0 m.P.length]].getD k .any) (by kernel_rfl) (by kernel_rfl) ?_ ?_)
  · intro i o T D C ho hDi hdep hclo hT hC
    have hc : i = 0 ∨ i = 1 ∨ i = 2 ∨ i = 3 ∨ i = 4 ∨ i = 5 ∨ i = 6 ∨ i = 7 ∨ i = 8 ∨ i = 9 ∨ i = 10 := by
      have := (Array.getElem?_eq_some_iff.1 ho).1
      simp only [List.size_toArray, List.length_cons, List.length_nil] at this
      omega
    have t1 := hT.low 1 rfl
    have t2 := hT.low 2 rfl
    have c5 : D 5 = true → D 2 = true := fun h => hclo 5 _ rfl h 2 rfl
    have c8 : D 8 = true → D 5 = true := fun h => hclo 8 _ rfl h 5 rfl
    have c10 : D 10 = true → D 8 = true := fun h => hclo 10 _ rfl h 8 rfl
    rcases hc with rfl | rfl | rfl | rfl | rfl | rfl | rfl | rfl | rfl | rfl | rfl
    all_goals
      simp only [List.getElem?_toArray, List.getElem?_cons_zero, List.getElem?_cons_succ, Option.some.injEq] at ho
      subst ho
    · have hS : ownS H m (addD D 0) = ownS H m D := by simp only [ownS, addD]; rfl
      rw [hS] at hC
      obtain ⟨L, hL⟩ : ∃ L, ownS H m D = H.plus (some (.cells 3 [[.sl (m.N.map encN), .sl (m.G.map encI), .sl (m.P.map encI)]] 0) :: L) := ⟨_, rfl⟩
      rw [hL] at hC ⊢
      push_cast -implicitDefEqProofs [eq_self, iff_self, t1, t2, List.getD_cons_zero, List.getD_cons_succ, List.length_cons, List.length_nil]
      exact hC
    · have hS : ownS H m (addD D 1) = ownS H m D := by simp only [ownS, addD]; rfl
      rw [hS] at hC
      obtain ⟨L, hL⟩ : ∃ L, ownS H m D = H.plus (some (.cells 3 [[.sl (m.N.map encN), .sl (m.G.map encI), .sl (m.P.map encI)]] 0) :: L) := ⟨_, rfl⟩
      rw [hL] at hC ⊢
      have d0 := hT.put 0 3 (hdep 0 rfl) rfl
      push_cast -implicitDefEqProofs [eq_self, iff_self, t1, t2, d0, List.getD_cons_zero, List.getD_cons_succ, List.length_cons, List.length_nil]
      exact hC
    · have d1 := hT.put 1 4 (hdep 1 rfl) rfl
      have e5 : D 5 = false := by cases h : D 5 with | false => rfl | true => rw [c5 h] at hDi; cases hDi
      have e8 : D 8 = false := by cases h : D 8 with | false => rfl | true => rw [c8 h] at e5; cases e5
      have e10 : D 10 = false := by cases h : D 10 with | false => rfl | true => rw [c10 h] at e8; cases e8
      have hS : ownS H m D = H.plus [some (.cells 3 [[.sl (m.N.map encN), .sl (m.G.map encI), .sl (m.P.map encI)]] 0), some (.cells 3 [[.nilS, .nilS, .nilS]] 0)] := by simp only [ownS, hDi, e5, e8, e10]; rfl
      have hS2 : ownS H m (addD D 2) = H.plus [some (.cells 3 [[.sl (m.N.map encN), .sl (m.G.map encI), .sl (m.P.map encI)]] 0), some (.cells 3 [[.nilS, .nilS, .nilS]] 0), some (.cells 4 (m.N.map encN) 0)] := by simp only [ownS, addD, hDi, e5, e8, e10]; rfl
      rw [hS]
      rw [hS2] at hC
      push_cast -implicitDefEqProofs [eq_self, iff_self, d1, List.getD_cons_zero, List.getD_cons_succ, List.length_cons, List.length_nil]
      refine (CloneN_ok m.N hm.1 _).mono ?_
      rintro r H2 ⟨rfl, rfl⟩
      rw [plus_plus]
      simp only [List.length_map]
      exact hC
    · have hS : ownS H m (addD D 3) = ownS H m D := by simp only [ownS, addD]; rfl
      rw [hS] at hC
      obtain ⟨L, hL⟩ : ∃ L, ownS H m D = H.plus (some (.cells 3 [[.sl (m.N.map encN), .sl (m.G.map encI), .sl (m.P.map encI)]] 0) :: L) := ⟨_, rfl⟩
      rw [hL] at hC ⊢
      push_cast -implicitDefEqProofs [eq_self, iff_self, t1, t2, List.getD_cons_zero, List.getD_cons_succ, List.length_cons, List.length_nil]
      exact hC
    · have hS : ownS H m (addD D 4) = ownS H m D := by simp only [ownS, addD]; rfl
      rw [hS] at hC
      obtain ⟨L, hL⟩ : ∃ L, ownS H m D = H.plus (some (.cells 3 [[.sl (m.N.map encN), .sl (m.G.map encI), .sl (m.P.map encI)]] 0) :: L) := ⟨_, rfl⟩
      rw [hL] at hC ⊢
      have d3 := hT.put 3 6 (hdep 3 rfl) rfl
      push_cast -implicitDefEqProofs [eq_self, iff_self, t1, t2, d3, List.getD_cons_zero, List.getD_cons_succ, List.length_cons, List.length_nil]
      exact hC
    · have d4 := hT.put 4 7 (hdep 4 rfl) rfl
      have e2 : D 2 = true := hdep 2 rfl
      have e8 : D 8 = false := by cases h : D 8 with | false => rfl | true => rw [c8 h] at hDi; cases hDi
      have e10 : D 10 = false := by cases h : D 10 with | false => rfl | true => rw [c10 h] at e8; cases e8
      have hS : ownS H m D = H.plus [some (.cells 3 [[.sl (m.N.map encN), .sl (m.G.map encI), .sl (m.P.map encI)]] 0), some (.cells 3 [[.nilS, .nilS, .nilS]] 0), some (.cells 4 (m.N.map encN) 0)] := by simp only [ownS, hDi, e2, e8, e10]; rfl
      have hS2 : ownS H m (addD D 5) = H.plus [some (.cells 3 [[.sl (m.N.map encN), .sl (m.G.map encI), .sl (m.P.map encI)]] 0), some (.cells 3 [[.nilS, .nilS, .nilS]] 0), some (.cells 4 (m.N.map encN) 0), some (.cells 1 (m.G.map encI) 0)] := by simp only [ownS, addD, hDi, e2, e8, e10]; rfl
      rw [hS]
      rw [hS2] at hC
      push_cast -implicitDefEqProofs [eq_self, iff_self, d4, List.getD_cons_zero, List.getD_cons_succ, List.length_cons, List.length_nil]
      refine (CloneI_ok m.G hm.2.1 _).mono ?_
      rintro r H2 ⟨rfl, rfl⟩
      rw [plus_plus]
      simp only [List.length_map]
      exact hC
    · have hS : ownS H m (addD D 6) = ownS H m D := by simp only [ownS, addD]; rfl
      rw [hS] at hC
      obtain ⟨L, hL⟩ : ∃ L, ownS H m D = H.plus (some (.cells 3 [[.sl (m.N.map encN), .sl (m.G.map encI), .sl (m.P.map encI)]] 0) :: L) := ⟨_, rfl⟩
      rw [hL] at hC ⊢
      push_cast -implicitDefEqProofs [eq_self, iff_self, t1, t2, List.getD_cons_zero, List.getD_cons_succ, List.length_cons, List.length_nil]
      exact hC
    · have hS : ownS H m (addD D 7) = ownS H m D := by simp only [ownS, addD]; rfl
      rw [hS] at hC
      obtain ⟨L, hL⟩ : ∃ L, ownS H m D = H.plus (some (.cells 3 [[.sl (m.N.map encN), .sl (m.G.map encI), .sl (m.P.map encI)]] 0) :: L) := ⟨_, rfl⟩
      rw [hL] at hC ⊢
      have d6 := hT.put 6 9 (hdep 6 rfl) rfl
      push_cast -implicitDefEqProofs [eq_self, iff_self, t1, t2, d6, List.getD_cons_zero, List.getD_cons_succ, List.length_cons, List.length_nil]
      exact hC
    · have d7 := hT.put 7 10 (hdep 7 rfl) rfl
      have e5 : D 5 = true := hdep 5 rfl
      have e2 : D 2 = true := c5 e5
      have e10 : D 10 = false := by cases h : D 10 with | false => rfl | true => rw [c10 h] at hDi; cases hDi
      have hS : ownS H m D = H.plus [some (.cells 3 [[.sl (m.N.map encN), .sl (m.G.map encI), .sl (m.P.map encI)]] 0), some (.cells 3 [[.nilS, .nilS, .nilS]] 0), some (.cells 4 (m.N.map encN) 0), some (.cells 1 (m.G.map encI) 0)] := by simp only [ownS, hDi, e2, e5, e10]; rfl
      have hS2 : ownS H m (addD D 8) = H.plus [some (.cells 3 [[.sl (m.N.map encN), .sl (m.G.map encI), .sl (m.P.map encI)]] 0), some (.cells 3 [[.nilS, .nilS, .nilS]] 0), some (.cells 4 (m.N.map encN) 0), some (.cells 1 (m.G.map encI) 0), some (.cells 1 (m.P.map encI) 0)] := by simp only [ownS, addD, hDi, e2, e5, e10]; rfl
      rw [hS]
      rw [hS2] at hC
      push_cast -implicitDefEqProofs [eq_self, iff_self, d7, List.getD_cons_zero, List.getD_cons_succ, List.length_cons, List.length_nil]
      refine (CloneI_ok m.P hm.2.2 _).mono ?_
      rintro r H2 ⟨rfl, rfl⟩
      rw [plus_plus]
      simp only [List.length_map]
      exact hC
    · have hS : ownS H m (addD D 9) = ownS H m D := by simp only [ownS, addD]; rfl
      rw [hS] at hC
      obtain ⟨L, hL⟩ : ∃ L, ownS H m D = H.plus (some (.cells 3 [[.sl (m.N.map encN), .sl (m.G.map encI), .sl (m.P.map encI)]] 0) :: L) := ⟨_, rfl⟩
      rw [hL] at hC ⊢
      have d2 := hT.put 2 5 (hdep 2 rfl) rfl
      have d5 := hT.put 5 8 (hdep 5 rfl) rfl
      have d8 := hT.put 8 11 (hdep 8 rfl) rfl
      push_cast -implicitDefEqProofs [eq_self, iff_self, t1, t2, d2, d5, d8, List.getD_cons_zero, List.getD_cons_succ, List.length_cons, List.length_nil]
      exact hC
    · have d9 := hT.put 9 12 (hdep 9 rfl) rfl
      have e8 : D 8 = true := hdep 8 rfl
      have e5 : D 5 = true := c8 e8
      have e2 : D 2 = true := c5 e5
      have hS : ownS H m D = H.plus [some (.cells 3 [[.sl (m.N.map encN), .sl (m.G.map encI), .sl (m.P.map encI)]] 0), some (.cells 3 [[.nilS, .nilS, .nilS]] 0), some (.cells 4 (m.N.map encN) 0), some (.cells 1 (m.G.map encI) 0), some (.cells 1 (m.P.map encI) 0)] := by simp only [ownS, hDi, e2, e5, e8]; rfl
      have hS2 : ownS H m (addD D 10) = H.plus [some (.cells 3 [[.sl (m.N.map encN), .sl (m.G.map encI), .sl (m.P.map encI)]] 0), some (.cells 3 [[.rsl (H.nxt + 2) 4 0 m.N.length, .rsl (H.nxt + 3) 1 0 m.G.length, .rsl (H.nxt + 4) 1 0 m.P.length]] 0), some (.cells 4 (m.N.map encN) 0), some (.cells 1 (m.G.map encI) 0), some (.cells 1 (m.P.map encI) 0)] := by simp only [ownS, addD, hDi, e2, e5, e8]; rfl
      rw [hS]
      rw [hS2] at hC
      push_cast -implicitDefEqProofs [eq_self, iff_self, t2, d9, List.getD_cons_zero, List.getD_cons_succ, List.length_cons, List.length_nil]
      exact hC
  · intro T D hD hT
    have t2 := hT.low 2 rfl
    have hS : ownS H m D = H.plus [some (.cells 3 [[.sl (m.N.map encN), .sl (m.G.map encI), .sl (m.P.map encI)]] 0), some (.cells 3 [[.rsl (H.nxt + 2) 4 0 m.N.length, .rsl (H.nxt + 3) 1 0 m.G.length, .rsl (H.nxt + 4) 1 0 m.P.length]] 0), some (.cells 4 (m.N.map encN) 0), some (.cells 1 (m.G.map encI) 0), some (.cells 1 (m.P.map encI) 0)] := by simp only [ownS, hD 2 (by decide), hD 5 (by decide), hD 8 (by decide), hD 10 (by decide)]; rfl
    rw [hS]
    push_cast -implicitDefEqProofs [eq_self, iff_self, t2]
    refine retp (l' := [some (.cells 4 (m.N.map encN) 0), some (.cells 1 (m.G.map encI) 0), some (.cells 1 (m.P.map encI) 0)]) hs [some 2, some 3, some 4] (.agg [.rsl (H.nxt + 0) 4 0 m.N.length, .rsl (H.nxt + 1) 1 0 m.G.length, .rsl (H.nxt + 2) 1 0 m.P.length]) trivial ⟨rfl, rfl⟩ rfl ?_ ?_
    · (try push_cast -implicitDefEqProofs [eq_self, iff_self])
    · (try push_cast -implicitDefEqProofs [eq_self, iff_self])
end
section
attribute [local push_cast] encIs_pure encNs_pure encN_eq encM_eq plus_obj0 plus_set0 piL_is00 piL_is0 piL_isk encIs_one encNs_four
theorem Own_q (m : Mm) (hm : m.Small) : Quiet Go.Proofs.Try.prog 84 [encM m] (encM m) := fun H =>
  (Own_ok m hm H).tell fun hs r H' ⟨h1, h2⟩ => ⟨encM m, H, piL H.nxt [], ⟨rfl, rfl⟩, by
    subst h1 h2
    refine weak_let hs ?_
    rw [encM_eq]
    simp only [Seal, SealL]
    have e1 := seal_row (H := H) (H' := H) (l := [some (.cells 4 (m.N.map encN) 0), some (.cells 1 (m.G.map encI) 0), some (.cells 1 (m.P.map encI) 0)]) (k := 0) (n := m.N.length) rfl (encNs_pure m.N) (by simp)
    have e2 := seal_row (H := H) (H' := H) (l := [some (.cells 4 (m.N.map encN) 0), some (.cells 1 (m.G.map encI) 0), some (.cells 1 (m.P.map encI) 0)]) (k := 1) (n := m.G.length) rfl (encIs_pure m.G) (by simp)
    have e3 := seal_row (H := H) (H' := H) (l := [some (.cells 4 (m.N.map encN) 0), some (.cells 1 (m.G.map encI) 0), some (.cells 1 (m.P.map encI) 0)]) (k := 2) (n := m.P.length) rfl (encIs_pure m.P) (by simp)
    simp only [Seal] at e1 e2 e3
    exact ⟨e1, e2, e3, trivial⟩⟩
theorem FindM_ok (m : Mm) (hm : m.Small) (g : Int) : Quiet Go.Proofs.Try.prog 57 [encM m, .int g] (.int (m.find g)) := by
  refine quiet_of (rs := #[.tmp 4]) Go.Proofs.Try.func57 rfl rfl rfl mixed rfl rfl fun H hs => ?_
  push_cast -implicitDefEqProofs [eq_self, iff_self]
  refine callq (FindS_ok m.P hm.2.2 g) ?_
  push_cast -implicitDefEqProofs [eq_self, iff_self]
  rfl
theorem may_cut (m : Mm) : m.may = (m.form && (m.openM).isNone) := rfl
theorem may_form {m : Mm} (h : m.may = true) : m.form = true := by rw [may_cut, Bool.and_eq_true] at h; exact h.1
theorem MayM_ok (m : Mm) (hm : m.Small) : Quiet Go.Proofs.Try.prog 24 [encM m] (.bool m.may) := by
  refine quiet_of (rs := #[.tmp 2]) Go.Proofs.Try.func24 rfl rfl rfl mixed rfl rfl fun H hs => ?_
  push_cast -implicitDefEqProofs [eq_self, iff_self]
  refine callq (Form_ok m hm) ?_
  rw [may_cut]
  cases hf : m.form with
  | false => push_cast -implicitDefEqProofs [eq_self, iff_self]
  | true =>
    push_cast -implicitDefEqProofs [eq_self, iff_self]
    refine (First_ok m hf _).mono ?_
    rintro r H' ⟨kvs, rfl, ⟨h1, _, rfl⟩ | ⟨x, h1, rfl⟩⟩
    · rw [h1]
      push_cast -implicitDefEqProofs [eq_self, iff_self, plus_plus, Nat.add_zero]
      rfl
    · rw [h1]
      push_cast -implicitDefEqProofs [eq_self, iff_self, plus_plus, Nat.add_zero]
      rfl
theorem canon_cut (m : Mm) (n : Nd) : m.canon n = if mayS m.P && m.node n then canonR (rootsS m.P) n else n := rfl
theorem Canon_ok (m : Mm) (hm : m.Small) (n : Nd) : Quiet Go.Proofs.Try.prog 66 [encM m, .agg (encN n)] (.agg (encN (m.canon n))) := by
  refine quiet_of (rs := #[.cell 4 55]) Go.Proofs.Try.func66 rfl rfl rfl mixed rfl rfl fun H hs => ?_
  push_cast -implicitDefEqProofs [eq_self, iff_self]
  refine callq (MayS_ok m.P hm.2.2) ?_
  push_cast -implicitDefEqProofs [eq_self, iff_self]
  rw [canon_cut]
  cases hP : mayS m.P with
  | false =>
    push_cast -implicitDefEqProofs [eq_self, iff_self]
    refine gskip ?_
    push_cast -implicitDefEqProofs [eq_self, iff_self]
    refine gskip ?_
    push_cast -implicitDefEqProofs [eq_self, iff_self]
  | true =>
    push_cast -implicitDefEqProofs [eq_self, iff_self]
    refine gcall trivial (callq (Node_ok m n) ?_)
    cases hn : m.node n with
    | false => push_cast -implicitDefEqProofs [eq_self, iff_self]
    | true =>
      push_cast -implicitDefEqProofs [eq_self, iff_self]
      refine areg_at 5 (by kernel_rfl) (by kernel_rfl) ?_
      push_cast -implicitDefEqProofs [eq_self, iff_self]
      refine ahdq (RootsS_q m.P hm.2.2) ?_
      push_cast -implicitDefEqProofs [eq_self, iff_self]
      have h1 := rootsS_le m.P
      refine ahdq (CanonR_ok (rootsS m.P) (by have := hm.2.2; omega) n fun hj => ?_) ?_
      · rw [rootsS_len hP]; exact (node_join hn hj).2
      push_cast -implicitDefEqProofs [eq_self, iff_self]
theorem look_cut (m : Mm) (n : Nd) : m.look n = if m.may && m.node n then (if idxN (canonR (rootsS m.P) n) m.cs < m.N.length then (m.find (m.G.getD (idxN (canonR (rootsS m.P) n) m.cs) 0), true) else (-1, false)) else (-1, false) := rfl
theorem Look_ok (m : Mm) (hm : m.Small) (n : Nd) : Quiet Go.Proofs.Try.prog 31 [encM m, .agg (encN n)] (.tup [.int (m.look n).1, .bool (m.look n).2]) := by
  refine quiet_of (rs := #[.tmp 4, .tmp 5]) Go.Proofs.Try.func31 rfl rfl rfl mixed rfl rfl fun H hs => ?_
  push_cast -implicitDefEqProofs [eq_self, iff_self]
  refine callq (MayM_ok m hm) ?_
  rw [look_cut]
  cases hmay : m.may with
  | false =>
    push_cast -implicitDefEqProofs [eq_self, iff_self]
    refine gskip ?_
    push_cast -implicitDefEqProofs [eq_self, iff_self]
    refine gskip ?_
    push_cast -implicitDefEqProofs [eq_self, iff_self]
  | true =>
    push_cast -implicitDefEqProofs [eq_self, iff_self]
    refine gcall trivial (callq (Node_ok m n) ?_)
    cases hn : m.node n with
    | false => push_cast -implicitDefEqProofs [eq_self, iff_self]
    | true =>
      have hf := may_form hmay
      have hcl := cs_len m
      have hfind := kvN_find (C := m.cs) (i := m.N.length) (by omega) (canonR (rootsS m.P) n)
      have hfa := fun l => findAtN (canonR (rootsS m.P) n) l
      have hop : m.openM = none := by rw [may_cut, hf, Bool.true_and] at hmay; exact Option.isNone_iff_eq_none.1 hmay
      have hcan : m.canon n = canonR (rootsS m.P) n := by rw [canon_cut, form_P hf, hn]; rfl
      push_cast -implicitDefEqProofs [eq_self, iff_self]
      refine (First_ok m hf _).mono ?_
      rintro r H' ⟨kvs, rfl, ⟨_, rfl, rfl⟩ | ⟨x, h1, _⟩⟩
      case inr => rw [hop] at h1; cases h1
      push_cast -implicitDefEqProofs [eq_self, iff_self, plus_plus, Nat.add_zero]
      refine callq (Canon_ok m hm n) ?_
      rw [hcan]
      by_cases hlt : idxN (canonR (rootsS m.P) n) m.cs < m.N.length
      · rw [if_pos hlt] at hfind ⊢
        push_cast -implicitDefEqProofs [eq_self, iff_self, lits, keyN_of, hfind, kvN_keys, hfa]
        have hG := form_G hf hlt
        have hGl := ((form_iff m).1 hf).2.1
        generalize idxN (canonR (rootsS m.P) n) m.cs = k at *
        have hk0 : (0 ≤ (k : Int)) = True := by simp
        have hk1 : ((k : Int) < (m.G.length : Int)) = True := by simp; omega
        have hg1 := int_at (p := m.G) (i := k) (by omega)
        refine areg_at 7 (by kernel_rfl) (by kernel_rfl) ?_
        push_cast -implicitDefEqProofs [eq_self, iff_self, hk0, hk1, hg1]
        refine ahdq (FindM_ok m hm _) ?_
        push_cast -implicitDefEqProofs [eq_self, iff_self]
      · rw [if_neg hlt] at hfind ⊢
        push_cast -implicitDefEqProofs [eq_self, iff_self, lits, keyN_of, hfind, kvN_keys, hfa]
end
section
attribute [local push_cast] encIs_pure encNs_pure encN_eq encM_eq plus_obj0 plus_set0 piL_is00 piL_is0 piL_isk encIs_one encNs_four
theorem JoinS_q (p : List Int) (hp : p.length ≤ 1000000) (a b : Int) : Quiet Go.Proofs.Try.prog 114 [.sl (p.map encI), .int a, .int b] (.tup [.sl ((joinS p a b).1.map encI), .bool (joinS p a b).2]) := fun H =>
  (JoinS_ok p hp a b H).tell fun hs r H' ⟨h1, h2⟩ => ⟨_, H, piL H.nxt [], ⟨rfl, rfl⟩, by
    subst h1 h2
    refine weak_let hs ?_
    have e1 := seal_row (H := H) (H' := H) (l := [some (.cells 1 ((joinS p a b).1.map encI) 0)]) (k := 0) (n := p.length) rfl (encIs_pure _) (by rw [List.length_map, joinS_length])
    simp only [Seal, SealL] at e1 ⊢
    exact ⟨e1, trivial, trivial⟩⟩
theorem joined_N (m : Mm) (a b : Int) : (m.joined a b).N = m.N := rfl
theorem joined_G (m : Mm) (a b : Int) : (m.joined a b).G = m.G := rfl
theorem joined_P (m : Mm) (a b : Int) : (m.joined a b).P = (joinS m.P a b).1 := rfl
theorem merge_cut (m : Mm) (a b : Int) : m.merge a b = if m.may && m.inG a && m.inG b then (mergeF (m.P.length + 1) m a b, (mergeF (m.P.length + 1) m a b).find a, 0) else (m, -1, 1) := rfl
def encB (m : Mm) : List AV := [.sl (m.N.map encN), .sl (m.G.map encI), .sl (m.P.map encI)]
structure MgS where
  m : Mm
  a : Int
  b : Int
  done : Bool
  f : Nat
theorem Merge_ok (m : Mm) (hm : m.Small) (a b : Int) : Quiet Go.Proofs.Try.prog 85 [encM m, .int a, .int b] (.tup [encM (m.merge a b).1, .int (m.merge a b).2.1, .int (m.merge a b).2.2]) := by
  refine quiet_of (rs := #[.cell 6 25, .tmp 7, .tmp 8]) Go.Proofs.Try.func85 rfl rfl rfl mixed rfl rfl fun H hs => ?_
  push_cast -implicitDefEqProofs [eq_self, iff_self]
  refine callq (MayM_ok m hm) ?_
  rw [merge_cut]
  by_cases hc : m.may = true ∧ m.inG a = true ∧ m.inG b = true
  case neg =>
    cases h1 : m.may with
    | false =>
      push_cast -implicitDefEqProofs [eq_self, iff_self]
      repeat (refine gskip ?_; push_cast -implicitDefEqProofs [eq_self, iff_self])
      refine callq (Own_q m hm) ?_
      push_cast -implicitDefEqProofs [eq_self, iff_self]
    | true =>
      push_cast -implicitDefEqProofs [eq_self, iff_self]
      refine gcall trivial (callq (Is_ok m a) ?_)
      cases h2 : m.inG a with
      | false =>
        push_cast -implicitDefEqProofs [eq_self, iff_self]
        repeat (refine gskip ?_; push_cast -implicitDefEqProofs [eq_self, iff_self])
        refine callq (Own_q m hm) ?_
        push_cast -implicitDefEqProofs [eq_self, iff_self]
      | true =>
        push_cast -implicitDefEqProofs [eq_self, iff_self]
        refine gcall trivial (callq (Is_ok m b) ?_)
        cases h3 : m.inG b with
        | false =>
          push_cast -implicitDefEqProofs [eq_self, iff_self]
          refine callq (Own_q m hm) ?_
          push_cast -implicitDefEqProofs [eq_self, iff_self]
        | true => exact absurd ⟨h1, h2, h3⟩ hc
  obtain ⟨h1, h2, h3⟩ := hc
  rw [h1, h2, h3]
  push_cast -implicitDefEqProofs [eq_self, iff_self]
  refine gcall trivial (callq (Is_ok m a) ?_)
  rw [h2]
  push_cast -implicitDefEqProofs [eq_self, iff_self]
  refine gcall trivial (callq (Is_ok m b) ?_)
  rw [h3]
  push_cast -implicitDefEqProofs [eq_self, iff_self]
  refine callq (Own_q m hm) ?_
  push_cast -implicitDefEqProofs [eq_self, iff_self]
  have hf := may_form h1
  have hN := (form_small hf)
  have hmerge : ∀ s : MgS, s.m.N = m.N ∧ s.m.G = m.G → s.m.form = true → s.m.Small := fun s _ h => form_small h
  refine loop_at hs (σ := MgS) (fun s => s.m.form = true ∧ (s.done = true → mergeF (m.P.length + 1) m a b = s.m) ∧ (s.done = false → mergeF (m.P.length + 1) m a b = mergeF s.f s.m s.a s.b ∧ enough s.m s.a s.b s.f)) (fun s => s.f)
    (fun s => [(11, .bool s.done), (10, .ptr (H.nxt + 3) 2 0 0), (9, .ptr (H.nxt + 2) 3 0 0), (6, .ptr (H.nxt + 1) 3 0 0), (1, .int a)])
    (fun s => [none, some (.cells 3 [[.nilS, .nilS, .nilS]] 0), some (.cells 3 [[.sl (s.m.N.map encN), .sl (s.m.G.map encI), .sl (s.m.P.map encI)]] 0), some (.cells 2 [[.int s.a, .int s.b]] 0)]) [none, some 1, some 2, some 3] ⟨m, a, b, false, m.P.length + 1⟩
    ⟨hf, fun h => Bool.noConfusion h, fun _ => ⟨rfl, enough_first (form_P hf) a b⟩⟩ rfl ?_ ?_ ?_
  · (try push_cast -implicitDefEqProofs [eq_self, iff_self])
  · (try push_cast -implicitDefEqProofs [eq_self, iff_self])
  rintro ⟨m1, a1, b1, done, f⟩ ⟨hf1, hd1, hd2⟩
  dsimp only at hf1 hd1 hd2 ⊢
  have hm1 := form_small hf1
  cases done with
  | true =>
    have e1 := hd1 rfl
    push_cast -implicitDefEqProofs [eq_self, iff_self]
    rw [e1]
    refine areg_link 4 (by kernel_rfl) (by kernel_rfl) ?_
    push_cast -implicitDefEqProofs [eq_self, iff_self]
    refine ahdq (FindM_ok m1 hm1 a) ?_
    push_cast -implicitDefEqProofs [eq_self, iff_self]
  | false =>
    obtain ⟨e2, en⟩ := hd2 rfl
    obtain ⟨g, rfl⟩ := enough_pos en
    push_cast -implicitDefEqProofs [eq_self, iff_self]
    refine callq (JoinS_q m1.P hm1.2.2 a1 b1) ?_
    have hf2 := joined_form hf1 a1 b1
    push_cast -implicitDefEqProofs [eq_self, iff_self]
    refine (First_ok (m1.joined a1 b1) hf2 _).mono ?_
    rintro r H' ⟨kvs, rfl, ⟨h4, _, rfl⟩ | ⟨x, h4, rfl⟩⟩
    · push_cast -implicitDefEqProofs [eq_self, iff_self, plus_plus, Nat.add_zero]
      refine next_at [none, some 1, some 2, some 5] ⟨m1.joined a1 b1, 0, 0, true, g⟩ ⟨hf2, fun _ => by rw [e2]; exact mergeF_end h4, fun h => Bool.noConfusion h⟩ (by dsimp only; omega) rfl ?_ ?_
      · (try push_cast -implicitDefEqProofs [eq_self, iff_self, joined_N, joined_G, joined_P])
      · (try push_cast -implicitDefEqProofs [eq_self, iff_self, joined_N, joined_G, joined_P])
    · push_cast -implicitDefEqProofs [eq_self, iff_self, plus_plus, Nat.add_zero]
      refine next_at [none, some 1, some 2, some 5] ⟨m1.joined a1 b1, x.1, x.2, false, g⟩ ⟨hf2, fun h => Bool.noConfusion h, fun _ => ⟨by rw [e2]; exact mergeF_more h4, enough_next hf1 en h4⟩⟩ (by dsimp only; omega) rfl ?_ ?_
      · (try push_cast -implicitDefEqProofs [eq_self, iff_self, joined_N, joined_G, joined_P])
      · (try push_cast -implicitDefEqProofs [eq_self, iff_self, joined_N, joined_G, joined_P])
end
section
attribute [local push_cast] encIs_pure encNs_pure encN_eq encM_eq plus_obj0 plus_set0 piL_is00 piL_is0 piL_isk encIs_one encNs_four
theorem pickv_ta (v : Value) : pickv true .any (.lit v) = .any := by unfold pickv; rfl
theorem pickv_fa (v : Value) : pickv false (.lit v) .any = .any := by unfold pickv; cases v <;> rfl
theorem put_cut (m : Mm) (n : Nd) (g : Int) : m.put n g =
  if !(m.may && m.node n && (decide (g = -1) || m.inG g)) then (m, -1, 1)
  else if (m.look n).2 then (if g = -1 ∨ m.find g = (m.look n).1 then (m, (m.look n).1, 0) else m.merge g (m.look n).1)
  else if m.N.length = 400 ∨ (g = -1 ∧ m.P.length = 400) then (m, -1, 3)
  else if g = -1 then (⟨m.N ++ [n], m.G ++ [(m.P.length : Int)], m.P ++ [(m.P.length : Int)]⟩, findS (m.P ++ [(m.P.length : Int)]) m.P.length, 0)
  else (⟨m.N ++ [n], m.G ++ [g], m.P⟩, m.find g, 0) := rfl
set_option maxHeartbeats 4000000 in
theorem Put_ok (m : Mm) (hm : m.Small) (n : Nd) (g : Int) : Quiet Go.Proofs.Try.prog 52 [encM m, .agg (encN n), .int g] (.tup [encM (m.put n g).1, .int (m.put n g).2.1, .int (m.put n g).2.2]) := by
  refine quiet_of (rs := #[.cell 6 25, .tmp 7, .tmp 8]) Go.Proofs.Try.func52 rfl rfl rfl mixed rfl rfl fun H hs => ?_
  have hput := put_cut m n g
  generalize m.put n g = r at hput ⊢
  push_cast -implicitDefEqProofs [eq_self, iff_self]
  refine callq (MayM_ok m hm) ?_
  by_cases hc : (!(m.may && m.node n && (decide (g = -1) || m.inG g))) = true
  · rw [if_pos hc] at hput
    subst hput
    cases h1 : m.may with
    | false =>
      by_cases hg : g = -1
      · subst hg
        push_cast -implicitDefEqProofs [eq_self, iff_self, Int.reduceNeg]
        repeat (refine gskip ?_; push_cast -implicitDefEqProofs [eq_self, iff_self, Int.reduceNeg])
        refine callq (Own_q m hm) ?_
        push_cast -implicitDefEqProofs [eq_self, iff_self]
      · have hg' : (g = -1) = False := eq_false hg
        push_cast -implicitDefEqProofs [eq_self, iff_self, hg']
        repeat (refine gskip ?_; push_cast -implicitDefEqProofs [eq_self, iff_self, hg'])
        push_cast -implicitDefEqProofs [eq_self, iff_self, hg', pickv_ta]
        refine callq (Own_q m hm) ?_
        push_cast -implicitDefEqProofs [eq_self, iff_self]
    | true =>
      push_cast -implicitDefEqProofs [eq_self, iff_self]
      refine gcall trivial (callq (Node_ok m n) ?_)
      cases h2 : m.node n with
      | false =>
        by_cases hg : g = -1
        · subst hg
          push_cast -implicitDefEqProofs [eq_self, iff_self, Int.reduceNeg]
          repeat (refine gskip ?_; push_cast -implicitDefEqProofs [eq_self, iff_self, Int.reduceNeg])
          refine callq (Own_q m hm) ?_
          push_cast -implicitDefEqProofs [eq_self, iff_self]
        · have hg' : (g = -1) = False := eq_false hg
          push_cast -implicitDefEqProofs [eq_self, iff_self, hg']
          repeat (refine gskip ?_; push_cast -implicitDefEqProofs [eq_self, iff_self, hg'])
          push_cast -implicitDefEqProofs [eq_self, iff_self, hg', pickv_ta]
          refine callq (Own_q m hm) ?_
          push_cast -implicitDefEqProofs [eq_self, iff_self]
      | true =>
        have hg : ¬ g = -1 := fun h => by rw [h1, h2, h] at hc; simp at hc
        have hi : m.inG g = false := by rw [h1, h2, decide_eq_false hg] at hc; simpa using hc
        have hg' : (g = -1) = False := eq_false hg
        push_cast -implicitDefEqProofs [eq_self, iff_self, hg']
        refine gcall trivial (callq (Is_ok m g) ?_)
        rw [hi]
        push_cast -implicitDefEqProofs [eq_self, iff_self, hg']
        refine callq (Own_q m hm) ?_
        push_cast -implicitDefEqProofs [eq_self, iff_self]
  have hc' : m.may = true ∧ m.node n = true ∧ (g = -1 ∨ m.inG g = true) := by
    have h : (m.may && m.node n && (decide (g = -1) || m.inG g)) = true := by
      cases h : (m.may && m.node n && (decide (g = -1) || m.inG g)) with
      | true => rfl
      | false => rw [h] at hc; exact absurd rfl hc
    simpa [and_assoc] using h
  rw [if_neg hc] at hput
  obtain ⟨h1, h2, h3⟩ := hc'
  rw [h1]
  push_cast -implicitDefEqProofs [eq_self, iff_self]
  refine gcall trivial (callq (Node_ok m n) ?_)
  rw [h2]
  by_cases hg : g = -1
  · subst hg
    push_cast -implicitDefEqProofs [eq_self, iff_self, Int.reduceNeg]
    repeat (refine gskip ?_; push_cast -implicitDefEqProofs [eq_self, iff_self, Int.reduceNeg])
    refine callq (Look_ok m hm n) ?_
    generalize (m.look n).1 = h at hput ⊢
    cases hh : (m.look n).2 with
    | true =>
      rw [hh, if_pos rfl, if_pos (.inl rfl)] at hput
      subst hput
      push_cast -implicitDefEqProofs [eq_self, iff_self, Int.reduceNeg]
      repeat (refine gskip ?_; push_cast -implicitDefEqProofs [eq_self, iff_self, Int.reduceNeg])
      refine callq (Own_q m hm) ?_
      push_cast -implicitDefEqProofs [eq_self, iff_self]
    | false =>
      rw [hh, if_neg (by decide)] at hput
      push_cast -implicitDefEqProofs [eq_self, iff_self, Int.reduceNeg]
      repeat (refine gskip ?_; push_cast -implicitDefEqProofs [eq_self, iff_self, Int.reduceNeg])
      by_cases hN : m.N.length = 400
      · have hN' : ((m.N.length : Int) = 400) = True := eq_true (by omega)
        rw [if_pos (.inl hN)] at hput
        subst hput
        push_cast -implicitDefEqProofs [eq_self, iff_self, hN']
        refine callq (Own_q m hm) ?_
        push_cast -implicitDefEqProofs [eq_self, iff_self]
      have hN' : ((m.N.length : Int) = 400) = False := eq_false (by omega)
      by_cases hP : m.P.length = 400
      · have hP' : ((m.P.length : Int) = 400) = True := eq_true (by omega)
        rw [if_pos (.inr ⟨rfl, hP⟩)] at hput
        subst hput
        push_cast -implicitDefEqProofs [eq_self, iff_self, hN', hP', Int.reduceNeg]
        refine callq (Own_q m hm) ?_
        push_cast -implicitDefEqProofs [eq_self, iff_self]
      have hP' : ((m.P.length : Int) = 400) = False := eq_false (by omega)
      rw [if_neg (by rintro (h | ⟨_, h⟩); exact hN h; exact hP h), if_pos rfl] at hput
      subst hput
      push_cast -implicitDefEqProofs [eq_self, iff_self, hN', hP', Int.reduceNeg]
      refine (Own_ok m hm _).mono ?_
      rintro r H' ⟨rfl, rfl⟩
      push_cast -implicitDefEqProofs [eq_self, iff_self, plus_plus, Int.reduceNeg, Nat.add_assoc]
      refine ⟨by have := hm.2.2; omega, ?_⟩
      refine areg_growl [none, some (.cells 4 [[.bool n.jn, .int n.occ, .int n.a, .int n.b]] 0), some (.cells 3 [[.nilS, .nilS, .nilS]] 0), none, none, none, some (.cells 3 [[.rsl (H.nxt + 3) 4 0 m.N.length, .rsl (H.nxt + 4) 1 0 m.G.length, .rsl (H.nxt + 8) 1 0 (m.P.length + 1)]] 0), none, none] 11 ?_ (by kernel_rfl) (by kernel_rfl) (by kernel_rfl) ?_
      · intro k o hk
        match k, hk with
        | 0, hk => cases hk
        | 1, hk => exact hk
        | 2, hk => exact hk
        | 3, hk => cases hk
        | 4, hk => cases hk
        | 5, hk => cases hk
        | 6, hk => exact hk
        | 7, hk => cases hk
        | 8, hk => cases hk
        | k + 9, hk => simp at hk
      push_cast -implicitDefEqProofs [eq_self, iff_self]
      have hGl := hm.2.1
      have hNl := hm.1
      have hPl := hm.2.2
      refine ⟨by omega, by omega, ?_⟩
      have eN : List.take m.N.length (m.N.map encN) ++ [[AV.lit (.bool n.jn), .lit (.int .i64 n.occ), .lit (.int .i64 n.a), .lit (.int .i64 n.b)]] = (m.N ++ [n]).map encN := by
        rw [List.take_of_length_le (by simp), List.map_append]; rfl
      have eG : List.take m.G.length (m.G.map encI) ++ [[AV.lit (.int .i64 (m.P.length : Int))]] = (m.G ++ [(m.P.length : Int)]).map encI := by
        rw [List.take_of_length_le (by simp), List.map_append]; rfl
      have eP : List.take m.P.length (m.P.map encI) ++ [[AV.lit (.int .i64 (m.P.length : Int))]] = (m.P ++ [(m.P.length : Int)]).map encI := by
        rw [List.take_of_length_le (by simp), List.map_append]; rfl
      rw [eN, eG, eP]
      have tN : List.take (m.N.length + 1) ((m.N ++ [n]).map encN) = (m.N ++ [n]).map encN := List.take_of_length_le (by simp)
      have tG : List.take (m.G.length + 1) ((m.G ++ [(m.P.length : Int)]).map encI) = (m.G ++ [(m.P.length : Int)]).map encI := List.take_of_length_le (by simp)
      have tP : List.take (m.P.length + 1) ((m.P ++ [(m.P.length : Int)]).map encI) = (m.P ++ [(m.P.length : Int)]).map encI := List.take_of_length_le (by simp)
      have hs2 : (Mm.mk (m.N ++ [n]) (m.G ++ [(m.P.length : Int)]) (m.P ++ [(m.P.length : Int)])).Small := by
        unfold Mm.Small
        simp only [List.length_append, List.length_cons, List.length_nil]
        have := may_form h1
        have h5 := ((form_iff m).1 this)
        have h6 := (mayS_iff.1 h5.1).2
        omega
      refine areg_wklink hs [] 4 [(2, .int m.P.length), (6, .ptr (H.nxt + 2) 3 0 0), (11, .ptr (H.nxt + 6) 3 0 0)] [none, none, some (.cells 3 [[.nilS, .nilS, .nilS]] 0), none, none, none, some (.cells 3 [[.sl ((m.N ++ [n]).map encN), .sl ((m.G ++ [(m.P.length : Int)]).map encI), .sl ((m.P ++ [(m.P.length : Int)]).map encI)]] 0), none, none, none, none] (by kernel_rfl) (by kernel_rfl) ?_ ?_ ?_
      · (try push_cast -implicitDefEqProofs [eq_self, iff_self])
      · (try push_cast -implicitDefEqProofs [eq_self, iff_self, tN, tG, tP])
      push_cast -implicitDefEqProofs [eq_self, iff_self]
      refine ahdq (FindM_ok _ hs2 m.P.length) ?_
      push_cast -implicitDefEqProofs [eq_self, iff_self]
      rfl
  · have hg' : (g = -1) = False := eq_false hg
    have hi : m.inG g = true := h3.resolve_left hg
    push_cast -implicitDefEqProofs [eq_self, iff_self, hg']
    refine gcall trivial (callq (Is_ok m g) ?_)
    rw [hi]
    push_cast -implicitDefEqProofs [eq_self, iff_self, hg']
    refine callq (Look_ok m hm n) ?_
    generalize (m.look n).1 = h at hput ⊢
    cases hh : (m.look n).2 with
    | true =>
      rw [hh, if_pos rfl] at hput
      push_cast -implicitDefEqProofs [eq_self, iff_self, hg']
      refine gcall trivial (callq (FindM_ok m hm g) ?_)
      by_cases he : m.find g = h
      · have he' : (m.find g = h) = True := eq_true he
        rw [if_pos (.inr he)] at hput
        subst hput
        push_cast -implicitDefEqProofs [eq_self, iff_self, hg', he']
        refine callq (Own_q m hm) ?_
        push_cast -implicitDefEqProofs [eq_self, iff_self]
      · have he' : (m.find g = h) = False := eq_false he
        rw [if_neg (by rintro (h | h); exact hg h; exact he h)] at hput
        subst hput
        push_cast -implicitDefEqProofs [eq_self, iff_self, hg', he']
        refine callq (Merge_ok m hm g h) ?_
        push_cast -implicitDefEqProofs [eq_self, iff_self]
    | false =>
      rw [hh, if_neg (by decide)] at hput
      push_cast -implicitDefEqProofs [eq_self, iff_self, hg']
      repeat (refine gskip ?_; push_cast -implicitDefEqProofs [eq_self, iff_self, hg'])
      push_cast -implicitDefEqProofs [eq_self, iff_self, hg', pickv_fa, pickv_f]
      by_cases hN : m.N.length = 400
      · have hN' : ((m.N.length : Int) = 400) = True := eq_true (by omega)
        rw [if_pos (.inl hN)] at hput
        subst hput
        push_cast -implicitDefEqProofs [eq_self, iff_self, hN']
        refine callq (Own_q m hm) ?_
        push_cast -implicitDefEqProofs [eq_self, iff_self]
      have hN' : ((m.N.length : Int) = 400) = False := eq_false (by omega)
      rw [if_neg (by rintro (h | ⟨h, _⟩); exact hN h; exact hg h), if_neg hg] at hput
      subst hput
      push_cast -implicitDefEqProofs [eq_self, iff_self, hN', hg']
      refine (Own_ok m hm _).mono ?_
      rintro r H' ⟨rfl, rfl⟩
      push_cast -implicitDefEqProofs [eq_self, iff_self, plus_plus, hg', Nat.add_assoc]
      refine areg_growl [none, some (.cells 4 [[.bool n.jn, .int n.occ, .int n.a, .int n.b]] 0), some (.cells 3 [[.nilS, .nilS, .nilS]] 0), none, none, none, some (.cells 3 [[.rsl (H.nxt + 3) 4 0 m.N.length, .rsl (H.nxt + 4) 1 0 m.G.length, .rsl (H.nxt + 5) 1 0 m.P.length]] 0)] 11 ?_ (by kernel_rfl) (by kernel_rfl) (by kernel_rfl) ?_
      · intro k o hk
        match k, hk with
        | 0, hk => cases hk
        | 1, hk => exact hk
        | 2, hk => exact hk
        | 3, hk => cases hk
        | 4, hk => cases hk
        | 5, hk => cases hk
        | 6, hk => exact hk
        | k + 7, hk => simp at hk
      push_cast -implicitDefEqProofs [eq_self, iff_self]
      have hGl := hm.2.1
      have hNl := hm.1
      have hPl := hm.2.2
      refine ⟨by omega, by omega, ?_⟩
      have eN : List.take m.N.length (m.N.map encN) ++ [[AV.lit (.bool n.jn), .lit (.int .i64 n.occ), .lit (.int .i64 n.a), .lit (.int .i64 n.b)]] = (m.N ++ [n]).map encN := by
        rw [List.take_of_length_le (by simp), List.map_append]; rfl
      have eG : List.take m.G.length (m.G.map encI) ++ [[AV.lit (.int .i64 g)]] = (m.G ++ [g]).map encI := by
        rw [List.take_of_length_le (by simp), List.map_append]; rfl
      rw [eN, eG]
      have tN : List.take (m.N.length + 1) ((m.N ++ [n]).map encN) = (m.N ++ [n]).map encN := List.take_of_length_le (by simp)
      have tG : List.take (m.G.length + 1) ((m.G ++ [g]).map encI) = (m.G ++ [g]).map encI := List.take_of_length_le (by simp)
      have tP : List.take m.P.length (m.P.map encI) = m.P.map encI := List.take_of_length_le (by simp)
      have hs2 : (Mm.mk (m.N ++ [n]) (m.G ++ [g]) m.P).Small := by
        unfold Mm.Small
        simp only [List.length_append, List.length_cons, List.length_nil]
        have := may_form h1
        have h5 := ((form_iff m).1 this)
        have h6 := (mayS_iff.1 h5.1).2
        omega
      refine areg_wklink hs [] 4 [(2, .int g), (6, .ptr (H.nxt + 2) 3 0 0), (11, .ptr (H.nxt + 6) 3 0 0)] [none, none, some (.cells 3 [[.nilS, .nilS, .nilS]] 0), none, none, none, some (.cells 3 [[.sl ((m.N ++ [n]).map encN), .sl ((m.G ++ [g]).map encI), .sl (m.P.map encI)]] 0), none, none] (by kernel_rfl) (by kernel_rfl) ?_ ?_ ?_
      · (try push_cast -implicitDefEqProofs [eq_self, iff_self])
      · (try push_cast -implicitDefEqProofs [eq_self, iff_self, tN, tG, tP])
      push_cast -implicitDefEqProofs [eq_self, iff_self]
      refine ahdq (FindM_ok _ hs2 g) ?_
      push_cast -implicitDefEqProofs [eq_self, iff_self]
      rfl
end
section
attribute [local push_cast] encIs_pure encNs_pure encN_eq encM_eq plus_obj0 plus_set0 piL_is00 piL_is0 piL_isk encIs_one encNs_four
theorem of_cut (m : Mm) (g : Int) : m.of g = if m.may && !decide (m.find g = -1) then ((List.range m.N.length).filter fun i => decide (m.find (m.G.getD i 0) = m.find g) && decide (m.at1 i = i)).map Int.ofNat else [] := rfl
def ofR (m : Mm) (g : Int) (i : Nat) : List Int := ((List.range i).filter fun i => decide (m.find (m.G.getD i 0) = m.find g) && decide (m.at1 i = i)).map Int.ofNat
theorem ofR_succ (m : Mm) (g : Int) (i : Nat) : ofR m g (i + 1) = if (decide (m.find (m.G.getD i 0) = m.find g) && decide (m.at1 i = i)) = true then ofR m g i ++ [(i : Int)] else ofR m g i := by
  rw [ofR, List.range_succ, List.filter_append, List.filter_cons, List.map_append]
  split
  · rfl
  · simp [ofR]
theorem ofR_len (m : Mm) (g : Int) (i : Nat) : (ofR m g i).length ≤ i := by
  have := List.length_filter_le (fun i => decide (m.find (m.G.getD i 0) = m.find g) && decide (m.at1 i = i)) (List.range i)
  rw [List.length_range] at this
  rw [ofR, List.length_map]; exact this
set_option maxHeartbeats 4000000 in
theorem Of_ok (m : Mm) (hm : m.Small) (g : Int) : Quiet Go.Proofs.Try.prog 39 [encM m, .int g] (.sl ((m.of g).map encI)) := by
  refine quiet_of (rs := #[.tmp 4]) Go.Proofs.Try.func39 rfl rfl rfl mixed rfl rfl fun H hs => ?_
  have hof := of_cut m g
  generalize m.of g = r at hof ⊢
  push_cast -implicitDefEqProofs [eq_self, iff_self]
  refine callq (MayM_ok m hm) ?_
  cases h1 : m.may with
  | false =>
    rw [h1, Bool.false_and, if_neg (by decide)] at hof
    subst hof
    push_cast -implicitDefEqProofs [eq_self, iff_self]
    repeat (refine gskip ?_; push_cast -implicitDefEqProofs [eq_self, iff_self])
  | true =>
    push_cast -implicitDefEqProofs [eq_self, iff_self]
    refine gcall trivial (callq (FindM_ok m hm g) ?_)
    by_cases h2 : m.find g = -1
    · have h2' : (m.find g = -1) = True := eq_true h2
      rw [h1, decide_eq_true h2, if_neg (by decide)] at hof
      subst hof
      push_cast -implicitDefEqProofs [eq_self, iff_self, h2']
    have h2' : (m.find g = -1) = False := eq_false h2
    rw [h1, decide_eq_false h2, if_pos (by rfl)] at hof
    have hof' : r = ofR m g m.N.length := hof
    subst hof'
    push_cast -implicitDefEqProofs [eq_self, iff_self, h2']
    have hf := may_form h1
    have hop : m.openM = none := by rw [may_cut, hf, Bool.true_and] at h1; exact Option.isNone_iff_eq_none.1 h1
    refine (First_ok m hf _).mono ?_
    rintro r H' ⟨kvs, rfl, ⟨_, rfl, rfl⟩ | ⟨x, h4, _⟩⟩
    case inr => rw [hop] at h4; cases h4
    push_cast -implicitDefEqProofs [eq_self, iff_self, plus_plus, Nat.add_zero]
    have hGl := ((form_iff m).1 hf).2.1
    have hP := form_P hf
    have hNl := hm.1
    have e0 : ofR m g 0 = [] := rfl
    refine loop_at hs (σ := Nat) (fun i => i ≤ m.N.length) (fun i => m.N.length - i)
      (fun i => [(29, .int i), (28, .int m.N.length), (27, .sl (m.N.map encN)), (8, .rsl (H.nxt + 3) 1 0 (ofR m g i).length), (5, .mp (H.nxt + 1)), (1, .int g), (2, .ptr (H.nxt + 0) 3 0 0)])
      (fun i => [some (.cells 3 [[.sl (m.N.map encN), .sl (m.G.map encI), .sl (m.P.map encI)]] 0), some (.amap (kvN m.cs m.N.length)), none, some (.cells 1 ((ofR m g i).map encI) 0)]) [some 0, some 1, none, none] 0 (by omega) rfl ?_ ?_ ?_
    · (try push_cast -implicitDefEqProofs [eq_self, iff_self, e0])
    · (try push_cast -implicitDefEqProofs [eq_self, iff_self, sealO_kv, e0])
    intro i hi2
    by_cases hi : i < m.N.length
    · have hi' : ((i : Int) < (m.N.length : Int)) = True := by simp; omega
      have hi0 : (0 ≤ (i : Int)) = True := by simp
      have hiG : ((i : Int) < (m.G.length : Int)) = True := by simp; omega
      have hget := encN_get m.N i hi
      have hg := int_at (p := m.G) (i := i) (by omega)
      have hlen := ofR_len m g i
      have hsucc := ofR_succ m g i
      have hcan : m.canon (m.N.getD i nd0) = m.cs.getD i nd0 := by rw [canon_cut, hP, form_N hf hi, cs_at hi]; rfl
      have hcl := cs_len m
      have hfind := kvN_find (C := m.cs) (i := m.N.length) (by omega) (m.cs.getD i nd0)
      have hself := idxN_self (l := m.cs) (i := i) (by omega)
      rw [if_pos (by omega)] at hfind
      have hfa := fun l => findAtN (m.cs.getD i nd0) l
      have hat : idxN (m.cs.getD i nd0) m.cs = m.at1 i := rfl
      rw [hat] at hfind
      push_cast -implicitDefEqProofs [eq_self, iff_self, hi', hi0, hget]
      have hat2 : decide ((m.at1 i : Int) = (i : Int)) = decide (m.at1 i = i) := decide_eq_decide.2 (by omega)
      by_cases hf1 : m.find (m.G.getD i 0) = m.find g
      · have hd1 : decide (m.find (m.G.getD i 0) = m.find g) = true := decide_eq_true hf1
        have hf1' : (m.find (m.G.getD i 0) = m.find g) = True := eq_true hf1
        rw [hd1, Bool.true_and] at hsucc
        refine .inl (areg_ord (fun _ => H.plus [some (.cells 3 [[.sl (m.N.map encN), .sl (m.G.map encI), .sl (m.P.map encI)]] 0), some (.amap (kvN m.cs m.N.length)), none, some (.cells 1 ((ofR m g i).map encI) 0), some (.cells 4 [encN (m.N.getD i nd0)] 0)])
          (fun k => [AV.agg (encB m), AV.ptr (H.nxt + 0) 3 0 1, AV.sl (m.G.map encI), AV.int i, AV.iptr [.int (m.G.getD i 0)], AV.int (m.G.getD i 0), AV.int (m.find (m.G.getD i 0)), AV.agg (encB m), AV.int g, AV.int (m.find g), AV.bool true, AV.bool true, AV.gv true (.mp (H.nxt + 1)), AV.gv true (.agg (encB m)), AV.gv true (.agg (encN (m.N.getD i nd0))), AV.gv true (.agg (encN (m.cs.getD i nd0))), AV.int (m.at1 i), AV.gv true (.int i), AV.gv true (.bool (decide (m.at1 i = i))), AV.bool (decide (m.at1 i = i))].getD k .any) (by kernel_rfl) (by kernel_rfl) ?_ ?_)
        · intro i0 o T D C ho hDi hdep hclo hT hC
          have hc : i0 = 0 ∨ i0 = 1 ∨ i0 = 2 ∨ i0 = 3 ∨ i0 = 4 ∨ i0 = 5 ∨ i0 = 6 ∨ i0 = 7 ∨ i0 = 8 ∨ i0 = 9 ∨ i0 = 10 ∨ i0 = 11 ∨ i0 = 12 ∨ i0 = 13 ∨ i0 = 14 ∨ i0 = 15 ∨ i0 = 16 ∨ i0 = 17 ∨ i0 = 18 ∨ i0 = 19 := by
            have := (Array.getElem?_eq_some_iff.1 ho).1
            simp only [List.size_toArray, List.length_cons, List.length_nil] at this
            omega
          have t1 := hT.low 1 rfl
          have t2 := hT.low 2 rfl
          have t5 := hT.low 5 rfl
          have t9 := hT.low 9 rfl
          have t10 := hT.low 10 rfl
          rcases hc with rfl | rfl | rfl | rfl | rfl | rfl | rfl | rfl | rfl | rfl | rfl | rfl | rfl | rfl | rfl | rfl | rfl | rfl | rfl | rfl
          all_goals
            simp only [List.getElem?_toArray, List.getElem?_cons_zero, List.getElem?_cons_succ, Option.some.injEq] at ho
            subst ho
          · skip
            push_cast -implicitDefEqProofs [eq_self, iff_self, t1, t2, t5, t9, t10, hi0, hiG, hg, encB, List.getD_cons_zero, List.getD_cons_succ, List.length_cons, List.length_nil]
            exact hC
          · skip
            push_cast -implicitDefEqProofs [eq_self, iff_self, t1, t2, t5, t9, t10, hi0, hiG, hg, encB, List.getD_cons_zero, List.getD_cons_succ, List.length_cons, List.length_nil]
            exact hC
          · skip
            have d1 := hT.put 1 35 (hdep 1 rfl) rfl
            push_cast -implicitDefEqProofs [eq_self, iff_self, t1, t2, t5, t9, t10, hi0, hiG, hg, encB, d1, List.getD_cons_zero, List.getD_cons_succ, List.length_cons, List.length_nil]
            exact hC
          · skip
            push_cast -implicitDefEqProofs [eq_self, iff_self, t1, t2, t5, t9, t10, hi0, hiG, hg, encB, List.getD_cons_zero, List.getD_cons_succ, List.length_cons, List.length_nil]
            exact hC
          · skip
            have d2 := hT.put 2 36 (hdep 2 rfl) rfl
            have d3 := hT.put 3 37 (hdep 3 rfl) rfl
            push_cast -implicitDefEqProofs [eq_self, iff_self, t1, t2, t5, t9, t10, hi0, hiG, hg, encB, d2, d3, List.getD_cons_zero, List.getD_cons_succ, List.length_cons, List.length_nil]
            exact hC
          · skip
            have d4 := hT.put 4 38 (hdep 4 rfl) rfl
            push_cast -implicitDefEqProofs [eq_self, iff_self, t1, t2, t5, t9, t10, hi0, hiG, hg, encB, d4, List.getD_cons_zero, List.getD_cons_succ, List.length_cons, List.length_nil]
            exact hC
          · skip
            have d0 := hT.put 0 34 (hdep 0 rfl) rfl
            have d5 := hT.put 5 39 (hdep 5 rfl) rfl
            push_cast -implicitDefEqProofs [eq_self, iff_self, t1, t2, t5, t9, t10, hi0, hiG, hg, encB, d0, d5, List.getD_cons_zero, List.getD_cons_succ, List.length_cons, List.length_nil]
            refine callq (FindM_ok m hm _) ?_
            exact hC
          · skip
            push_cast -implicitDefEqProofs [eq_self, iff_self, t1, t2, t5, t9, t10, hi0, hiG, hg, encB, List.getD_cons_zero, List.getD_cons_succ, List.length_cons, List.length_nil]
            exact hC
          · skip
            push_cast -implicitDefEqProofs [eq_self, iff_self, t1, t2, t5, t9, t10, hi0, hiG, hg, encB, List.getD_cons_zero, List.getD_cons_succ, List.length_cons, List.length_nil]
            exact hC
          · skip
            have d7 := hT.put 7 41 (hdep 7 rfl) rfl
            have d8 := hT.put 8 42 (hdep 8 rfl) rfl
            push_cast -implicitDefEqProofs [eq_self, iff_self, t1, t2, t5, t9, t10, hi0, hiG, hg, encB, d7, d8, List.getD_cons_zero, List.getD_cons_succ, List.length_cons, List.length_nil]
            refine callq (FindM_ok m hm _) ?_
            exact hC
          · skip
            have d6 := hT.put 6 40 (hdep 6 rfl) rfl
            have d9 := hT.put 9 43 (hdep 9 rfl) rfl
            push_cast -implicitDefEqProofs [eq_self, iff_self, t1, t2, t5, t9, t10, hi0, hiG, hg, encB, hf1', d6, d9, List.getD_cons_zero, List.getD_cons_succ, List.length_cons, List.length_nil]
            exact hC
          · skip
            have d10 := hT.put 10 44 (hdep 10 rfl) rfl
            push_cast -implicitDefEqProofs [eq_self, iff_self, t1, t2, t5, t9, t10, hi0, hiG, hg, encB, d10, List.getD_cons_zero, List.getD_cons_succ, List.length_cons, List.length_nil]
            exact hC
          · skip
            have d11 := hT.put 11 45 (hdep 11 rfl) rfl
            push_cast -implicitDefEqProofs [eq_self, iff_self, t1, t2, t5, t9, t10, hi0, hiG, hg, encB, d11, List.getD_cons_zero, List.getD_cons_succ, List.length_cons, List.length_nil]
            exact hC
          · skip
            have d11 := hT.put 11 45 (hdep 11 rfl) rfl
            push_cast -implicitDefEqProofs [eq_self, iff_self, t1, t2, t5, t9, t10, hi0, hiG, hg, encB, d11, List.getD_cons_zero, List.getD_cons_succ, List.length_cons, List.length_nil]
            exact hC
          · skip
            have d11 := hT.put 11 45 (hdep 11 rfl) rfl
            push_cast -implicitDefEqProofs [eq_self, iff_self, t1, t2, t5, t9, t10, hi0, hiG, hg, encB, d11, List.getD_cons_zero, List.getD_cons_succ, List.length_cons, List.length_nil]
            exact hC
          · skip
            have d13 := hT.put 13 47 (hdep 13 rfl) rfl
            have d14 := hT.put 14 48 (hdep 14 rfl) rfl
            have d11 := hT.put 11 45 (hdep 11 rfl) rfl
            push_cast -implicitDefEqProofs [eq_self, iff_self, t1, t2, t5, t9, t10, hi0, hiG, hg, encB, d13, d14, d11, List.getD_cons_zero, List.getD_cons_succ, List.length_cons, List.length_nil]
            refine gcallq' (.agg (encN (m.cs.getD i nd0))) (fun _ => trivial) (fun _ => by rw [← hcan]; exact Canon_ok m hm _) ?_
            exact hC
          · skip
            have d12 := hT.put 12 46 (hdep 12 rfl) rfl
            have d15 := hT.put 15 49 (hdep 15 rfl) rfl
            have d11 := hT.put 11 45 (hdep 11 rfl) rfl
            push_cast -implicitDefEqProofs [eq_self, iff_self, t1, t2, t5, t9, t10, hi0, hiG, hg, encB, lits, keyN_of, hfind, kvN_keys, hfa, d12, d15, d11, List.getD_cons_zero, List.getD_cons_succ, List.length_cons, List.length_nil]
            refine gdo trivial ?_
            exact hC
          · skip
            have d11 := hT.put 11 45 (hdep 11 rfl) rfl
            push_cast -implicitDefEqProofs [eq_self, iff_self, t1, t2, t5, t9, t10, hi0, hiG, hg, encB, d11, List.getD_cons_zero, List.getD_cons_succ, List.length_cons, List.length_nil]
            exact hC
          · skip
            have d16 := hT.put 16 50 (hdep 16 rfl) rfl
            have d17 := hT.put 17 51 (hdep 17 rfl) rfl
            have d11 := hT.put 11 45 (hdep 11 rfl) rfl
            push_cast -implicitDefEqProofs [eq_self, iff_self, t1, t2, t5, t9, t10, hi0, hiG, hg, encB, hat2, d16, d17, d11, List.getD_cons_zero, List.getD_cons_succ, List.length_cons, List.length_nil]
            exact hC
          · skip
            have d11 := hT.put 11 45 (hdep 11 rfl) rfl
            have d18 := hT.put 18 52 (hdep 18 rfl) rfl
            push_cast -implicitDefEqProofs [eq_self, iff_self, t1, t2, t5, t9, t10, hi0, hiG, hg, encB, d11, d18, List.getD_cons_zero, List.getD_cons_succ, List.length_cons, List.length_nil]
            exact hC
        · intro T D hD hT
          have t1 := hT.low 1 rfl
          have t2 := hT.low 2 rfl
          have t5 := hT.low 5 rfl
          have t8 := hT.low 8 rfl
          have t9 := hT.low 9 rfl
          have t27 := hT.low 27 rfl
          have t28 := hT.low 28 rfl
          have t29 := hT.low 29 rfl
          have d19 := hT.put 19 53 (hD 19 (by decide)) rfl
          push_cast -implicitDefEqProofs [eq_self, iff_self, t1, t2, t5, t8, t9, t27, t28, t29, d19, List.getD_cons_zero, List.getD_cons_succ, List.length_cons, List.length_nil]
          rw [wrap64 (by omega) (by omega)]
          refine ⟨fun ha => ⟨by omega, ?_⟩, fun ha => ?_⟩
          · rw [decide_eq_true ha, if_pos rfl] at hsucc
            have hlen2 : (ofR m g (i + 1)).length = (ofR m g i).length + 1 := by rw [hsucc]; simp
            have hrow : List.take (ofR m g i).length ((ofR m g i).map encI) ++ [[AV.lit (.int .i64 (i : Int))]] = (ofR m g (i + 1)).map encI := by
              rw [List.take_of_length_le (by simp), hsucc, List.map_append]; rfl
            refine next_at [some 0, some 1, none, some 6] (i + 1) (by omega) (by omega) rfl ?_ ?_
            · (try push_cast -implicitDefEqProofs [eq_self, iff_self, hlen2, t1, t2, t5, t27, t28])
            · (try push_cast -implicitDefEqProofs [eq_self, iff_self, sealO_kv, hrow])
          · rw [decide_eq_false ha, if_neg (by decide)] at hsucc
            refine next_at [some 0, some 1, none, some 3] (i + 1) (by omega) (by omega) rfl ?_ ?_
            · (try push_cast -implicitDefEqProofs [eq_self, iff_self, hsucc, t1, t2, t5, t8, t27, t28])
            · (try push_cast -implicitDefEqProofs [eq_self, iff_self, sealO_kv, hsucc])
      · have hd1 : decide (m.find (m.G.getD i 0) = m.find g) = false := decide_eq_false hf1
        have hf1' : (m.find (m.G.getD i 0) = m.find g) = False := eq_false hf1
        rw [hd1, Bool.false_and, if_neg (by decide)] at hsucc
        refine areg_at 20 (by kernel_rfl) (by kernel_rfl) ?_
        push_cast -implicitDefEqProofs [eq_self, iff_self, hi', hi0, hiG, hg]
        refine ahdq (FindM_ok m hm _) ?_
        push_cast -implicitDefEqProofs [eq_self, iff_self]
        refine ahdq (FindM_ok m hm _) ?_
        push_cast -implicitDefEqProofs [eq_self, iff_self, hf1']
        refine gcallq .any (fun h => Bool.noConfusion h) ?_
        push_cast -implicitDefEqProofs [eq_self, iff_self, lits, keyN_of, hfind, kvN_keys, hfa]
        rw [wrap64 (by omega) (by omega)]
        refine next_at [some 0, some 1, none, some 3] (i + 1) (by omega) (by omega) rfl ?_ ?_
        · (try push_cast -implicitDefEqProofs [eq_self, iff_self, hsucc])
        · (try push_cast -implicitDefEqProofs [eq_self, iff_self, sealO_kv, hsucc])
    · have hi' : ((i : Int) < (m.N.length : Int)) = False := by simp; omega
      obtain rfl : i = m.N.length := by omega
      have ht : List.take (ofR m g m.N.length).length ((ofR m g m.N.length).map encI) = (ofR m g m.N.length).map encI := List.take_of_length_le (by simp)
      push_cast -implicitDefEqProofs [eq_self, iff_self, hi', ht]
end
section
def encJ (j : Jb) : List AV := [.bool j.mv, .int j.e, .int j.f]
theorem encJ_eq (j : Jb) : encJ j = [.bool j.mv, .int j.e, .int j.f] := rfl
def jb0 : Jb := ⟨false, 0, 0⟩
theorem encJ_get (l : List Jb) (i : Nat) (h : i < l.length) : (l.map encJ).getD i [] = encJ (l.getD i jb0) := by
  rw [List.getD_eq_getElem?_getD, List.getD_eq_getElem?_getD, List.getElem?_map, List.getElem?_eq_getElem h]; rfl
theorem encJs_pure (l : List Jb) : PureLL (l.map encJ) := by
  rw [pureLL_iff]
  intro e he
  obtain ⟨x, _, rfl⟩ := List.mem_map.1 he
  simp [encJ, PureL, Pure]
theorem encJs_three (l : List Jb) : (∀ e ∈ l.map encJ, e.length = 3) = True := eq_true fun e he => by obtain ⟨x, _, rfl⟩ := List.mem_map.1 he; rfl
attribute [local push_cast] encIs_pure encNs_pure encJs_pure encN_eq encM_eq encJ_eq plus_obj0 plus_set0 piL_is00 piL_is0 piL_isk encIs_one encNs_four encJs_three
theorem CloneN_q (p : List Nd) (hp : p.length ≤ 1000000) : Quiet Go.Proofs.Try.prog 86 [.sl (p.map encN)] (.sl (p.map encN)) := quiet_row (encNs_pure _) (CloneN_ok p hp)
theorem CloneI_q (p : List Int) (hp : p.length ≤ 1000000) : Quiet Go.Proofs.Try.prog 72 [.sl (p.map encI)] (.sl (p.map encI)) := quiet_row (encIs_pure _) (CloneI_ok p hp)
theorem OwnG_q (m : Mm) (hm : m.Small) : Quiet Go.Proofs.Try.prog 54 [encM m] (encM m) := by
  refine quiet_of (rs := #[.cell 2 25]) Go.Proofs.Try.func54 rfl rfl rfl mixed rfl rfl fun H hs => ?_
  push_cast -implicitDefEqProofs [eq_self, iff_self]
  refine areg_at 10 (by kernel_rfl) (by kernel_rfl) ?_
  push_cast -implicitDefEqProofs [eq_self, iff_self]
  refine ahdq (CloneN_q _ hm.1) ?_
  push_cast -implicitDefEqProofs [eq_self, iff_self]
  refine ahdq (CloneI_q _ hm.2.1) ?_
  push_cast -implicitDefEqProofs [eq_self, iff_self]
  refine ahdq (CloneI_q _ hm.2.2) ?_
  push_cast -implicitDefEqProofs [eq_self, iff_self]
def rowJ (m : Mm) (i k : Nat) : List Jb := jobsUp m i ++ ⟨false, i, 0⟩ :: jobsTo m i k
set_option maxHeartbeats 4000000 in
theorem Jobs0_ok (m : Mm) (hf : m.form = true) (H : AH) : ACalls Go.Proofs.Try.prog 63 [encM m] H (RowR H 3 (m.jobs0.map encJ)) := by
  have hsm := form_small hf
  have hP := form_P hf
  have hRl := rootsS_len hP
  have hGl := ((form_iff m).1 hf).2.1
  have hNl := ((form_iff m).1 hf).2.2.1
  refine acalls_sc (rs := #[.tmp 2]) Go.Proofs.Try.func63 rfl rfl rfl mixed rfl (Nat.le_of_ble_eq_true rfl) fun hs _ => ?_
  push_cast -implicitDefEqProofs [eq_self, iff_self]
  refine callq (RootsS_q m.P hsm.2.2) ?_
  push_cast -implicitDefEqProofs [eq_self, iff_self]
  refine loop_at hs (σ := Nat) (fun i => i ≤ m.N.length) (fun i => m.N.length - i)
    (fun i => [(15, .int i), (14, .int m.N.length), (13, .sl (m.N.map encN)), (4, .rsl (H.nxt + 1) 3 0 (jobsUp m i).length), (3, .sl ((rootsS m.P).map encI)), (1, .ptr (H.nxt + 0) 3 0 0)])
    (fun i => [some (.cells 3 [[.sl (m.N.map encN), .sl (m.G.map encI), .sl (m.P.map encI)]] 0), some (.cells 3 ((jobsUp m i).map encJ) 0)]) [some 0, none] 0 (by omega) rfl ?_ ?_ ?_
  · (try push_cast -implicitDefEqProofs [eq_self, iff_self, show jobsUp m 0 = [] from rfl])
  · (try push_cast -implicitDefEqProofs [eq_self, iff_self, show jobsUp m 0 = [] from rfl])
  intro i hi2
  by_cases hi : i < m.N.length
  · have hi' : ((i : Int) < (m.N.length : Int)) = True := by simp; omega
    have hi0 : (0 ≤ (i : Int)) = True := by simp
    have hget := encN_get m.N i hi
    have hsucc := jobsUp_succ m i
    have hat := jobsAt_def m i
    have hlen : (jobsUp m i).length ≤ 400 * 401 := Nat.le_trans (jobsUp_len m i) (Nat.mul_le_mul (by omega) (by omega))
    cases hj : (m.N.getD i nd0).jn with
    | false =>
      rw [hat, hj, if_neg (by decide), List.append_nil] at hsucc
      push_cast -implicitDefEqProofs [eq_self, iff_self, hi', hi0, hget, hj]
      rw [wrap64 (by omega) (by omega)]
      refine next_at [some 0, some 1] (i + 1) (by omega) (by omega) rfl ?_ ?_
      · (try push_cast -implicitDefEqProofs [eq_self, iff_self, hsucc])
      · (try push_cast -implicitDefEqProofs [eq_self, iff_self, hsucc])
    | true =>
      rw [hat, hj, if_pos rfl] at hsucc
      have hnode := node_join (form_N hf hi) hj
      have hra := int_at (p := rootsS m.P) (i := (m.N.getD i nd0).a.toNat) (by omega)
      have hl0 : ∀ k, k ≤ m.N.length → (rowJ m i k).length ≤ 200000 := fun k hk => by
        have := jobsTo_len m i k
        rw [rowJ, List.length_append, List.length_cons]; omega
      have hlk : (rowJ m i 0).length = (jobsUp m i).length + 1 := by rw [rowJ, List.length_append]; rfl
      have hrow0 : List.take (jobsUp m i).length ((jobsUp m i).map encJ) ++ [[AV.lit (.bool false), .lit (.int .i64 (i : Int)), .lit (.int .i64 0)]] = (rowJ m i 0).map encJ := by
        rw [List.take_of_length_le (by simp), rowJ, List.map_append]; rfl
      push_cast -implicitDefEqProofs [eq_self, iff_self, hi', hi0, hget, hj]
      refine ⟨by omega, ?_⟩
      refine loop_at hs (σ := Nat) (fun k => k ≤ m.N.length) (fun k => m.N.length - k)
        (fun k => [(31, .int k), (30, .int m.N.length), (29, .sl (m.N.map encN)), (4, .rsl (H.nxt + 3) 3 0 (rowJ m i k).length), (5, .int i), (6, .ptr (H.nxt + 2) 4 0 0), (15, .int i), (14, .int m.N.length), (13, .sl (m.N.map encN)), (3, .sl ((rootsS m.P).map encI)), (1, .ptr (H.nxt + 0) 3 0 0)])
        (fun k => [some (.cells 3 [[.sl (m.N.map encN), .sl (m.G.map encI), .sl (m.P.map encI)]] 0), none, some (.cells 4 [encN (m.N.getD i nd0)] 0), some (.cells 3 ((rowJ m i k).map encJ) 0)]) [some 0, none, some 2, some 4] 0 (by omega) rfl ?_ ?_ ?_
      · (try push_cast -implicitDefEqProofs [eq_self, iff_self, hlk])
      · (try push_cast -implicitDefEqProofs [eq_self, iff_self, hrow0, hj])
      intro k hk2
      by_cases hk : k < m.N.length
      · have hk' : ((k : Int) < (m.N.length : Int)) = True := by simp; omega
        have hk0 : (0 ≤ (k : Int)) = True := by simp
        have hkG : ((k : Int) < (m.G.length : Int)) = True := by simp; omega
        have hgk := encN_get m.N k hk
        have hG := form_G hf hk
        have hg1 := int_at (p := m.G) (i := k) (by omega)
        have hr1 := int_at (p := rootsS m.P) (i := (m.G.getD k 0).toNat) (by omega)
        have er : m.rg k = (rootsS m.P).getD (m.G.getD k 0).toNat 0 := rfl
        rw [← er] at hr1
        have hts := jobsTo_succ m i k
        have hrs : rowJ m i (k + 1) = if ((m.N.getD k nd0).jn && decide (m.rg k = (rootsS m.P).getD (m.N.getD i nd0).a.toNat 0)) = true then rowJ m i k ++ [⟨true, i, k⟩] else rowJ m i k := by
          rw [rowJ, hts]
          split
          · rw [rowJ, List.append_assoc]; rfl
          · rfl
        have hlk := hl0 k hk2
        push_cast -implicitDefEqProofs [eq_self, iff_self, hk', hk0, hgk]
        refine areg_at 18 (by kernel_rfl) (by kernel_rfl) ?_
        cases hjk : (m.N.getD k nd0).jn with
        | false =>
          rw [hjk, Bool.false_and, if_neg (by decide)] at hrs
          push_cast -implicitDefEqProofs [eq_self, iff_self, hjk, hk0, hkG, hg1, hr1, hra, hj]
          rw [wrap64 (by omega) (by omega)]
          refine next_at [some 0, none, some 2, some 3] (k + 1) (by omega) (by omega) rfl ?_ ?_
          · (try push_cast -implicitDefEqProofs [eq_self, iff_self, hrs])
          · (try push_cast -implicitDefEqProofs [eq_self, iff_self, hrs])
        | true =>
          rw [hjk, Bool.true_and] at hrs
          push_cast -implicitDefEqProofs [eq_self, iff_self, hjk, hk0, hkG, hg1, hr1, hra, hj]
          rw [wrap64 (by omega) (by omega)]
          refine ⟨⟨hG.1, by omega⟩, ⟨hnode.2.1.1, by omega⟩, fun he => ⟨by omega, ?_⟩, fun he => ?_⟩
          · rw [decide_eq_true he, if_pos rfl] at hrs
            have hln : (rowJ m i (k + 1)).length = (rowJ m i k).length + 1 := by rw [hrs]; simp
            have hrow : List.take (rowJ m i k).length ((rowJ m i k).map encJ) ++ [[AV.lit (.bool true), .lit (.int .i64 (i : Int)), .lit (.int .i64 (k : Int))]] = (rowJ m i (k + 1)).map encJ := by
              rw [List.take_of_length_le (by simp), hrs, List.map_append]; rfl
            refine next_at [some 0, none, some 2, some 6] (k + 1) (by omega) (by omega) rfl ?_ ?_
            · (try push_cast -implicitDefEqProofs [eq_self, iff_self, hln])
            · (try push_cast -implicitDefEqProofs [eq_self, iff_self, hrow])
          · rw [decide_eq_false he, if_neg (by decide)] at hrs
            refine next_at [some 0, none, some 2, some 3] (k + 1) (by omega) (by omega) rfl ?_ ?_
            · (try push_cast -implicitDefEqProofs [eq_self, iff_self, hrs])
            · (try push_cast -implicitDefEqProofs [eq_self, iff_self, hrs])
      · have hk' : ((k : Int) < (m.N.length : Int)) = False := by simp; omega
        obtain rfl : k = m.N.length := by omega
        have hrow : rowJ m i m.N.length = jobsUp m (i + 1) := by rw [hsucc]; rfl
        push_cast -implicitDefEqProofs [eq_self, iff_self, hk']
        rw [wrap64 (by omega) (by omega)]
        refine next_at [some 0, some 3] (i + 1) (by omega) (by omega) rfl ?_ ?_
        · (try push_cast -implicitDefEqProofs [eq_self, iff_self, hrow])
        · (try push_cast -implicitDefEqProofs [eq_self, iff_self, hrow])
  · have hi' : ((i : Int) < (m.N.length : Int)) = False := by simp; omega
    obtain rfl : i = m.N.length := by omega
    push_cast -implicitDefEqProofs [eq_self, iff_self, hi']
    have := ret_row hs (z := 3) (k := 1) (rows := m.jobs0.map encJ) (l := [some (.cells 3 [[.sl (m.N.map encN), .sl (m.G.map encI), .sl (m.P.map encI)]] 0), some (.cells 3 (m.jobs0.map encJ) 0)]) (φ := True) rfl (encJs_pure _) (of_eq_true (encJs_three _)) trivial
    rwa [List.length_map] at this
end
section
attribute [local push_cast] encIs_pure encNs_pure encJs_pure encN_eq encM_eq encJ_eq plus_obj0 plus_set0 piL_is00 piL_is0 piL_isk encIs_one encNs_four encJs_three
theorem JoinG_ok (a b : Int) : Quiet Go.Proofs.Try.prog 53 [.int a, .int b] (.agg (encN (ndJ a b))) := by
  refine quiet_of (rs := #[.cell 4 55]) Go.Proofs.Try.func53 rfl rfl rfl mixed rfl rfl fun H hs => ?_
  push_cast -implicitDefEqProofs [eq_self, iff_self, ndJ]
theorem inb_true {n k : Nat} (h : n < k) : ((n : Int) < (k : Int)) = True := by simp; omega
set_option maxHeartbeats 4000000 in
theorem Do0_ok (m : Mm) (hm : m.Small) (hG : m.G.length = m.N.length) (j : Jb) (he : 0 ≤ j.e ∧ j.e < m.N.length) (hf : 0 ≤ j.f ∧ j.f < m.N.length) :
    Quiet Go.Proofs.Try.prog 56 [encM m, .agg (encJ j)] (.tup [encM (m.do0 j).1, .int (m.do0 j).2]) := by
  refine quiet_of (rs := #[.cell 4 25, .tmp 5]) Go.Proofs.Try.func56 rfl rfl rfl mixed rfl rfl fun H hs => ?_
  have hdo := do0_def m j
  generalize m.do0 j = r at hdo ⊢
  have e1 : m.do1 j = m.put (ndJ (m.N.getD j.e.toNat nd0).b (m.N.getD j.e.toNat nd0).a) (m.G.getD j.e.toNat 0) := rfl
  have e2 : m.do2 j = m.put (ndJ (m.N.getD j.f.toNat nd0).b (m.N.getD j.e.toNat nd0).b) (-1) := rfl
  have e3 : m.do3 j = (m.do2 j).1.put (ndJ (m.N.getD j.f.toNat nd0).a (m.do2 j).2.1) (m.G.getD j.e.toNat 0) := rfl
  have p1 := Put_ok m hm (ndJ (m.N.getD j.e.toNat nd0).b (m.N.getD j.e.toNat nd0).a) (m.G.getD j.e.toNat 0)
  have p2 := Put_ok m hm (ndJ (m.N.getD j.f.toNat nd0).b (m.N.getD j.e.toNat nd0).b) (-1)
  have s2 : (m.do2 j).1.Small := put_few hm _ _
  have p3 := Put_ok (m.do2 j).1 s2 (ndJ (m.N.getD j.f.toNat nd0).a (m.do2 j).2.1) (m.G.getD j.e.toNat 0)
  rw [← e1] at p1
  rw [← e2] at p2
  rw [← e3] at p3
  generalize m.do1 j = q1 at hdo p1
  clear e1 e2 e3
  generalize m.do2 j = q2 at hdo p2 p3 s2
  generalize m.do3 j = q3 at hdo p3
  obtain ⟨mv, e, f⟩ := j
  obtain ⟨e, rfl⟩ : ∃ y : Nat, e = y := ⟨e.toNat, by dsimp only at he; omega⟩
  obtain ⟨f, rfl⟩ : ∃ y : Nat, f = y := ⟨f.toNat, by dsimp only at hf; omega⟩
  dsimp only at he hf hdo p1 p2 p3
  simp only [Int.toNat_natCast] at p1 p2 p3
  have hge := encN_get m.N e (by omega)
  have hgf := encN_get m.N f (by omega)
  have hgg := int_at (p := m.G) (i := e) (by omega)
  have he0 : (0 ≤ (e : Int)) = True := by simp
  have hf0 : (0 ≤ (f : Int)) = True := by simp
  have he1 := inb_true (n := e) (k := m.N.length) (by omega)
  have hf1 := inb_true (n := f) (k := m.N.length) (by omega)
  have he2 := inb_true (n := e) (k := m.G.length) (by omega)
  generalize m.N.getD e nd0 = x at hge p1 p2 p3
  generalize m.N.getD f nd0 = y at hgf p2 p3
  generalize m.G.getD e 0 = g at hgg p1 p3
  cases mv with
  | false =>
    rw [if_neg (by decide)] at hdo
    subst hdo
    push_cast -implicitDefEqProofs [eq_self, iff_self, he0, he1, hge]
    refine areg_at 21 (by kernel_rfl) (by kernel_rfl) ?_
    push_cast -implicitDefEqProofs [eq_self, iff_self, he0, he2, hgg]
    refine ahdq (JoinG_ok _ _) ?_
    push_cast -implicitDefEqProofs [eq_self, iff_self, he0, he2, hgg]
    refine ahdq p1 ?_
    push_cast -implicitDefEqProofs [eq_self, iff_self, he0, he2, hgg]
  | true =>
    rw [if_pos rfl] at hdo
    push_cast -implicitDefEqProofs [eq_self, iff_self, he0, he1, hge, hf0, hf1, hgf]
    refine areg_at 15 (by kernel_rfl) (by kernel_rfl) ?_
    push_cast -implicitDefEqProofs [eq_self, iff_self]
    refine ahdq (JoinG_ok _ _) ?_
    push_cast -implicitDefEqProofs [eq_self, iff_self]
    refine ahdq p2 ?_
    push_cast -implicitDefEqProofs [eq_self, iff_self]
    by_cases h2 : q2.2.2 = 0
    case neg =>
      have h2' : (q2.2.2 = 0) = False := eq_false h2
      rw [if_neg h2] at hdo
      subst hdo
      push_cast -implicitDefEqProofs [eq_self, iff_self, h2']
      refine callq (OwnG_q m hm) ?_
      push_cast -implicitDefEqProofs [eq_self, iff_self]
    have h2' : (q2.2.2 = 0) = True := eq_true h2
    rw [if_pos h2] at hdo
    push_cast -implicitDefEqProofs [eq_self, iff_self, h2']
    refine .inl (areg_ord (fun D => if D 16 = true then H.plus [some (.cells 3 [[.sl (m.N.map encN), .sl (m.G.map encI), .sl (m.P.map encI)]] 0), some (.cells 3 [[.bool true, .int e, .int f]] 0), some (.cells 3 [[.nilS, .nilS, .nilS]] 0), some (.cells 4 [encN x] 0), some (.cells 4 [encN y] 0), some (.cells 3 [[.sl (q3.1.N.map encN), .sl (q3.1.G.map encI), .sl (q3.1.P.map encI)]] 0)] else H.plus [some (.cells 3 [[.sl (m.N.map encN), .sl (m.G.map encI), .sl (m.P.map encI)]] 0), some (.cells 3 [[.bool true, .int e, .int f]] 0), some (.cells 3 [[.nilS, .nilS, .nilS]] 0), some (.cells 4 [encN x] 0), some (.cells 4 [encN y] 0), some (.cells 3 [[.sl (q2.1.N.map encN), .sl (q2.1.G.map encI), .sl (q2.1.P.map encI)]] 0)]) (fun k => [AV.agg [.sl (q2.1.N.map encN), .sl (q2.1.G.map encI), .sl (q2.1.P.map encI)], AV.ptr (H.nxt + 4) 4 0 2, AV.int y.a, AV.int q2.2.1, AV.agg (encN (ndJ y.a q2.2.1)), AV.ptr (H.nxt + 0) 3 0 1, AV.sl (m.G.map encI), AV.ptr (H.nxt + 1) 3 0 1, AV.int e, AV.iptr [.int g], AV.int g, AV.tup [.agg [.sl (q3.1.N.map encN), .sl (q3.1.G.map encI), .sl (q3.1.P.map encI)], .int q3.2.1, .int q3.2.2], AV.tup [.agg [.sl (q3.1.N.map encN), .sl (q3.1.G.map encI), .sl (q3.1.P.map encI)], .int q3.2.1, .int q3.2.2], AV.agg [.sl (q3.1.N.map encN), .sl (q3.1.G.map encI), .sl (q3.1.P.map encI)], AV.int q3.2.1, AV.int q3.2.2, AV.any, AV.int q3.2.2].getD k .any) (by kernel_rfl) (by kernel_rfl) ?_ ?_)
    · intro i0 o T D C ho hDi hdep hclo hT hC
      have hc : i0 = 0 ∨ i0 = 1 ∨ i0 = 2 ∨ i0 = 3 ∨ i0 = 4 ∨ i0 = 5 ∨ i0 = 6 ∨ i0 = 7 ∨ i0 = 8 ∨ i0 = 9 ∨ i0 = 10 ∨ i0 = 11 ∨ i0 = 12 ∨ i0 = 13 ∨ i0 = 14 ∨ i0 = 15 ∨ i0 = 16 ∨ i0 = 17 := by
        have := (Array.getElem?_eq_some_iff.1 ho).1
        simp only [List.size_toArray, List.length_cons, List.length_nil] at this
        omega
      have t2 := hT.low 2 rfl
      have t3 := hT.low 3 rfl
      have t10 := hT.low 10 rfl
      have t11 := hT.low 11 rfl
      have t12 := hT.low 12 rfl
      try dsimp only at hC ⊢
      rcases hc with rfl | rfl | rfl | rfl | rfl | rfl | rfl | rfl | rfl | rfl | rfl | rfl | rfl | rfl | rfl | rfl | rfl | rfl
      all_goals
        simp only [List.getElem?_toArray, List.getElem?_cons_zero, List.getElem?_cons_succ, Option.some.injEq] at ho
        subst ho
      · skip
        cases e : D 16 with
        | false =>
          rw [if_neg (by decide)]
          rw [if_neg (by rw [show addD D 0 16 = D 16 from rfl, e]; decide)] at hC
          push_cast -implicitDefEqProofs [eq_self, iff_self, t2, t3, t10, t11, t12, he0, he2, hgg, List.getD_cons_zero, List.getD_cons_succ, List.length_cons, List.length_nil]
          exact hC
        | true =>
          exact absurd (hclo 16 _ rfl e 0 rfl) (by rw [hDi]; decide)
      · skip
        cases e : D 16 with
        | false =>
          rw [if_neg (by decide)]
          rw [if_neg (by rw [show addD D 1 16 = D 16 from rfl, e]; decide)] at hC
          push_cast -implicitDefEqProofs [eq_self, iff_self, t2, t3, t10, t11, t12, he0, he2, hgg, List.getD_cons_zero, List.getD_cons_succ, List.length_cons, List.length_nil]
          exact hC
        | true =>
          exact absurd (hclo 16 _ rfl e 1 rfl) (by rw [hDi]; decide)
      · skip
        have d1 := hT.put 1 66 (hdep 1 rfl) rfl
        cases e : D 16 with
        | false =>
          rw [if_neg (by decide)]
          rw [if_neg (by rw [show addD D 2 16 = D 16 from rfl, e]; decide)] at hC
          push_cast -implicitDefEqProofs [eq_self, iff_self, t2, t3, t10, t11, t12, he0, he2, hgg, d1, List.getD_cons_zero, List.getD_cons_succ, List.length_cons, List.length_nil]
          exact hC
        | true =>
          exact absurd (hclo 16 _ rfl e 2 rfl) (by rw [hDi]; decide)
      · skip
        cases e : D 16 with
        | false =>
          rw [if_neg (by decide)]
          rw [if_neg (by rw [show addD D 3 16 = D 16 from rfl, e]; decide)] at hC
          push_cast -implicitDefEqProofs [eq_self, iff_self, t2, t3, t10, t11, t12, he0, he2, hgg, List.getD_cons_zero, List.getD_cons_succ, List.length_cons, List.length_nil]
          exact hC
        | true =>
          exact absurd (hclo 16 _ rfl e 3 rfl) (by rw [hDi]; decide)
      · skip
        have d2 := hT.put 2 67 (hdep 2 rfl) rfl
        have d3 := hT.put 3 68 (hdep 3 rfl) rfl
        cases e : D 16 with
        | false =>
          rw [if_neg (by decide)]
          rw [if_neg (by rw [show addD D 4 16 = D 16 from rfl, e]; decide)] at hC
          push_cast -implicitDefEqProofs [eq_self, iff_self, t2, t3, t10, t11, t12, he0, he2, hgg, d2, d3, List.getD_cons_zero, List.getD_cons_succ, List.length_cons, List.length_nil]
          refine callq (JoinG_ok _ _) ?_
          exact hC
        | true =>
          exact absurd (hclo 16 _ rfl e 4 rfl) (by rw [hDi]; decide)
      · skip
        cases e : D 16 with
        | false =>
          rw [if_neg (by decide)]
          rw [if_neg (by rw [show addD D 5 16 = D 16 from rfl, e]; decide)] at hC
          push_cast -implicitDefEqProofs [eq_self, iff_self, t2, t3, t10, t11, t12, he0, he2, hgg, List.getD_cons_zero, List.getD_cons_succ, List.length_cons, List.length_nil]
          exact hC
        | true =>
          exact absurd (hclo 16 _ rfl e 5 rfl) (by rw [hDi]; decide)
      · skip
        have d5 := hT.put 5 70 (hdep 5 rfl) rfl
        cases e : D 16 with
        | false =>
          rw [if_neg (by decide)]
          rw [if_neg (by rw [show addD D 6 16 = D 16 from rfl, e]; decide)] at hC
          push_cast -implicitDefEqProofs [eq_self, iff_self, t2, t3, t10, t11, t12, he0, he2, hgg, d5, List.getD_cons_zero, List.getD_cons_succ, List.length_cons, List.length_nil]
          exact hC
        | true =>
          exact absurd (hclo 16 _ rfl e 6 rfl) (by rw [hDi]; decide)
      · skip
        cases e : D 16 with
        | false =>
          rw [if_neg (by decide)]
          rw [if_neg (by rw [show addD D 7 16 = D 16 from rfl, e]; decide)] at hC
          push_cast -implicitDefEqProofs [eq_self, iff_self, t2, t3, t10, t11, t12, he0, he2, hgg, List.getD_cons_zero, List.getD_cons_succ, List.length_cons, List.length_nil]
          exact hC
        | true =>
          exact absurd (hclo 16 _ rfl e 7 rfl) (by rw [hDi]; decide)
      · skip
        have d7 := hT.put 7 72 (hdep 7 rfl) rfl
        cases e : D 16 with
        | false =>
          rw [if_neg (by decide)]
          rw [if_neg (by rw [show addD D 8 16 = D 16 from rfl, e]; decide)] at hC
          push_cast -implicitDefEqProofs [eq_self, iff_self, t2, t3, t10, t11, t12, he0, he2, hgg, d7, List.getD_cons_zero, List.getD_cons_succ, List.length_cons, List.length_nil]
          exact hC
        | true =>
          exact absurd (hclo 16 _ rfl e 8 rfl) (by rw [hDi]; decide)
      · skip
        have d6 := hT.put 6 71 (hdep 6 rfl) rfl
        have d8 := hT.put 8 73 (hdep 8 rfl) rfl
        cases e : D 16 with
        | false =>
          rw [if_neg (by decide)]
          rw [if_neg (by rw [show addD D 9 16 = D 16 from rfl, e]; decide)] at hC
          push_cast -implicitDefEqProofs [eq_self, iff_self, t2, t3, t10, t11, t12, he0, he2, hgg, d6, d8, List.getD_cons_zero, List.getD_cons_succ, List.length_cons, List.length_nil]
          exact hC
        | true =>
          exact absurd (hclo 16 _ rfl e 9 rfl) (by rw [hDi]; decide)
      · skip
        have d9 := hT.put 9 74 (hdep 9 rfl) rfl
        cases e : D 16 with
        | false =>
          rw [if_neg (by decide)]
          rw [if_neg (by rw [show addD D 10 16 = D 16 from rfl, e]; decide)] at hC
          push_cast -implicitDefEqProofs [eq_self, iff_self, t2, t3, t10, t11, t12, he0, he2, hgg, d9, List.getD_cons_zero, List.getD_cons_succ, List.length_cons, List.length_nil]
          exact hC
        | true =>
          exact absurd (hclo 16 _ rfl e 10 rfl) (by rw [hDi]; decide)
      · skip
        have d0 := hT.put 0 65 (hdep 0 rfl) rfl
        have d4 := hT.put 4 69 (hdep 4 rfl) rfl
        have d10 := hT.put 10 75 (hdep 10 rfl) rfl
        cases e : D 16 with
        | false =>
          rw [if_neg (by decide)]
          rw [if_neg (by rw [show addD D 11 16 = D 16 from rfl, e]; decide)] at hC
          push_cast -implicitDefEqProofs [eq_self, iff_self, t2, t3, t10, t11, t12, he0, he2, hgg, d0, d4, d10, List.getD_cons_zero, List.getD_cons_succ, List.length_cons, List.length_nil]
          refine callq p3 ?_
          exact hC
        | true =>
          exact absurd (hclo 16 _ rfl e 11 rfl) (by rw [hDi]; decide)
      · skip
        have d11 := hT.put 11 76 (hdep 11 rfl) rfl
        cases e : D 16 with
        | false =>
          rw [if_neg (by decide)]
          rw [if_neg (by rw [show addD D 12 16 = D 16 from rfl, e]; decide)] at hC
          push_cast -implicitDefEqProofs [eq_self, iff_self, t2, t3, t10, t11, t12, he0, he2, hgg, d11, List.getD_cons_zero, List.getD_cons_succ, List.length_cons, List.length_nil]
          exact hC
        | true =>
          exact absurd (hclo 16 _ rfl e 12 rfl) (by rw [hDi]; decide)
      · skip
        have d12 := hT.put 12 64 (hdep 12 rfl) rfl
        cases e : D 16 with
        | false =>
          rw [if_neg (by decide)]
          rw [if_neg (by rw [show addD D 13 16 = D 16 from rfl, e]; decide)] at hC
          push_cast -implicitDefEqProofs [eq_self, iff_self, t2, t3, t10, t11, t12, he0, he2, hgg, d12, List.getD_cons_zero, List.getD_cons_succ, List.length_cons, List.length_nil]
          exact hC
        | true =>
          exact absurd (hclo 16 _ rfl e 13 rfl) (by rw [hDi]; decide)
      · skip
        have d12 := hT.put 12 64 (hdep 12 rfl) rfl
        cases e : D 16 with
        | false =>
          rw [if_neg (by decide)]
          rw [if_neg (by rw [show addD D 14 16 = D 16 from rfl, e]; decide)] at hC
          push_cast -implicitDefEqProofs [eq_self, iff_self, t2, t3, t10, t11, t12, he0, he2, hgg, d12, List.getD_cons_zero, List.getD_cons_succ, List.length_cons, List.length_nil]
          exact hC
        | true =>
          rw [if_pos rfl]
          rw [if_pos (show addD D 14 16 = true from e)] at hC
          push_cast -implicitDefEqProofs [eq_self, iff_self, t2, t3, t10, t11, t12, he0, he2, hgg, d12, List.getD_cons_zero, List.getD_cons_succ, List.length_cons, List.length_nil]
          exact hC
      · skip
        have d12 := hT.put 12 64 (hdep 12 rfl) rfl
        cases e : D 16 with
        | false =>
          rw [if_neg (by decide)]
          rw [if_neg (by rw [show addD D 15 16 = D 16 from rfl, e]; decide)] at hC
          push_cast -implicitDefEqProofs [eq_self, iff_self, t2, t3, t10, t11, t12, he0, he2, hgg, d12, List.getD_cons_zero, List.getD_cons_succ, List.length_cons, List.length_nil]
          exact hC
        | true =>
          rw [if_pos rfl]
          rw [if_pos (show addD D 15 16 = true from e)] at hC
          push_cast -implicitDefEqProofs [eq_self, iff_self, t2, t3, t10, t11, t12, he0, he2, hgg, d12, List.getD_cons_zero, List.getD_cons_succ, List.length_cons, List.length_nil]
          exact hC
      · skip
        have d13 := hT.put 13 77 (hdep 13 rfl) rfl
        rw [if_neg (by rw [hDi]; decide)]
        rw [if_pos (show addD D 16 16 = true from rfl)] at hC
        push_cast -implicitDefEqProofs [eq_self, iff_self, t2, t3, t10, t11, t12, he0, he2, hgg, d13, List.getD_cons_zero, List.getD_cons_succ, List.length_cons, List.length_nil]
        exact hC
      · skip
        have d15 := hT.put 15 79 (hdep 15 rfl) rfl
        cases e : D 16 with
        | false =>
          rw [if_neg (by decide)]
          rw [if_neg (by rw [show addD D 17 16 = D 16 from rfl, e]; decide)] at hC
          push_cast -implicitDefEqProofs [eq_self, iff_self, t2, t3, t10, t11, t12, he0, he2, hgg, d15, List.getD_cons_zero, List.getD_cons_succ, List.length_cons, List.length_nil]
          exact hC
        | true =>
          rw [if_pos rfl]
          rw [if_pos (show addD D 17 16 = true from e)] at hC
          push_cast -implicitDefEqProofs [eq_self, iff_self, t2, t3, t10, t11, t12, he0, he2, hgg, d15, List.getD_cons_zero, List.getD_cons_succ, List.length_cons, List.length_nil]
          exact hC
    · intro T D hD hT
      try dsimp only
      rw [if_pos (hD 16 (by decide))]
      have t2 := hT.low 2 rfl
      have t4 := hT.low 4 rfl
      have t11 := hT.low 11 rfl
      have d17 := hT.put 17 13 (hD 17 (by decide)) rfl
      by_cases h3 : q3.2.2 = 0
      · have h3' : (q3.2.2 = 0) = True := eq_true h3
        rw [if_pos h3] at hdo
        subst hdo
        push_cast -implicitDefEqProofs [eq_self, iff_self, t2, t4, t11, d17, h3', List.getD_cons_zero, List.getD_cons_succ, List.length_cons, List.length_nil]
      · have h3' : (q3.2.2 = 0) = False := eq_false h3
        rw [if_neg h3] at hdo
        subst hdo
        push_cast -implicitDefEqProofs [eq_self, iff_self, t2, t4, t11, d17, h3', List.getD_cons_zero, List.getD_cons_succ, List.length_cons, List.length_nil]
        refine callq (OwnG_q m hm) ?_
        push_cast -implicitDefEqProofs [eq_self, iff_self, t4, d17, h3', List.getD_cons_zero, List.getD_cons_succ, List.length_cons, List.length_nil]
def fMove : Field := { name := "Move", type := 4, offset := 0, embedded := false, tag := "", pkgPath := "", byteOffset := 0 }
def fE : Field := { name := "E", type := 3, offset := 1, embedded := false, tag := "", pkgPath := "", byteOffset := 8 }
def fF : Field := { name := "F", type := 3, offset := 2, embedded := false, tag := "", pkgPath := "", byteOffset := 16 }
theorem und_job : Go.Proofs.Try.prog.underlying 41 = some (.struct #[fMove, fE, fF]) := by kernel_rfl
theorem cmpJ (a a' : Bool) (b c b' c' : Int) : CmpAt Go.Proofs.Try.prog 41 [.bool a, .int .i64 b, .int .i64 c] [.bool a', .int .i64 b', .int .i64 c'] (a == a' && (decide (b = b') && (decide (c = c') && true))) :=
  cmp_f3 und_job (by kernel_rfl) (by kernel_rfl) (by decide) (by decide) (by decide)
    (fun _ _ _ w => run_part (t := 4) (n := 1) (by kernel_rfl) rfl) (fun _ _ _ w => run_part (t := 3) (n := 1) (by kernel_rfl) rfl) (fun _ _ _ w => run_part (t := 3) (n := 1) (by kernel_rfl) rfl)
    (eqIn_bool (u := 4) (by kernel_rfl) _ _) (eqIn_int (u := 3) (by kernel_rfl) _ _) (eqIn_int (u := 3) (by kernel_rfl) _ _)
theorem jobs0_len {m : Mm} (hN : m.N.length ≤ 400) : m.jobs0.length ≤ 400 * 401 := by
  rw [jobs0_up]
  exact Nat.le_trans (jobsUp_len m _) (Nat.mul_le_mul hN (by omega))
end
section
attribute [local push_cast] encIs_pure encNs_pure encJs_pure encN_eq encM_eq encJ_eq plus_obj0 plus_set0 piL_is00 piL_is0 piL_isk encIs_one encNs_four encJs_three
def CbJ (fn : FuncId) (caps : List AV) (p : Jb → Bool) (Hs : AH → Prop) : Prop := ∀ (x : Jb) (H : AH), Hs H → ACalls Go.Proofs.Try.prog fn (.agg (encJ x) :: caps) H (fun r H' => r = .bool (p x) ∧ H' = H)
theorem IndexJR_ok {p : Jb → Bool} {fn : FuncId} {caps : List AV} {Hs : AH → Prop} (l : List Jb) (hl : l.length ≤ 1000000) (k : Nat) (H : AH) (hk : H.obj k = some (.cells 3 (l.map encJ) 0)) (hkn : k < H.nxt) (hcs : ScopedL H.nxt caps) (hf : CbJ fn caps p Hs) (hH : Hs H) (hHp : ∀ H l, Hs H → Hs (H.plus l)) :
    ACalls Go.Proofs.Try.prog 115 [.rsl k 3 0 l.length, .clo (.func fn) [] caps] H (fun r H' => r = .int (idxP p l) ∧ H' = H) := by
  refine acalls_sc (rs := #[.tmp 4]) Go.Proofs.Try.func115 rfl rfl rfl mixed rfl (Nat.le_of_ble_eq_true rfl) fun hs _ => ?_
  push_cast -implicitDefEqProofs [eq_self, iff_self]
  have hlow : ∀ m, (H.plus m).obj k = some (.cells 3 (l.map encJ) 0) := fun m => by rw [plus_low H m hkn, hk]
  refine loop_at hs (σ := Nat) (fun i => i ≤ l.length ∧ ∀ k, k < i → (l[k]?.map p).getD false = false) (fun i => l.length - i)
    (fun i => [(8, .int i), (7, .int l.length), (1, .clo (.func fn) [] caps), (0, .rsl k 3 0 l.length)]) (fun i => []) [] 0 ⟨by omega, fun k hk => by omega⟩ rfl ?_ ?_ ?_
  · (try push_cast -implicitDefEqProofs [eq_self, iff_self])
    exact ⟨sealL_low (n := H.nxt) (fun i h => piL_low h) (by rw [plus_nxt]; exact Nat.le_add_right _ _) caps hcs, piL_low hkn, by omega⟩
  · (try push_cast -implicitDefEqProofs [eq_self, iff_self])
  rintro i ⟨hi2, hall⟩
  by_cases hi : i < l.length
  · have hi' : ((i : Int) < (l.length : Int)) = True := by simp; omega
    have hi0 : (0 ≤ (i : Int)) = True := by simp
    have hget : (l.map encJ).getD i [] = encJ l[i] := by rw [List.getD_eq_getElem?_getD, List.getElem?_map, List.getElem?_eq_getElem hi]; rfl
    have hsome : l[i]? = some l[i] := List.getElem?_eq_getElem hi
    generalize l[i] = x at hget hsome
    push_cast -implicitDefEqProofs [eq_self, iff_self, hi', hi0, hget, hlow]
    refine ⟨by omega, ?_⟩
    refine (hf x _ (hHp _ _ hH)).mono ?_
    rintro r H' ⟨rfl, rfl⟩
    cases hp : p x with
    | true =>
      rw [idxP_hit hsome hp hall]
      push_cast -implicitDefEqProofs [eq_self, iff_self, hi', hi0]
      exact retk trivial ⟨rfl, plus_nil hs⟩
    | false =>
      push_cast -implicitDefEqProofs [eq_self, iff_self, hi', hi0]
      rw [wrap64 (by omega) (by omega)]
      refine next_at [] (i + 1) ⟨by omega, fun k hk => ?_⟩ (by omega) rfl ?_ ?_
      · rcases Nat.lt_succ_iff_lt_or_eq.1 hk with h1 | h1
        · exact hall k h1
        · subst h1; rw [hsome]; exact hp
      · (try push_cast -implicitDefEqProofs [eq_self, iff_self])
        exact ⟨sealL_low (n := H.nxt) (fun i h => piL_low h) (by rw [plus_nxt]; exact Nat.le_add_right _ _) caps hcs, piL_low hkn, by omega⟩
      · (try push_cast -implicitDefEqProofs [eq_self, iff_self])
  · have hi' : ((i : Int) < (l.length : Int)) = False := by simp; omega
    obtain rfl : i = l.length := by omega
    rw [idxP_none hall]
    push_cast -implicitDefEqProofs [eq_self, iff_self, hi']
    exact retk trivial ⟨rfl, plus_nil hs⟩
structure DlS where
  i : Nat
  j : Nat
  r : List Jb
theorem take_one {l : List Jb} {j : Nat} (h : j < l.length) : l.take (j + 1) = l.take j ++ [l.getD j jb0] := by
  rw [List.take_add_one, List.getElem?_eq_getElem h, List.getD_eq_getElem?_getD, List.getElem?_eq_getElem h]; rfl
def dlInv (p : Jb → Bool) (l : List Jb) (s : DlS) : Prop := s.r.length = l.length ∧ s.j ≤ l.length ∧ s.i < s.j ∧ s.r.take s.i = (l.take s.j).filter (fun x => !p x) ∧ s.i ≤ s.j ∧ s.r.drop s.j = l.drop s.j
theorem dl_next {p : Jb → Bool} {l : List Jb} {s : DlS} (h : dlInv p l s) (hj : s.j < l.length) : s.r.getD s.j jb0 = l.getD s.j jb0 ∧
    (p (l.getD s.j jb0) = true → dlInv p l ⟨s.i, s.j + 1, s.r⟩) ∧ (p (l.getD s.j jb0) = false → dlInv p l ⟨s.i + 1, s.j + 1, s.r.set s.i (l.getD s.j jb0)⟩) := by
  obtain ⟨h1, h2, h3, h4, h5, h6⟩ := h
  have hd : s.r.getD s.j jb0 = l.getD s.j jb0 := by
    have e1 : (s.r.drop s.j)[0]? = (l.drop s.j)[0]? := by rw [h6]
    rw [List.getElem?_drop, List.getElem?_drop, Nat.add_zero] at e1
    rw [List.getD_eq_getElem?_getD, List.getD_eq_getElem?_getD, e1]
  have hdr : s.r.drop (s.j + 1) = l.drop (s.j + 1) := by
    have e1 := congrArg (List.drop 1) h6
    rw [List.drop_drop, List.drop_drop] at e1
    exact e1
  have ht := take_one hj
  refine ⟨hd, fun hp => ⟨h1, by dsimp only; omega, by dsimp only; omega, ?_, by dsimp only; omega, hdr⟩, fun hp => ⟨by dsimp only; rw [List.length_set]; exact h1, by dsimp only; omega, by dsimp only; omega, ?_, by dsimp only; omega, ?_⟩⟩
  · dsimp only
    rw [ht, List.filter_append, h4, List.filter_cons, hp]
    simp
  · dsimp only
    rw [ht, List.filter_append, ← h4, List.filter_cons, hp]
    rw [List.take_add_one, List.take_set_of_le (Nat.le_refl _), List.getElem?_set_self (by omega)]
    simp
  · dsimp only
    rw [List.drop_set_of_lt (by omega)]
    exact hdr
theorem idxP_cases {α : Type} (p : α → Bool) (l : List α) : (idxP p l = -1 ∧ ∀ x ∈ l, p x = false) ∨ ∃ i : Nat, idxP p l = i ∧ ∃ x, l[i]? = some x ∧ p x = true ∧ ∀ k y, k < i → l[k]? = some y → p y = false := by
  unfold idxP
  split
  · rename_i i h
    obtain ⟨h1, h2, h3⟩ := List.find?_range_eq_some.1 h
    have hlt := List.mem_range.1 h2
    refine .inr ⟨i, rfl, l[i], List.getElem?_eq_getElem hlt, ?_, fun k y hk hy => ?_⟩
    · rw [List.getElem?_eq_getElem hlt] at h1
      simpa using h1
    · have := h3 k hk
      rw [hy] at this
      simpa using this
  · rename_i h
    rw [List.find?_eq_none] at h
    refine .inl ⟨rfl, fun x hx => ?_⟩
    obtain ⟨i, hi, rfl⟩ := List.getElem_of_mem hx
    have := h i (List.mem_range.2 hi)
    rw [List.getElem?_eq_getElem hi] at this
    simpa using this
theorem filter_all {α : Type} {p : α → Bool} {l : List α} (h : ∀ x ∈ l, p x = false) : l.filter (fun x => !p x) = l := by
  rw [List.filter_eq_self]
  intro x hx
  rw [h x hx]; rfl
theorem dl_first {p : Jb → Bool} {l : List Jb} {i : Nat} {x : Jb} (hx : l[i]? = some x) (hp : p x = true) (h : ∀ k y, k < i → l[k]? = some y → p y = false) : dlInv p l ⟨i, i + 1, l⟩ := by
  have hlt : i < l.length := (List.getElem?_eq_some_iff.1 hx).1
  refine ⟨rfl, by dsimp only; omega, by dsimp only; omega, ?_, by dsimp only; omega, rfl⟩
  dsimp only
  have hg : l.getD i jb0 = x := by rw [List.getD_eq_getElem?_getD, hx]; rfl
  rw [take_one hlt, hg, List.filter_append, List.filter_cons, hp, filter_all]
  · simp
  · intro y hy
    obtain ⟨k, hk, rfl⟩ := List.getElem_of_mem hy
    rw [List.length_take] at hk
    refine h k _ (by omega) ?_
    rw [List.getElem_take]
    exact List.getElem?_eq_getElem (by omega)
def keptRows (p : Jb → Bool) (l : List Jb) : List (List AV) := (l.filter fun x => !p x).map encJ ++ List.replicate (l.length - (l.filter fun x => !p x).length) (encJ jb0)
theorem scoped_rows (n : Nat) (l : List Jb) : ScopedO n (.cells 3 (l.map encJ) 0) := ⟨scopedLL_pure n _ (encJs_pure l), of_eq_true (encJs_three l), Nat.zero_le _⟩
set_option maxHeartbeats 4000000 in
theorem DeleteJ_ok {p : Jb → Bool} {fn : FuncId} {caps : List AV} {Hs : AH → Prop} (l : List Jb) (hl : l.length ≤ 1000000) (k : Nat) (H : AH) (hk : H.obj k = some (.cells 3 (l.map encJ) 0)) (hkn : k < H.nxt) (hcs : ScopedL H.nxt caps) (hf : CbJ fn caps p Hs) (hH : Hs H) (hHp : ∀ H l, Hs H → Hs (H.plus l)) (hHk : ∀ H o, Hs H → Hs (H.set k o)) :
    ACalls Go.Proofs.Try.prog 87 [.rsl k 3 0 l.length, .clo (.func fn) [] caps] H (fun r H' => r = .rsl k 3 0 (l.filter fun x => !p x).length ∧ H' = H.set k (.cells 3 (keptRows p l) 0)) := by
  refine acalls_sc (rs := #[.tmp 4]) Go.Proofs.Try.func87 rfl rfl rfl mixed rfl (Nat.le_of_ble_eq_true rfl) fun hs _ => ?_
  push_cast -implicitDefEqProofs [eq_self, iff_self]
  have hpl := plus_nil hs
  have hidx := IndexJR_ok (p := p) (fn := fn) (caps := caps) (Hs := Hs) l hl k H hk hkn hcs hf hH hHp
  rw [← hpl] at hidx
  refine hidx.mono ?_
  rintro r H' ⟨rfl, rfl⟩
  rcases idxP_cases p l with ⟨hi, hall⟩ | ⟨i, hi, x, hx, hp, hbef⟩
  · rw [hi]
    push_cast -implicitDefEqProofs [eq_self, iff_self, Int.reduceNeg]
    refine retk trivial ⟨by rw [filter_all hall], ?_⟩
    rw [hpl, keptRows, filter_all hall, Nat.sub_self, List.replicate_zero, List.append_nil, set_as hk]
  · rw [hi]
    have hne : ((i : Int) = -1) = False := eq_false (by omega)
    have hlt : i < l.length := (List.getElem?_eq_some_iff.1 hx).1
    push_cast -implicitDefEqProofs [eq_self, iff_self, hne]
    rw [wrap64 (by omega) (by omega)]
    refine loop_base (fun s : DlS => H.set k (.cells 3 (s.r.map encJ) 0)) (dlInv p l) (fun s => l.length - s.j)
      (fun s => [(6, .int s.j), (5, .int s.i), (1, .clo (.func fn) [] caps), (0, .rsl k 3 0 l.length)]) (fun s => []) [] ⟨i, i + 1, l⟩ (fun s hs' => ⟨hsc_set hs hkn (scoped_rows _ _), rfl⟩) (l := []) ?_ (dl_first hx hp hbef) rfl ?_ ?_ ?_
    · dsimp only; rw [set_as hk]
    · dsimp only
      rw [set_as hk]
      (try push_cast -implicitDefEqProofs [eq_self, iff_self])
      exact ⟨sealL_low (n := H.nxt) (fun i h => piL_low h) (by rw [plus_nxt]; exact Nat.le_add_right _ _) caps hcs, piL_low hkn, by omega⟩
    · (try push_cast -implicitDefEqProofs [eq_self, iff_self])
    rintro ⟨i, j, r⟩ hinv
    dsimp only
    have hD0 : ∃ D, D = H.set k (.cells 3 (r.map encJ) 0) := ⟨_, rfl⟩
    obtain ⟨D, hD⟩ := hD0
    have hDn : D.nxt = H.nxt := by rw [hD]; rfl
    have hDk : ∀ m, (D.plus m).obj k = some (.cells 3 (r.map encJ) 0) := fun m => by rw [plus_low D m (by rw [hDn]; exact hkn), hD, set_at]
    have hDs : ∀ m o, (D.plus m).set k o = (D.set k o).plus m := fun m o => plus_setlow D m (by rw [hDn]; exact hkn) o
    have hDD : ∀ o, D.set k o = H.set k o := fun o => by rw [hD, set_twice]
    have hDH : Hs D := by rw [hD]; exact hHk _ _ hH
    rw [← hD, ← hDn]
    have hin := hinv
    obtain ⟨k1, k2, k3, k4, k5, k6⟩ := hinv
    dsimp only at k1 k2 k3 k4 k5 k6
    have hcd : ∀ m m', SealL (piL D.nxt []) (D.plus m) (D.plus m') caps caps ∧ piL D.nxt [] k = some k ∧ k < (D.plus m').nxt := fun m m' =>
      ⟨sealL_low (n := D.nxt) (fun i h => piL_low h) (by rw [plus_nxt]; exact Nat.le_add_right _ _) caps (by rw [hDn]; exact hcs), piL_low (by rw [hDn]; exact hkn), by rw [plus_nxt, hDn]; omega⟩
    by_cases hj : j < l.length
    · obtain ⟨g1, g2, g3⟩ := dl_next hin hj
      dsimp only at g1 g2 g3
      have hj' : ((j : Int) < (l.length : Int)) = True := inb_true hj
      have hj0 : (0 ≤ (j : Int)) = True := by simp
      have hget := encJ_get r j (by omega)
      rw [g1] at hget
      generalize l.getD j jb0 = x at hget g2 g3
      push_cast -implicitDefEqProofs [eq_self, iff_self, hj', hj0, hget, hDk]
      refine ⟨by omega, ?_⟩
      refine (hf x _ (hHp _ _ hDH)).mono ?_
      rintro r' H' ⟨rfl, rfl⟩
      cases hp : p x with
      | true =>
        push_cast -implicitDefEqProofs [eq_self, iff_self]
        rw [wrap64 (by omega) (by omega)]
        refine nextb_at [] ⟨i, j + 1, r⟩ _ (by dsimp only; rw [← hD]) (g2 hp) (by dsimp only; omega) rfl ?_ ?_
        · dsimp only
          rw [← hD]
          (try push_cast -implicitDefEqProofs [eq_self, iff_self])
          exact hcd _ _
        · (try push_cast -implicitDefEqProofs [eq_self, iff_self])
      | false =>
        push_cast -implicitDefEqProofs [eq_self, iff_self, hDk]
        rw [wrap64 (by omega) (by omega), wrap64 (by omega) (by omega)]
        refine ⟨by omega, by omega, nextb_at [] ⟨i + 1, j + 1, r.set i x⟩ _ (by dsimp only; rw [hDs, hDD, List.map_set, encJ_get r i (by omega)]; rfl) (g3 hp) (by dsimp only; omega) rfl ?_ ?_⟩
        · dsimp only
          rw [← hDD]
          (try push_cast -implicitDefEqProofs [eq_self, iff_self])
          refine ⟨?_, (piL_low (by show k < D.nxt; rw [hDn]; exact hkn)), by show k < D.nxt + 0; omega⟩
          exact sealL_low (n := D.nxt) (fun i h => piL_low h) (by rw [plus_nxt]; exact Nat.le_add_right _ _) caps (by rw [hDn]; exact hcs)
        · (try push_cast -implicitDefEqProofs [eq_self, iff_self])
    · have hj' : ((j : Int) < (l.length : Int)) = False := by simp; omega
      obtain rfl : j = l.length := by omega
      have hki : i = (l.filter fun x => !p x).length := by
        have := congrArg List.length k4
        rw [List.length_take, List.take_of_length_le (Nat.le_refl _)] at this
        omega
      have hrows : List.take i (r.map encJ) ++ List.replicate (l.length - i) [AV.lit (.bool false), .lit (.int .i64 0), .lit (.int .i64 0)] = keptRows p l := by
        rw [keptRows, ← hki, ← List.map_take, k4, List.take_of_length_le (Nat.le_refl _)]; rfl
      push_cast -implicitDefEqProofs [eq_self, iff_self, hj', hDk, hrows]
      refine ⟨by omega, by omega, by omega, ?_⟩
      rw [hDs, hDD]
      refine retk trivial ⟨by rw [hki, Nat.sub_zero], ?_⟩
      rw [plus_nil]
      refine hsc_set hs hkn ⟨?_, ?_, Nat.zero_le _⟩
      · rw [keptRows]
        exact scopedLL_pure _ _ (pureLL_iff.2 fun e he => by
          rcases List.mem_append.1 he with h | h
          · exact pureLL_iff.1 (encJs_pure _) e h
          · rw [(List.mem_replicate.1 h).2]; simp [encJ, PureL, Pure])
      · rw [keptRows]
        intro e he
        rcases List.mem_append.1 he with h | h
        · exact of_eq_true (encJs_three _) e h
        · rw [(List.mem_replicate.1 h).2]; rfl
end
section
attribute [local push_cast] encIs_pure encNs_pure encJs_pure encN_eq encM_eq encJ_eq plus_obj0 plus_set0 piL_is00 piL_is0 piL_isk encIs_one encNs_four encJs_three
def keyJ (n : Jb) : Value := .agg #[.bool n.mv, .int .i64 n.e, .int .i64 n.f]
theorem keyJ_of (n : Jb) : Value.agg [Value.bool n.mv, .int .i64 n.e, .int .i64 n.f].toArray = keyJ n := rfl
theorem sameV_J (x y : Jb) : sameV (keyJ x) (keyJ y) = eqJ x y := by
  simp only [keyJ, sameV, sameVs, same1, eqJ, decide_true, Bool.true_and]
theorem findAtJ (n : Jb) (l : List Jb) : FindAt Go.Proofs.Try.prog 41 (keyJ n) (l.map keyJ) := by
  refine findAt_ask (by kernel_rfl) (fun w em => ?_) (fun v hv w => ?_) (fun v hv h => ?_) (by simp [keyJ, Instr.sameBits])
  · exact key_f3 und_job (by decide) (by decide) (by decide) (.inr (by kernel_rfl)) (.inl (by kernel_rfl)) (.inl (by kernel_rfl))
      (fun _ _ _ w => run_part (t := 4) (n := 1) (by kernel_rfl) rfl) (fun _ _ _ w => run_part (t := 3) (n := 1) (by kernel_rfl) rfl) (fun _ _ _ w => run_part (t := 3) (n := 1) (by kernel_rfl) rfl) _ _ _ w em
  · obtain ⟨y, _, rfl⟩ := List.mem_map.1 hv
    rw [sameV_J]
    exact (cmpJ n.mv y.mv n.e n.f y.e y.f w).1
  · obtain ⟨y, _, rfl⟩ := List.mem_map.1 hv
    rw [sameV_J] at h
    rw [eqJ_iff.1 h]
def doneKV (l : List Jb) : List (Value × AV) := l.map fun j => (keyJ j, AV.bool true)
theorem doneKV_keys (l : List Jb) : (doneKV l).map (·.1) = l.map keyJ := by rw [doneKV, List.map_map]; rfl
theorem doneKV_find (x : Jb) : ∀ l : List Jb, afind (keyJ x) (doneKV l) = if (l.any fun j => eqJ x j) = true then some (AV.bool true) else none
  | [] => rfl
  | j :: l => by
    rw [doneKV, List.map_cons, afind, sameV_J, List.any_cons]
    cases h : eqJ x j
    · rw [if_neg (by decide), Bool.false_or]; exact doneKV_find x l
    · rfl
theorem doneKV_pure (l : List Jb) : PureL ((doneKV l).map (·.2)) := by
  rw [pureL_iff]
  intro v hv
  simp only [doneKV, List.map_map, List.mem_map] at hv
  obtain ⟨j, _, rfl⟩ := hv
  trivial
theorem sealO_done (π : Nat → Option Nat) (H H' : AH) (l : List Jb) : SealO π H H' (.amap (doneKV l)) (.amap (doneKV l)) = True := eq_true ⟨_, rfl, rfl, sealL_pure _ _ _ (doneKV_pure l)⟩
def RunH (i d : Nat) (m : Mm) (done : List Jb) (picks : List Int) (H : AH) : Prop :=
  H.obj i = some (.cells 5 [[.sl (m.N.map encN), .sl (m.G.map encI), .sl (m.P.map encI), .mp d, .sl (picks.map encI)]] 0) ∧ H.obj d = some (.amap (doneKV done)) ∧ i < H.nxt ∧ d < H.nxt
theorem runH_plus {i d : Nat} {m : Mm} {done : List Jb} {picks : List Int} {H : AH} (h : RunH i d m done picks H) (l : List (Option AObj)) : RunH i d m done picks (H.plus l) := by
  obtain ⟨h1, h2, h3, h4⟩ := h
  exact ⟨by rw [plus_low H l h3]; exact h1, by rw [plus_low H l h4]; exact h2, by rw [plus_nxt]; omega, by rw [plus_nxt]; omega⟩
set_option maxHeartbeats 4000000 in
theorem Done_cb (i d : Nat) (m : Mm) (done : List Jb) (picks : List Int) : CbJ 88 [.iptr [.ptr i 5 0 0]] (fun x => done.any fun j => eqJ x j) (RunH i d m done picks) := by
  intro x H hR
  show ACalls _ _ _ H (fun r H' => r = .bool (done.any fun j => eqJ x j) ∧ H' = H)
  obtain ⟨h1, h2, h3, h4⟩ := hR
  refine acalls_sc (rs := #[.tmp 3]) Go.Proofs.Try.func88 rfl rfl rfl mixed rfl (Nat.le_of_ble_eq_true rfl) fun hs _ => ?_
  have hoi : ∀ m', (H.plus m').obj i = _ := fun m' => (plus_low H m' h3).trans h1
  have hod : ∀ m', (H.plus m').obj d = _ := fun m' => (plus_low H m' h4).trans h2
  have hfa := findAtJ x done
  have hfind := doneKV_find x done
  generalize (done.any fun j => eqJ x j) = b at hfind ⊢
  push_cast -implicitDefEqProofs [eq_self, iff_self]
  refine .inl (areg_ord (fun _ => H.plus [some (.cells 3 [encJ x] 0)]) (fun k => [AV.ptr i 5 0 0, AV.ptr i 5 0 0, AV.ptr i 5 0 3, AV.mp d, AV.agg (encJ x), AV.bool b, AV.bool b].getD k .any) (by kernel_rfl) (by kernel_rfl) ?_ ?_)
  · intro i0 o T D C ho hDi hdep hclo hT hC
    have hc : i0 = 0 ∨ i0 = 1 ∨ i0 = 2 ∨ i0 = 3 ∨ i0 = 4 ∨ i0 = 5 ∨ i0 = 6 := by
      have := (Array.getElem?_eq_some_iff.1 ho).1
      simp only [List.size_toArray, List.length_cons, List.length_nil] at this
      omega
    have t1 := hT.low 1 rfl
    have t2 := hT.low 2 rfl
    try dsimp only at hC ⊢
    rcases hc with rfl | rfl | rfl | rfl | rfl | rfl | rfl
    all_goals
      simp only [List.getElem?_toArray, List.getElem?_cons_zero, List.getElem?_cons_succ, Option.some.injEq] at ho
      subst ho
    · skip
      push_cast -implicitDefEqProofs [eq_self, iff_self, t1, t2, hoi, hod, List.getD_cons_zero, List.getD_cons_succ, List.length_cons, List.length_nil]
      exact hC
    · skip
      have d0 := hT.put 0 4 (hdep 0 rfl) rfl
      push_cast -implicitDefEqProofs [eq_self, iff_self, t1, t2, hoi, hod, d0, List.getD_cons_zero, List.getD_cons_succ, List.length_cons, List.length_nil]
      exact hC
    · skip
      have d1 := hT.put 1 5 (hdep 1 rfl) rfl
      push_cast -implicitDefEqProofs [eq_self, iff_self, t1, t2, hoi, hod, d1, List.getD_cons_zero, List.getD_cons_succ, List.length_cons, List.length_nil]
      exact hC
    · skip
      have d2 := hT.put 2 6 (hdep 2 rfl) rfl
      push_cast -implicitDefEqProofs [eq_self, iff_self, t1, t2, hoi, hod, d2, List.getD_cons_zero, List.getD_cons_succ, List.length_cons, List.length_nil]
      exact hC
    · skip
      push_cast -implicitDefEqProofs [eq_self, iff_self, t1, t2, hoi, hod, List.getD_cons_zero, List.getD_cons_succ, List.length_cons, List.length_nil]
      exact hC
    · skip
      have d3 := hT.put 3 7 (hdep 3 rfl) rfl
      have d4 := hT.put 4 8 (hdep 4 rfl) rfl
      push_cast -implicitDefEqProofs [eq_self, iff_self, t1, t2, hoi, hod, lits, keyJ_of, hfind, doneKV_keys, hfa, d3, d4, List.getD_cons_zero, List.getD_cons_succ, List.length_cons, List.length_nil]
      cases b <;> exact hC
    · skip
      have d5 := hT.put 5 9 (hdep 5 rfl) rfl
      push_cast -implicitDefEqProofs [eq_self, iff_self, t1, t2, hoi, hod, d5, List.getD_cons_zero, List.getD_cons_succ, List.length_cons, List.length_nil]
      exact hC
  · intro T D hD hT
    try dsimp only
    have d6 := hT.put 6 3 (hD 6 (by decide)) rfl
    push_cast -implicitDefEqProofs [eq_self, iff_self, d6, List.getD_cons_zero, List.getD_cons_succ, List.length_cons, List.length_nil]
    refine retp (l' := []) hs [] (.bool b) trivial ⟨rfl, plus_nil hs⟩ rfl ?_ ?_
    · (try push_cast -implicitDefEqProofs [eq_self, iff_self])
    · (try push_cast -implicitDefEqProofs [eq_self, iff_self])
end
end Go.Sim.Try
