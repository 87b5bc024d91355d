/- What the row rests on, part 6. Conditions: none. -/
import Derived.Test.YtagfconjgajlgaaM5
set_option linter.unusedSimpArgs false
set_option linter.unusedVariables false
set_option maxRecDepth 100000
namespace Go.Sim.Try
open Go Go.Sim
section
def mapN (φ : Nat → Nat) (n : Nd) : Nd := ⟨n.jn, n.occ, (φ n.a.toNat : Nat), (φ n.b.toNat : Nat)⟩
structure HomM (m w : Mm) (φ : Nat → Nat) : Prop where
  lt : ∀ g, g < m.P.length → φ g < w.P.length
  root : ∀ g g', g < m.P.length → g' < m.P.length → ro m g = ro m g' → ro w (φ g) = ro w (φ g')
  has : ∀ i, i < m.N.length → HasN w (mapN φ (nd m i)) (ro w (φ (gi m i)))
theorem ExtM.hom {m x : Mm} (hf : m.form = true) (h : ExtM m x) : HomM m x (fun g => g) where
  lt := fun g hg => Nat.lt_of_lt_of_le hg h.plen
  root := fun g g' hg hg' he => h.eqv hg hg' he
  has := fun i hi => by
    refine ⟨i, Nat.lt_of_lt_of_le hi h.nlen, ?_, by rw [h.grp i hi]⟩
    rw [h.node i hi]
    exact ⟨rfl, fun _ => rfl, fun _ => ⟨rfl, rfl⟩⟩
theorem HomM.made {m w : Mm} {φ : Nat → Nat} (hf : m.form = true) (h : HomM m w φ) : ∀ {d g : Nat} {t : Tr}, g < m.P.length → mkT m d (ro m g) t → mkT w d (ro w (φ g)) t
  | 0, _, _, _, hk => hk.elim
  | d + 1, g, t, hg, ⟨i, hi, h1, h2⟩ => by
    obtain ⟨k, hk, ⟨s1, s2, s3⟩, h4⟩ := h.has i hi
    refine ⟨k, hk, ?_, ?_⟩
    · exact h4.trans (h.root _ _ (gi_lt hf hi) hg h1)
    · unfold stepM at h2 ⊢
      have s1' : (w.N.getD k nd0).jn = (m.N.getD i nd0).jn := s1
      rw [s1']
      split
      · rename_i hj
        rw [if_pos hj] at h2
        obtain ⟨u, v, hu, hv, rfl, hm⟩ := h2
        obtain ⟨ha, hb⟩ := jn_lt hf hi hj
        obtain ⟨e1, e2⟩ := s3 (s1.trans hj)
        refine ⟨u, v, ?_, ?_, rfl, hm⟩
        · have := h.made hf ha hu
          have e : raM w k = ro w (φ (nd m i).a.toNat) := e1
          rw [e]; exact this
        · have := h.made hf hb hv
          have e : rbM w k = ro w (φ (nd m i).b.toNat) := e2
          rw [e]; exact this
      · rename_i hj
        rw [if_neg hj] at h2
        have : (w.N.getD k nd0).occ = (m.N.getD i nd0).occ := s2 (by rw [s1]; exact Bool.eq_false_iff.2 hj)
        rw [h2, this]
theorem jn_two {A B r s : Nat} (h : jn A B r = jn A B s) : r = s ∨ ((r = A ∨ r = B) ∧ (s = A ∨ s = B)) := by
  unfold jn at h
  split at h <;> split at h <;> omega
theorem jn_same (A B : Nat) : jn A B A = jn A B B := by
  unfold jn
  split <;> split <;> omega
theorem joined_ext {m : Mm} (hf : m.form = true) {a b : Nat} (ha : a < m.P.length) (hb : b < m.P.length) : ExtM m (m.joined a b) ∧ ro (m.joined a b) a = ro (m.joined a b) b := by
  have hP := form_P hf
  refine ⟨⟨Nat.le_refl _, Nat.le_of_eq (joinS_length m.P a b).symm, fun _ _ => rfl, fun _ _ => rfl, fun g hg => ?_⟩, ?_⟩
  · show rootN (joinS m.P a b).1 (ro m g) = rootN (joinS m.P a b).1 g
    rw [rootN_join hP ha hb (ro_lt hf hg), rootN_join hP ha hb hg, show rootN m.P (ro m g) = rootN m.P g from ro_idem hf hg]
  · show rootN (joinS m.P a b).1 a = rootN (joinS m.P a b).1 b
    rw [rootN_join hP ha hb ha, rootN_join hP ha hb hb]
    exact jn_same _ _
theorem joined_hom {m w : Mm} {φ : Nat → Nat} (hf : m.form = true) {a b : Nat} (ha : a < m.P.length) (hb : b < m.P.length) (h : HomM m w φ) (he : ro w (φ a) = ro w (φ b)) : HomM (m.joined a b) w φ where
  lt := fun g hg => h.lt g (by rw [← joinS_length m.P a b]; exact hg)
  root := fun g g' hg hg' hr => by
    have hg : g < m.P.length := by rw [← joinS_length m.P a b]; exact hg
    have hg' : g' < m.P.length := by rw [← joinS_length m.P a b]; exact hg'
    have hP := form_P hf
    have hr' : rootN (joinS m.P a b).1 g = rootN (joinS m.P a b).1 g' := hr
    rw [rootN_join hP ha hb hg, rootN_join hP ha hb hg'] at hr'
    have key : ∀ x, x < m.P.length → (rootN m.P x = rootN m.P a ∨ rootN m.P x = rootN m.P b) → ro w (φ x) = ro w (φ a) := fun x hx h1 => by
      rcases h1 with h1 | h1
      · exact h.root x a hx ha h1
      · exact (h.root x b hx hb h1).trans he.symm
    rcases jn_two hr' with h1 | ⟨h1, h2⟩
    · exact h.root g g' hg hg' h1
    · exact (key g hg h1).trans (key g' hg' h2).symm
  has := h.has
theorem open_hom {m w : Mm} {φ : Nat → Nat} (hf : m.form = true) (hw : Closed w) (h : HomM m w φ) {i k : Nat} (hi : i < m.N.length) (hk : k < m.N.length) (hs : sameC m (nd m i) (nd m k)) : ro w (φ (gi m i)) = ro w (φ (gi m k)) := by
  refine HasN.only hw ((h.has i hi).congr ?_) (h.has k hk)
  refine ⟨hs.1, fun hj => hs.2.1 hj, fun hj => ?_⟩
  obtain ⟨a1, b1⟩ := jn_lt hf hi hj
  obtain ⟨a2, b2⟩ := jn_lt hf hk (hs.1.symm.trans hj)
  obtain ⟨e1, e2⟩ := hs.2.2 hj
  exact ⟨h.root _ _ a1 a2 e1, h.root _ _ b1 b2 e2⟩
theorem openM_at {m : Mm} (hf : m.form = true) {x : Int × Int} (h : m.openM = some x) : ∃ i k, i < m.N.length ∧ k < m.N.length ∧ sameC m (nd m i) (nd m k) ∧ x = (((gi m i : Nat) : Int), ((gi m k : Nat) : Int)) ∧ ro m (gi m i) ≠ ro m (gi m k) := by
  obtain ⟨i, hi, hb, _, rfl⟩ := openM_spec h
  obtain ⟨h1, h2⟩ := at1_same hf hi
  refine ⟨m.at1 i, i, h1, hi, h2, ?_, ?_⟩
  · have a1 := form_G hf hi
    have a2 := form_G hf h1
    unfold gi
    rw [Int.toNat_of_nonneg a1.1, Int.toNat_of_nonneg a2.1]
  · intro e
    rw [bad_cut, rg_ro hf h1, rg_ro hf hi, e] at hb
    simp at hb
theorem mergeF_spec : ∀ (f : Nat) (m : Mm) (a b : Nat), m.form = true → a < m.P.length → b < m.P.length → enough m a b f →
    (mergeF f m a b).form = true ∧ Closed (mergeF f m a b) ∧ ExtM m (mergeF f m a b) ∧ ro (mergeF f m a b) a = ro (mergeF f m a b) b ∧
    ∀ w φ, Closed w → HomM m w φ → ro w (φ a) = ro w (φ b) → HomM (mergeF f m a b) w φ := by
  intro f
  induction f with
  | zero =>
    intro m a b hf ha hb he
    obtain ⟨g, hg⟩ := enough_pos he
    omega
  | succ f ih =>
    intro m a b hf ha hb he
    have hjf := joined_form hf (a : Int) b
    have hjl : (m.joined a b).P.length = m.P.length := joinS_length m.P a b
    obtain ⟨hx, hab⟩ := joined_ext hf ha hb
    cases ho : (m.joined a b).openM with
    | none =>
      rw [mergeF_end ho]
      refine ⟨hjf, ((may_iff _).1 ?_).2, hx, hab, fun w φ hw h he => joined_hom hf ha hb h he⟩
      rw [may_def, hjf, ho]; rfl
    | some x =>
      rw [mergeF_more ho]
      obtain ⟨i, k, hi, hk, hs, rfl, hne⟩ := openM_at hjf ho
      have hen := enough_next hf he ho
      obtain ⟨h1, h2, h3, h4, h5⟩ := ih (m.joined a b) (gi (m.joined a b) i) (gi (m.joined a b) k) hjf (gi_lt hjf hi) (gi_lt hjf hk) hen
      refine ⟨h1, h2, hx.trans hf h3, ?_, fun w φ hw h he => ?_⟩
      · exact h3.eqv (by omega) (by omega) hab
      · have hj := joined_hom hf ha hb h he
        exact h5 w φ hw hj (open_hom hjf hw hj hi hk hs)
theorem look_has {m : Mm} (hm : m.may = true) {n : Nd} (hn : m.node n = true) : (∃ r : Nat, m.look n = ((r : Int), true) ∧ HasN m n r ∧ r < m.P.length ∧ ro m r = r) ∨ (m.look n = (-1, false) ∧ ∀ i, i < m.N.length → ¬ sameC m (nd m i) n) := by
  have hf := may_f hm
  rw [Mm.look, hm, hn]
  simp only [Bool.and_self, if_true]
  split
  · rename_i h
    have hG := form_G hf h
    have hg := gi_lt hf h
    refine .inl ⟨ro m (gi m _), ?_, ⟨_, h, ?_, rfl⟩, ro_lt hf hg, ro_idem hf hg⟩
    · rw [Mm.find, show (m.G.getD (idxN (canonR (rootsS m.P) n) m.cs) 0) = ((gi m (idxN (canonR (rootsS m.P) n) m.cs) : Nat) : Int) from (Int.toNat_of_nonneg hG.1).symm, findS_at (form_P hf) hg]
      rfl
    · refine (canon_eq hf (form_N hf h) hn).1 ?_
      rw [← cs_at h]
      exact idxN_at (by rw [cs_length]; exact h)
  · rename_i h
    refine .inr ⟨rfl, fun i hi hs => ?_⟩
    have h1 := (canon_eq hf (form_N hf hi) hn).2 hs
    rw [← cs_at hi] at h1
    exact idxN_first (c := canonR (rootsS m.P) n) (l := m.cs) (k := i) (by omega) h1
theorem getD_push {p : List Int} {v : Int} {i : Nat} (h : i < p.length) : (p ++ [v]).getD i 0 = p.getD i 0 := by
  rw [List.getD_eq_getElem?_getD, List.getD_eq_getElem?_getD, List.getElem?_append_left h]
theorem rootN_push {p : List Int} (h : mayS p = true) {v : Int} (h' : mayS (p ++ [v]) = true) : ∀ i, i < p.length → rootN (p ++ [v]) i = rootN p i := by
  intro i
  induction i using Nat.strongRecOn with
  | ind i ih =>
    intro hi
    have e := getD_push (v := v) hi
    by_cases hs : p.getD i 0 = i
    · rw [rootN_self hs, rootN_self (e.trans hs)]
    · have hb := (mayS_iff.1 h).1 i hi
      rw [rootN_up h hi hs, rootN_up h' (by simp; omega) (by rw [e]; exact hs), e]
      exact ih _ (by omega) (by omega)
structure PutOk (m : Mm) (n : Nd) (g : Int) (x : Mm) (k : Nat) : Prop where
  may : x.may = true
  ext : ExtM m x
  lt : k < x.P.length
  self : ro x k = k
  has : HasN x n k
  grp : g ≠ -1 → k = ro x g.toNat
  nlen : x.N.length ≤ m.N.length + 1
  plen : x.P.length ≤ m.P.length + 1
  pn : x.P.length + m.N.length ≤ m.P.length + x.N.length
  least : ∀ w φ r, Closed w → HomM m w φ → r < w.P.length → HasN w (mapN φ n) (ro w r) → (g ≠ -1 → ro w r = ro w (φ g.toNat)) → ∃ φ', (∀ h, h < m.P.length → φ' h = φ h) ∧ HomM x w φ' ∧ ro w (φ' k) = ro w r
theorem nd_push {m : Mm} {n : Nd} {G P : List Int} {i : Nat} (hi : i < m.N.length) : nd ⟨m.N ++ [n], G, P⟩ i = nd m i := by
  show (m.N ++ [n]).getD i nd0 = m.N.getD i nd0
  rw [List.getD_eq_getElem?_getD, List.getD_eq_getElem?_getD, List.getElem?_append_left hi]
theorem nd_last {m : Mm} {n : Nd} {G P : List Int} : nd ⟨m.N ++ [n], G, P⟩ m.N.length = n := by
  show (m.N ++ [n]).getD m.N.length nd0 = n
  simp [List.getD_eq_getElem?_getD]
theorem gi_push {m : Mm} {n : Nd} {g : Int} {P : List Int} (hl : m.G.length = m.N.length) {i : Nat} (hi : i < m.N.length) : gi ⟨m.N ++ [n], m.G ++ [g], P⟩ i = gi m i := by
  show ((m.G ++ [g]).getD i 0).toNat = (m.G.getD i 0).toNat
  rw [getD_push (by omega)]
theorem gi_last {m : Mm} {n : Nd} {g : Int} {P : List Int} (hl : m.G.length = m.N.length) : gi ⟨m.N ++ [n], m.G ++ [g], P⟩ m.N.length = g.toNat := by
  show ((m.G ++ [g]).getD m.N.length 0).toNat = g.toNat
  rw [← hl]
  simp [List.getD_eq_getElem?_getD]
theorem push_ok {m : Mm} (hm : m.may = true) {n : Nd} (hn : m.node n = true) (hN : m.N.length ≠ 400) (hno : ∀ i, i < m.N.length → ¬ sameC m (nd m i) n) {P : List Int} {k : Nat} (hP : mayS P = true) (hl : m.P.length ≤ P.length) (hl1 : P.length ≤ m.P.length + 1)
    (hr : ∀ i, i < m.P.length → rootN P i = rootN m.P i) (hk : k < P.length) (hnew : P.length = m.P.length + 1 → rootN P m.P.length = m.P.length) (g : Int) (hg : g = -1 ∧ P.length = m.P.length + 1 ∧ k = m.P.length ∨ g = k ∧ P.length = m.P.length) :
    PutOk m n g ⟨m.N ++ [n], m.G ++ [(k : Int)], P⟩ (rootN P k) := by
  have hf := may_f hm
  have hcl := ((may_iff m).1 hm).2
  have hGl := ((form_iff m).1 hf).2.1
  have hxf : (Mm.mk (m.N ++ [n]) (m.G ++ [(k : Int)]) P).form = true := push_form hf hN hn hP hl ⟨by omega, by omega⟩
  generalize hx : Mm.mk (m.N ++ [n]) (m.G ++ [(k : Int)]) P = x at hxf
  have hxP : x.P = P := by rw [← hx]
  have hxN : x.N.length = m.N.length + 1 := by rw [← hx]; simp
  have hnd : ∀ i, i < m.N.length → nd x i = nd m i := fun i hi => by rw [← hx]; exact nd_push hi
  have hgi : ∀ i, i < m.N.length → gi x i = gi m i := fun i hi => by rw [← hx]; exact gi_push hGl hi
  have hnl : nd x m.N.length = n := by rw [← hx]; exact nd_last
  have hgl : gi x m.N.length = k := by rw [← hx]; rw [gi_last hGl]; simp
  have hro : ∀ i, i < m.P.length → ro x i = ro m i := fun i hi => by show rootN x.P i = _; rw [hxP]; exact hr i hi
  have hsame : ∀ y z : Nd, m.node y = true → m.node z = true → (sameC x y z ↔ sameC m y z) := fun y z hy hz => by
    unfold sameC
    refine and_congr_right fun hj => and_congr_right fun _ => ?_
    refine forall_congr' fun hy1 => ?_
    obtain ⟨_, a1, b1⟩ := node_join hy hy1
    obtain ⟨_, a2, b2⟩ := node_join hz (hj.symm.trans hy1)
    rw [hro _ (by omega), hro _ (by omega), hro _ (by omega), hro _ (by omega)]
  have hext : ExtM m x := {
    nlen := by omega
    plen := by rw [hxP]; exact hl
    node := hnd
    grp := hgi
    root := fun g hg => by rw [hro _ (ro_lt hf hg), hro _ hg, ro_idem hf hg] }
  refine ⟨(may_iff x).2 ⟨hxf, fun i j hi hj hs => ?_⟩, hext, ?_, ?_, ?_, ?_, by omega, by rw [hxP]; exact hl1, by rw [hxP]; omega, ?_⟩
  · rw [hxN] at hi hj
    rcases Nat.lt_succ_iff_lt_or_eq.1 hi with h1 | rfl <;> rcases Nat.lt_succ_iff_lt_or_eq.1 hj with h2 | rfl
    · rw [hnd i h1, hnd j h2, hsame _ _ (form_N hf h1) (form_N hf h2)] at hs
      rw [hgi i h1, hgi j h2, hro _ (gi_lt hf h1), hro _ (gi_lt hf h2)]
      exact hcl i j h1 h2 hs
    · rw [hnd i h1, hnl, hsame _ _ (form_N hf h1) hn] at hs
      exact absurd hs (hno i h1)
    · rw [hnd j h2, hnl, hsame _ _ hn (form_N hf h2)] at hs
      exact absurd hs.symm (hno j h2)
    · rfl
  · rw [hxP]; exact Nat.lt_of_le_of_lt (rootN_le hP hk) hk
  · show rootN x.P _ = _; rw [hxP]; exact rootN_idem hP hk
  · refine ⟨m.N.length, by omega, by rw [hnl]; exact sameC.refl _ _, ?_⟩
    rw [hgl]
    show rootN x.P k = _
    rw [hxP]
  · intro hg1
    rcases hg with ⟨h, _⟩ | ⟨h, _⟩
    · exact absurd h hg1
    · rw [h]; show _ = rootN x.P _; rw [hxP]; rfl
  · intro w φ r hw h hrl hh hgr
    rcases hg with ⟨rfl, hpl, rfl⟩ | ⟨rfl, hpl⟩
    · refine ⟨fun g => if g = m.P.length then r else φ g, fun g hg => if_neg (by omega), ?_, ?_⟩
      · have hφ : ∀ g, g < m.P.length → (if g = m.P.length then r else φ g) = φ g := fun g hg => if_neg (by omega)
        have hrn : ro x m.P.length = m.P.length := by show rootN x.P _ = _; rw [hxP]; exact hnew hpl
        refine ⟨fun g hg => ?_, fun g g' hg hg' he => ?_, fun i hi => ?_⟩
        · split
          · exact hrl
          · exact h.lt g (by rw [hxP] at hg; omega)
        · rw [hxP] at hg hg'
          by_cases e1 : g = m.P.length <;> by_cases e2 : g' = m.P.length
          · rw [e1, e2]
          · have h2 : g' < m.P.length := by omega
            have := ro_lt hf h2
            rw [e1, hrn, hro g' h2] at he
            omega
          · have h1 : g < m.P.length := by omega
            have := ro_lt hf h1
            rw [e2, hrn, hro g h1] at he
            omega
          · have h1 : g < m.P.length := by omega
            have h2 : g' < m.P.length := by omega
            rw [hφ g h1, hφ g' h2]
            rw [hro g h1, hro g' h2] at he
            exact h.root g g' h1 h2 he
        · rw [hxN] at hi
          have hmap : ∀ y : Nd, m.node y = true → sameC w (mapN φ y) (mapN (fun g => if g = m.P.length then r else φ g) y) := fun y hy => by
            refine ⟨rfl, fun _ => rfl, fun hj => ?_⟩
            obtain ⟨_, a1, b1⟩ := node_join hy hj
            have e1 := hφ y.a.toNat (by omega)
            have e2 := hφ y.b.toNat (by omega)
            simp only [mapN, e1, e2, and_self]
          rcases Nat.lt_succ_iff_lt_or_eq.1 hi with h1 | rfl
          · rw [hnd i h1, hgi i h1]
            show HasN w _ (ro w (if gi m i = m.P.length then r else φ (gi m i)))
            rw [hφ _ (gi_lt hf h1)]
            exact (h.has i h1).congr (hmap _ (form_N hf h1))
          · rw [hnl, hgl]
            show HasN w _ (ro w (if m.P.length = m.P.length then r else φ m.P.length))
            rw [if_pos rfl]
            exact hh.congr (hmap _ hn)
      · show ro w (if rootN P m.P.length = m.P.length then r else _) = _
        rw [hnew hpl, if_pos rfl]
    · have hgk := hgr (by omega)
      rw [Int.toNat_natCast] at hgk
      refine ⟨φ, fun _ _ => rfl, ⟨fun g hg => h.lt g (by rw [hxP] at hg; omega), fun g g' hg hg' he => ?_, fun i hi => ?_⟩, ?_⟩
      · rw [hxP] at hg hg'
        rw [hro g (by omega), hro g' (by omega)] at he
        exact h.root g g' (by omega) (by omega) he
      · rw [hxN] at hi
        rcases Nat.lt_succ_iff_lt_or_eq.1 hi with h1 | rfl
        · rw [hnd i h1, hgi i h1]; exact h.has i h1
        · rw [hnl, hgl, ← hgk]; exact hh
      · rw [hgk, hr k (by omega)]
        exact h.root _ _ (by have := ro_lt hf (show k < m.P.length by omega); exact this) (by omega) (ro_idem hf (by omega))
theorem HomM.at_ {m w : Mm} {φ : Nat → Nat} (hf : m.form = true) (h : HomM m w φ) {n : Nd} (hn : m.node n = true) {r : Nat} (hh : HasN m n r) (hr : r < m.P.length) (hrr : ro m r = r) : HasN w (mapN φ n) (ro w (φ r)) := by
  obtain ⟨i, hi, hs, hri⟩ := hh
  have h1 : HasN w (mapN φ n) (ro w (φ (gi m i))) := (h.has i hi).congr ⟨hs.1, hs.2.1, fun hj => by
    obtain ⟨a1, b1⟩ := jn_lt hf hi hj
    obtain ⟨_, a2, b2⟩ := node_join hn (hs.1.symm.trans hj)
    obtain ⟨e1, e2⟩ := hs.2.2 hj
    exact ⟨h.root _ _ a1 (by omega) e1, h.root _ _ b1 (by omega) e2⟩⟩
  rw [h.root _ _ hr (gi_lt hf hi) (by rw [hri, hrr])]
  exact h1
theorem put_spec {m : Mm} (hm : m.may = true) {n : Nd} (hn : m.node n = true) {g : Int} (hg : g = -1 ∨ m.inG g = true) :
    ((m.put n g).2.2 = 3 ∧ (m.put n g).1 = m ∧ (m.N.length = 400 ∨ m.P.length = 400) ∧ ∀ i, i < m.N.length → ¬ sameC m (nd m i) n) ∨
    (∃ k : Nat, (m.put n g).2 = ((k : Int), 0) ∧ PutOk m n g (m.put n g).1 k ∧ ∀ r, HasN m n r → (g ≠ -1 → ro m g.toNat = r) → (m.put n g).1 = m ∧ k = r) := by
  have hf := may_f hm
  have hcl := ((may_iff m).1 hm).2
  have hP := form_P hf
  have hgn : g ≠ -1 → ∃ k : Nat, g = k ∧ k < m.P.length := fun h1 => by
    rcases hg with h | h
    · exact absurd h h1
    · rw [inG_cut, Bool.and_eq_true, decide_eq_true_eq, decide_eq_true_eq] at h
      exact ⟨g.toNat, by omega, by omega⟩
  have hc : (!(m.may && m.node n && (decide (g = -1) || m.inG g))) = false := by
    rw [hm, hn]
    rcases hg with h | h
    · rw [h]; rfl
    · rw [h]; simp
  rw [put_def, hc]
  simp only [Bool.false_eq_true, if_false]
  rcases look_has hm hn with ⟨r, hlk, hh, hr, hrr⟩ | ⟨hlk, hno⟩
  · rw [hlk]
    simp only [if_true]
    have hstay : ∀ hgr : (g ≠ -1 → ro m g.toNat = r), PutOk m n g m r := fun hgr => ⟨hm, ExtM.refl hf, hr, hrr, hh, fun h => (hgr h).symm, by omega, by omega, by omega, fun w φ r' hw h hrl hhw hgr' => ⟨φ, fun _ _ => rfl, h, HasN.only hw (h.at_ hf hn hh hr hrr) hhw⟩⟩
    split
    · rename_i h
      refine .inr ⟨r, rfl, hstay fun h1 => ?_, fun s hs _ => ⟨rfl, HasN.only hcl hh hs⟩⟩
      rcases h with h | h
      · exact absurd h h1
      · obtain ⟨k, rfl, hk⟩ := hgn h1
        rw [Mm.find, findS_at hP hk] at h
        rw [Int.toNat_natCast]
        exact_mod_cast h
    · rename_i h
      have h1 : g ≠ -1 := fun e => h (.inl e)
      obtain ⟨k, rfl, hk⟩ := hgn h1
      have hne : ro m k ≠ r := fun e => h (.inr (by rw [Mm.find, findS_at hP hk]; exact_mod_cast e))
      have hmg : m.merge (k : Int) (r : Int) = (mergeF (m.P.length + 1) m k r, (mergeF (m.P.length + 1) m k r).find k, 0) := by
        rw [Mm.merge, hm, if_pos]
        simp only [Bool.true_and, inG_cut, Bool.and_eq_true, decide_eq_true_eq]
        omega
      rw [hmg]
      obtain ⟨k1, k2, k3, k4, k5⟩ := mergeF_spec (m.P.length + 1) m k r hf hk hr (enough_first hP _ _)
      obtain ⟨l1, l2, l3⟩ := mergeF_keep (m.P.length + 1) m (k : Int) (r : Int)
      generalize mergeF (m.P.length + 1) m (k : Int) (r : Int) = x at k1 k2 k3 k4 k5 l1 l2 l3
      have hkx : k < x.P.length := by omega
      have hfd : x.find (k : Int) = (ro x k : Nat) := by rw [Mm.find, findS_at (form_P k1) hkx]; rfl
      refine .inr ⟨ro x k, by rw [hfd], ⟨(may_iff x).2 ⟨k1, k2⟩, k3, ro_lt k1 hkx, ro_idem k1 hkx, ?_, fun _ => by rw [Int.toNat_natCast], by rw [l1]; omega, by show x.P.length ≤ _; omega, by show x.P.length + _ ≤ _ + x.N.length; rw [l1]; omega, ?_⟩, ?_⟩
      · rw [k4]
        rw [← hrr] at hh
        exact k3.has hf hn hr hh
      · intro w φ r' hw h hrl hhw hgr'
        have hgk := hgr' h1
        rw [Int.toNat_natCast] at hgk
        have h4 := HasN.only hw (h.at_ hf hn hh hr hrr) hhw
        have h5 := k5 w φ hw h (by rw [← hgk, h4])
        refine ⟨φ, fun _ _ => rfl, h5, ?_⟩
        rw [hgk]
        exact h5.root _ _ (ro_lt k1 hkx) hkx (ro_idem k1 hkx)
      · intro s h2 h3
        have h4 := h3 h1
        rw [Int.toNat_natCast] at h4
        exact absurd (h4.trans (HasN.only hcl h2 hh)) hne
  · rw [hlk]
    simp only [Bool.false_eq_true, if_false]
    split
    · rename_i h
      exact .inl ⟨rfl, rfl, h.imp id fun h => h.2, hno⟩
    · rename_i h
      have hN : m.N.length ≠ 400 := fun e => h (.inl e)
      split
      · rename_i h1
        subst h1
        have hPl : m.P.length ≠ 400 := fun e => h (.inr ⟨rfl, e⟩)
        have hlt : m.P.length < 400 := by have := mayS_max hP; omega
        have hp2 := mayS_push hP hlt
        have hself : rootN (m.P ++ [(m.P.length : Int)]) m.P.length = m.P.length := rootN_self (by simp [List.getD_eq_getElem?_getD])
        have hfs : findS (m.P ++ [(m.P.length : Int)]) (m.P.length : Int) = (rootN (m.P ++ [(m.P.length : Int)]) m.P.length : Nat) := findS_at hp2 (by simp)
        refine .inr ⟨rootN (m.P ++ [(m.P.length : Int)]) m.P.length, by rw [hfs], push_ok hm hn hN hno hp2 (by simp) (by simp) (rootN_push hP hp2) (by simp) (fun _ => hself) (-1) (.inl ⟨rfl, by simp, rfl⟩), ?_⟩
        rintro s ⟨i, hi, hs, _⟩ _
        exact absurd hs (hno i hi)
      · rename_i h1
        obtain ⟨k, rfl, hk⟩ := hgn h1
        refine .inr ⟨rootN m.P k, by rw [Mm.find, findS_at hP hk], push_ok hm hn hN hno hP (Nat.le_refl _) (by omega) (fun _ _ => rfl) hk (fun h => by omega) k (.inr ⟨rfl, rfl⟩), ?_⟩
        rintro s ⟨i, hi, hs, _⟩ _
        exact absurd hs (hno i hi)
end
attribute [local push_cast] aops_cons aops_nil aopG_none aopG_some aopP_eq aopE_eq aopC_eq aopE?_eq aopC?_eq aopB_eq aopB?_eq aopN_eq aopN?_eq anxt anext amrange alast amapNil abr anilq gopP_eq gopL_eq ahead_cons ahead_nil ahdG_none ahdG_some ahdP_eq ahdN_eq ahdC_eq ahdN?_eq ahdS_eq ahdS?_eq astoreN ahdC?_eq ghdP_eq ghdC_eq ghdC?_eq ghdZ_f ghdZ_t ahdI_eq ahdI?_eq ghdN?_eq aim_nil aim_cons isIn_nil isIn_none isIn_cons aimm aheP_eq aheA_eq aheC_eq aheC?_eq aheI?_eq aheA?_eq gheP_eq gheC_eq gheC?_eq gheZ_eq aheG_none aheG_some aheff_cons aheff_nil aapp gro_rsl gro_lit gro_esl opt_some opt_none no_eq acondT_true acondT_false acondT_lit abytes bytesU aw_skip aw_region aw_regionD aw_seq aw_cond aw_block aw_loop aw_exit aw_label aw_ret thn_normal thn_exit thn_ret inb_normal inb_exit inb_ret qret_ret qret_normal gcond apure aeff anew acallee ares aresT aresL aresC ares1 qfin_eq ev ofV evL gokL tget tput_some tput_none initT abin aint aun aload afaddr aiaddr afield aindex aextract apick pickv_lit Bool.or_false Bool.false_or Bool.or_true Bool.true_or imp_self aslice chunk roomB abound aconv abuild afill splice alen aminmax abuiltin anil apart Value.oneCell' astore aappend srcEs abuildSlice amakeSlice amapPut aclear aentry aestore alookup aput afind mget keyV sameV_int Option.isSome_some Option.isSome_none cond_true cond_false asets isEq plus_obj plus_nxt plus_add plus_set plus_del IntKind.bits Option.map_some Option.map_none Option.bind_some Option.bind_none Option.join_some Option.getD_some Option.getD_none Option.toList List.getElem?_toArray List.getElem?_cons_zero List.getElem?_cons_succ List.getElem?_nil List.length_cons List.length_nil List.length_map List.head?_cons List.cons_append List.nil_append List.append_nil List.map_cons List.map_nil List.getD_cons_zero List.getD_cons_succ List.replicate_succ List.replicate_zero List.set_cons_zero List.set_cons_succ List.take_succ_cons List.take_zero List.drop_succ_cons List.drop_zero List.all_cons List.all_nil Nat.zero_add if_true if_false true_and and_true false_and and_false true_implies implies_true forall_const Bool.and_true Bool.true_and Bool.false_and Bool.and_false Bool.true_beq Bool.false_beq Bool.not_not beq_tt beq_ff Int.toNat_natCast decide_true decide_false Bool.not_true Bool.not_false Bool.true_eq_false Bool.false_eq_true false_implies exists_prop eq_self bne_self_eq_false beq_self_eq_true decide_eq_true_eq decide_eq_false_iff_not Bool.not_eq_true' Bool.not_eq_false' AV.int AV.bool AV.nilS ne_eq not_false_eq_true not_true_eq_false exists_eq_left exists_eq_left' Nat.lt_irrefl core_lit grd_lit acells_lit one_lit core_agg grd_agg acells_agg one_agg core_tup grd_tup acells_tup one_tup core_sl grd_sl acells_sl one_sl core_esl grd_esl acells_esl one_esl core_rsl grd_rsl acells_rsl one_rsl core_ptr grd_ptr acells_ptr one_ptr core_iptr grd_iptr acells_iptr one_iptr core_clo grd_clo acells_clo one_clo core_mp grd_mp acells_mp one_mp core_any grd_any acells_any one_any core_gv grd_gv fit_agg fit_lit fit_sl fit_esl fit_rsl fit_ptr fit_iptr fit_clo fit_mp retq_ret retq_normal set_nxt set_set plus_obj_set plus_set_set app_get0 app_get app_set0 app_set List.append_assoc List.length_append List.length_set Nat.lt_add_one Nat.add_lt_add_iff_right Nat.lt_add_right_iff_pos Nat.add_lt_add_iff_left List.mem_cons List.not_mem_nil or_false forall_eq forall_eq_or_imp lt_s0 lt_s1 lt_s2 lt_s3 lt_s4 lt_s5 lt_s6 lt_s7 lt_s8 pickv_t pickv_f or_nand or_nand2 imp_and_l SealT SealOs sealO_cells sl_lit sl_any sl_agg sl_tup sl_sl sl_rsl slO sl_esl sl_nil sl_eslesl sl_eslnil sl_rslrsl sl_eslrsl sl_nilrsl sl_ptr sl_iptr sl_ptri slP sl_clo sl_mp sl_gv sll_nil sll_cons slll_nil slll_cons shut_eq shutO Option.join_none Fn.func.injEq and_self sealL_self sealLL_self seal_self PureL PureLL Pure Nat.le_refl Nat.zero_le AV.lit.injEq Value.int.injEq Value.bool.injEq false_or or_true true_or Int.natCast_zero Int.ofNat_zero Int.cast_ofNat_Int Int.natCast_add Int.natCast_one Option.some.injEq piL_is sop_nil sop_cons sop_none sop_some sopO_some sop_new shut_pi shutL_nil shutL_cons exQ_exit exQ_ret exQ_normal Go.Sim.Try.ty_load1 Go.Sim.Try.ty_zero1 Go.Sim.Try.ty_load2 Go.Sim.Try.ty_zero2 Go.Sim.Try.ty_und2 Go.Sim.Try.ty_load3 Go.Sim.Try.ty_zero3 Go.Sim.Try.ty_und3 Go.Sim.Try.ty_load4 Go.Sim.Try.ty_zero4 Go.Sim.Try.ty_und4 Go.Sim.Try.ty_load5 Go.Sim.Try.ty_zero5 Go.Sim.Try.ty_und5 Go.Sim.Try.ty_load9 Go.Sim.Try.ty_zero9 Go.Sim.Try.ty_und9 Go.Sim.Try.ty_load21 Go.Sim.Try.ty_zero21 Go.Sim.Try.ty_und21 Go.Sim.Try.ty_load22 Go.Sim.Try.ty_zero22 Go.Sim.Try.ty_el22 Go.Sim.Try.ty_zeroE22 Go.Sim.Try.ty_load23 Go.Sim.Try.ty_zero23 Go.Sim.Try.ty_el23 Go.Sim.Try.ty_zeroE23 Go.Sim.Try.ty_load25 Go.Sim.Try.ty_zero25 Go.Sim.Try.ty_fld25_0 Go.Sim.Try.ty_part25_0 Go.Sim.Try.ty_fld25_1 Go.Sim.Try.ty_part25_1 Go.Sim.Try.ty_fld25_2 Go.Sim.Try.ty_part25_2 Go.Sim.Try.ty_struct25 Go.Sim.Try.ty_load29 Go.Sim.Try.ty_zero29 Go.Sim.Try.ty_el29 Go.Sim.Try.ty_zeroE29 Go.Sim.Try.ty_load34 Go.Sim.Try.ty_zero34 Go.Sim.Try.ty_und34 Go.Sim.Try.ty_load41 Go.Sim.Try.ty_zero41 Go.Sim.Try.ty_fld41_0 Go.Sim.Try.ty_part41_0 Go.Sim.Try.ty_fld41_1 Go.Sim.Try.ty_part41_1 Go.Sim.Try.ty_fld41_2 Go.Sim.Try.ty_part41_2 Go.Sim.Try.ty_struct41 Go.Sim.Try.ty_load47 Go.Sim.Try.ty_zero47 Go.Sim.Try.ty_el47 Go.Sim.Try.ty_zeroE47 Go.Sim.Try.ty_load55 Go.Sim.Try.ty_zero55 Go.Sim.Try.ty_fld55_0 Go.Sim.Try.ty_part55_0 Go.Sim.Try.ty_fld55_1 Go.Sim.Try.ty_part55_1 Go.Sim.Try.ty_fld55_2 Go.Sim.Try.ty_part55_2 Go.Sim.Try.ty_fld55_3 Go.Sim.Try.ty_part55_3 Go.Sim.Try.ty_struct55 Go.Sim.Try.ty_load56 Go.Sim.Try.ty_zero56 Go.Sim.Try.ty_load58 Go.Sim.Try.ty_zero58 Go.Sim.Try.ty_fld58_0 Go.Sim.Try.ty_part58_0 Go.Sim.Try.ty_fld58_1 Go.Sim.Try.ty_part58_1 Go.Sim.Try.ty_struct58 Go.Sim.Try.ty_load60 Go.Sim.Try.ty_zero60 Go.Sim.Try.ty_load67 Go.Sim.Try.ty_zero67 Go.Sim.Try.ty_el67 Go.Sim.Try.ty_zeroE67 Go.Sim.Try.ty_load68 Go.Sim.Try.ty_zero68 Go.Sim.Try.ty_und68 Go.Sim.Try.ty_vzero58 Go.Sim.Try.ty_load72 Go.Sim.Try.ty_zero72 Go.Sim.Try.ty_el72 Go.Sim.Try.ty_zeroE72 Go.Sim.Try.ty_load79 Go.Sim.Try.ty_zero79 Go.Sim.Try.ty_load80 Go.Sim.Try.ty_zero80 Go.Sim.Try.ty_und80 Go.Sim.Try.ty_vzero4 Go.Sim.Try.ty_load82 Go.Sim.Try.ty_zero82 Go.Sim.Try.ty_fld82_0 Go.Sim.Try.ty_part82_0 Go.Sim.Try.ty_fld82_1 Go.Sim.Try.ty_part82_1 Go.Sim.Try.ty_fld82_2 Go.Sim.Try.ty_part82_2 Go.Sim.Try.ty_struct82 Go.Sim.Try.ty_load86 Go.Sim.Try.ty_zero86 Go.Sim.Try.ty_und86 Go.Sim.Try.ty_vzero3 Go.Sim.Try.ty_load87 Go.Sim.Try.ty_zero87 Go.Sim.Try.ty_arr87 Go.Sim.Try.ty_part87_0 Go.Sim.Try.ty_part87_1 Go.Sim.Try.ty_struct87 Go.Sim.Try.ty_load98 Go.Sim.Try.ty_zero98 Go.Sim.Try.ty_und98 Go.Sim.Try.ty_load100 Go.Sim.Try.ty_zero100 Go.Sim.Try.ty_und100 Go.Sim.Try.ty_el100 Go.Sim.Try.ty_zeroE100 Go.Sim.Try.ty_load104 Go.Sim.Try.ty_zero104 Go.Sim.Try.ty_load109 Go.Sim.Try.ty_zero109 Go.Sim.Try.ty_load112 Go.Sim.Try.ty_zero112 Go.Sim.Try.ty_und112 Go.Sim.Try.ty_load119 Go.Sim.Try.ty_zero119 Go.Sim.Try.ty_und119 Go.Sim.Try.ty_load121 Go.Sim.Try.ty_zero121 Go.Sim.Try.ty_und121 Go.Sim.Try.ty_load129 Go.Sim.Try.ty_zero129 Go.Sim.Try.ty_und129 Go.Sim.Try.ty_load133 Go.Sim.Try.ty_zero133
section
attribute [local push_cast] encIs_pure encNs_pure encN_eq encM_eq plus_obj0 plus_set0 piL_is00 piL_is0 piL_isk encIs_one encNs_four
theorem nodeR_ok (m : Mm) (n : Nd) : Quiet Go.Proofs.Try.prog 78 [encM m, .agg (encN n)] (.bool (m.node n)) := by
  refine quiet_of (rs := #[.tmp 4]) Go.Proofs.Try.func78 rfl rfl rfl mixed rfl rfl fun H hs => ?_
  obtain ⟨j, o, a, b⟩ := n
  cases j
  · have h0 : decide (o < 4) = decide (o ≤ 3) := decide_eq_decide.2 (by omega)
    have hv : m.node ⟨false, o, a, b⟩ = (decide (0 ≤ o) && decide (o ≤ 3) && decide (a = 0) && decide (b = 0)) := by
      rw [node_cut, if_neg Bool.false_ne_true, ← h0]
      simp only
      cases decide (0 ≤ o) <;> cases decide (o < 4) <;> cases decide (a = 0) <;> cases decide (b = 0) <;> rfl
    rw [hv]
    cases h1 : decide (0 ≤ o) with
    | false =>
      push_cast -implicitDefEqProofs [eq_self, iff_self, h1]
      repeat (refine gskip ?_; push_cast -implicitDefEqProofs [eq_self, iff_self, h1])
    | true =>
      cases h2 : decide (o ≤ 3) with
      | false =>
        push_cast -implicitDefEqProofs [eq_self, iff_self, h1, h2]
        repeat (refine gskip ?_; push_cast -implicitDefEqProofs [eq_self, iff_self, h1, h2])
      | true =>
        cases h3 : decide (a = 0) with
        | false =>
          push_cast -implicitDefEqProofs [eq_self, iff_self, h1, h2, h3]
          repeat (refine gskip ?_; push_cast -implicitDefEqProofs [eq_self, iff_self, h1, h2, h3])
        | true =>
          cases h4 : decide (b = 0) with
          | false =>
            push_cast -implicitDefEqProofs [eq_self, iff_self, h1, h2, h3, h4]
            repeat (refine gskip ?_; push_cast -implicitDefEqProofs [eq_self, iff_self, h1, h2, h3, h4])
          | true =>
            push_cast -implicitDefEqProofs [eq_self, iff_self, h1, h2, h3, h4]
  · have hv : m.node ⟨true, o, a, b⟩ = (decide (o = 0) && decide (0 ≤ a) && decide (a < m.P.length) && decide (0 ≤ b) && decide (b < m.P.length)) := by
      rw [node_cut, if_pos rfl, inG_cut, inG_cut]
      simp only [Bool.and_assoc]
    rw [hv]
    cases h1 : decide (o = 0) with
    | false =>
      push_cast -implicitDefEqProofs [eq_self, iff_self, h1, List.length_map]
      repeat (refine gskip ?_; push_cast -implicitDefEqProofs [eq_self, iff_self, h1, List.length_map])
    | true =>
      cases h2 : decide (0 ≤ a) with
      | false =>
        push_cast -implicitDefEqProofs [eq_self, iff_self, h1, h2, List.length_map]
        repeat (refine gskip ?_; push_cast -implicitDefEqProofs [eq_self, iff_self, h1, h2, List.length_map])
      | true =>
        cases h3 : decide (a < (m.P.length : Int)) with
        | false =>
          push_cast -implicitDefEqProofs [eq_self, iff_self, h1, h2, h3, List.length_map]
          repeat (refine gskip ?_; push_cast -implicitDefEqProofs [eq_self, iff_self, h1, h2, h3, List.length_map])
        | true =>
          cases h4 : decide (0 ≤ b) with
          | false =>
            push_cast -implicitDefEqProofs [eq_self, iff_self, h1, h2, h3, h4, List.length_map]
            repeat (refine gskip ?_; push_cast -implicitDefEqProofs [eq_self, iff_self, h1, h2, h3, h4, List.length_map])
          | true =>
            cases h5 : decide (b < (m.P.length : Int)) with
            | false =>
              push_cast -implicitDefEqProofs [eq_self, iff_self, h1, h2, h3, h4, h5, List.length_map]
              repeat (refine gskip ?_; push_cast -implicitDefEqProofs [eq_self, iff_self, h1, h2, h3, h4, h5, List.length_map])
            | true =>
              push_cast -implicitDefEqProofs [eq_self, iff_self, h1, h2, h3, h4, h5, List.length_map]
theorem findR_ok (m : Mm) (hm : m.Small) (g : Int) : Quiet Go.Proofs.Try.prog 64 [encM m, .int g] (.int (m.find g)) := by
  refine quiet_of (rs := #[.tmp 4]) Go.Proofs.Try.func64 rfl rfl rfl mixed rfl rfl fun H hs => ?_
  push_cast -implicitDefEqProofs [eq_self, iff_self]
  refine callq (FindR15_ok m.P hm.2.2 g) ?_
  rw [Mm.find]
  push_cast -implicitDefEqProofs [eq_self, iff_self]
theorem canonR_ok (m : Mm) (hm : m.Small) (n : Nd) : Quiet Go.Proofs.Try.prog 112 [encM m, .agg (encN n)] (.agg (encN (m.canon n))) := by
  have hA := FindR15_ok m.P hm.2.2 n.a
  have hB := FindR15_ok m.P hm.2.2 n.b
  refine quiet_of (rs := #[.cell 4 55]) Go.Proofs.Try.func112 rfl rfl rfl mixed rfl rfl fun H hs => ?_
  push_cast -implicitDefEqProofs [eq_self, iff_self]
  refine callq (nodeR_ok m n) ?_
  push_cast -implicitDefEqProofs [eq_self, iff_self]
  refine callq (MayR15_ok m.P hm.2.2) ?_
  cases hn : m.node n with
  | false =>
    have hc : m.canon n = n := by rw [Mm.canon, hn, Bool.and_false]; rfl
    rw [hc]
    push_cast -implicitDefEqProofs [eq_self, iff_self]
    repeat (refine gskip ?_; push_cast -implicitDefEqProofs [eq_self, iff_self])
  | true =>
    cases hP : mayS m.P with
    | false =>
      have hc : m.canon n = n := by rw [Mm.canon, hP]; rfl
      rw [hc]
      push_cast -implicitDefEqProofs [eq_self, iff_self]
      repeat (refine gskip ?_; push_cast -implicitDefEqProofs [eq_self, iff_self])
    | true =>
      cases hj : n.jn with
      | false =>
        have hc : m.canon n = n := by rw [Mm.canon, hP, hn]; exact canon_leaf hj
        rw [hc]
        push_cast -implicitDefEqProofs [eq_self, iff_self, hj]
      | true =>
        obtain ⟨h0, ⟨a1, a2⟩, b1, b2⟩ := node_join hn hj
        have hc : m.canon n = ⟨true, 0, findS m.P n.a, findS m.P n.b⟩ := by
          rw [Mm.canon, hP, hn]
          show canonR _ n = _
          rw [canonR, if_pos hj, rootsS_at hP (by omega), rootsS_at hP (by omega), h0, hj]
          rw [findS, if_pos (by simp [hP]; omega), findS, if_pos (by simp [hP]; omega)]
        rw [hc]
        generalize findS m.P n.a = x at hA
        generalize findS m.P n.b = y at hB
        push_cast -implicitDefEqProofs [eq_self, iff_self, hj]
        refine areg_at 11 (by kernel_rfl) (by kernel_rfl) ?_
        push_cast -implicitDefEqProofs [eq_self, iff_self]
        refine ahdq hA ?_
        push_cast -implicitDefEqProofs [eq_self, iff_self]
        refine ahdq hB ?_
        push_cast -implicitDefEqProofs [eq_self, iff_self]
theorem canon_cs {m : Mm} (hf : m.form = true) {i : Nat} (hi : i < m.N.length) : m.canon (m.N.getD i nd0) = m.cs.getD i nd0 := by
  rw [Mm.canon, form_P hf, form_N hf hi, cs_at hi]; rfl
theorem find_rg {m : Mm} (hf : m.form = true) {i : Nat} (hi : i < m.N.length) : findS m.P (m.G.getD i 0) = m.rg i := by
  have hG := form_G hf hi
  have h1 := findS_at (form_P hf) (i := (m.G.getD i 0).toNat) (by omega)
  rw [Int.toNat_of_nonneg hG.1] at h1
  rw [h1, rg_at hf hi]
theorem open_here {m : Mm} {i k : Nat} (hi : i < m.N.length) (hk : k < i) (hno : ∀ j, j < i → m.bad j = false) (hin : ∀ k', k' < k → m.cs.getD k' nd0 = m.cs.getD i nd0 → m.rg k' = m.rg i)
    (hs : m.cs.getD i nd0 = m.cs.getD k nd0) (hr : m.rg i ≠ m.rg k) : m.openM = some (m.G.getD k 0, m.G.getD i 0) := by
  have ha : m.at1 i = m.at1 k := by show idxN _ _ = idxN _ _; rw [hs]
  have hak : m.at1 k ≤ k := at1_le (by omega)
  have hbk := hno k hk
  rw [bad_cut] at hbk
  have hbk' : m.rg (m.at1 k) = m.rg k := by simpa using hbk
  have hka : m.at1 i = k := by
    rcases Nat.lt_or_ge (m.at1 i) k with h | h
    · have := hin _ h (at1_at hi)
      rw [ha, hbk'] at this
      exact absurd this.symm hr
    · omega
  have hb : m.bad i = true := by
    rw [bad_cut, hka]
    simp [Ne.symm hr]
  rw [openM_some hi hb hno, hka]
theorem open_not {m : Mm} {i : Nat} (hi : i < m.N.length) (hin : ∀ k', k' < i → m.cs.getD k' nd0 = m.cs.getD i nd0 → m.rg k' = m.rg i) : m.bad i = false := by
  rw [bad_cut]
  rcases Nat.lt_or_ge (m.at1 i) i with h | h
  · rw [hin _ h (at1_at hi)]; simp
  · have : m.at1 i = i := by have := at1_le hi; omega
    rw [this]; simp
set_option maxHeartbeats 4000000 in
theorem openR_ok (m : Mm) (hf : m.form = true) : Quiet Go.Proofs.Try.prog 79 [encM m] (.tup [.int ((m.openM).getD (-1, -1)).1, .int ((m.openM).getD (-1, -1)).2]) := by
  have hm := form_small hf
  have hNl := ((form_iff m).1 hf).2.2.1
  have hGl := ((form_iff m).1 hf).2.1
  refine quiet_of (rs := #[.tmp 2, .tmp 3]) Go.Proofs.Try.func79 rfl rfl rfl mixed rfl rfl fun H hs => ?_
  push_cast -implicitDefEqProofs [eq_self, iff_self]
  refine loop_at hs (σ := Nat) (fun i => i ≤ m.N.length ∧ ∀ j, j < i → m.bad j = false) (fun i => m.N.length - i)
    (fun i => [(4, .int i), (1, .ptr (H.nxt + 0) 3 0 0)]) (fun i => [some (.cells 3 [[.sl (m.N.map encN), .sl (m.G.map encI), .sl (m.P.map encI)]] 0)]) [some 0] 0 ⟨by omega, fun j hj => by omega⟩ rfl ?_ ?_ ?_
  · (try push_cast -implicitDefEqProofs [eq_self, iff_self])
  · (try push_cast -implicitDefEqProofs [eq_self, iff_self])
  rintro i ⟨hi2, hno⟩
  by_cases hi : i < m.N.length
  case neg =>
    obtain rfl : i = m.N.length := by omega
    have hi' : ((m.N.length : Int) < (m.N.length : Int)) = False := by simp
    rw [openM_none hno]
    push_cast -implicitDefEqProofs [eq_self, iff_self, hi', List.length_map]
  have hi' := inb_true hi
  have hi0 : (0 ≤ (i : Int)) = True := by simp
  push_cast -implicitDefEqProofs [eq_self, iff_self, hi', List.length_map]
  refine loop_at hs (σ := Nat) (fun k => k ≤ i ∧ ∀ k', k' < k → m.cs.getD k' nd0 = m.cs.getD i nd0 → m.rg k' = m.rg i) (fun k => i - k)
    (fun k => [(5, .int k), (4, .int i), (1, .ptr (H.nxt + 0) 3 0 0)]) (fun k => [some (.cells 3 [[.sl (m.N.map encN), .sl (m.G.map encI), .sl (m.P.map encI)]] 0)]) [some 0] 0 ⟨by omega, fun j hj => by omega⟩ rfl ?_ ?_ ?_
  · (try push_cast -implicitDefEqProofs [eq_self, iff_self])
  · (try push_cast -implicitDefEqProofs [eq_self, iff_self])
  rintro k ⟨hk2, hin⟩
  by_cases hk : k < i
  case neg =>
    obtain rfl : k = i := by omega
    have hk' : ((k : Int) < (k : Int)) = False := by simp
    have hb := open_not hi hin
    push_cast -implicitDefEqProofs [eq_self, iff_self, hk']
    rw [wrap64 (by omega) (by omega)]
    refine next_at [some 0] (k + 1) ⟨by omega, fun j hj => ?_⟩ (by omega) rfl ?_ ?_
    · rcases Nat.lt_succ_iff_lt_or_eq.1 hj with h | h
      · exact hno j h
      · rw [h]; exact hb
    · (try push_cast -implicitDefEqProofs [eq_self, iff_self])
    · (try push_cast -implicitDefEqProofs [eq_self, iff_self])
  have hk' : ((k : Int) < (i : Int)) = True := by simp; omega
  have hk0 : (0 ≤ (k : Int)) = True := by simp
  have hkN := inb_true (n := k) (k := m.N.length) (by omega)
  have hiG := inb_true (n := i) (k := m.G.length) (by omega)
  have hkG := inb_true (n := k) (k := m.G.length) (by omega)
  have gi1 := encN_get m.N i hi
  have gk1 := encN_get m.N k (by omega)
  have gi2 := int_at (p := m.G) (i := i) (by omega)
  have gk2 := int_at (p := m.G) (i := k) (by omega)
  have ci := canonR_ok m hm (m.N.getD i nd0)
  have ck := canonR_ok m hm (m.N.getD k nd0)
  rw [canon_cs hf hi] at ci
  rw [canon_cs hf (by omega)] at ck
  have fi := FindR15_ok m.P hm.2.2 (m.G.getD i 0)
  have fk := FindR15_ok m.P hm.2.2 (m.G.getD k 0)
  rw [find_rg hf hi] at fi
  rw [find_rg hf (by omega)] at fk
  have hhere := open_here hi hk hno hin
  have hmore : (m.cs.getD k nd0 = m.cs.getD i nd0 → m.rg k = m.rg i) → ∀ k', k' < k + 1 → m.cs.getD k' nd0 = m.cs.getD i nd0 → m.rg k' = m.rg i := fun h k' hk' => by
    rcases Nat.lt_succ_iff_lt_or_eq.1 hk' with h1 | h1
    · exact hin k' h1
    · rw [h1]; exact h
  generalize m.N.getD i nd0 = ni at gi1 ci
  generalize m.N.getD k nd0 = nk at gk1 ck
  generalize m.G.getD i 0 = Gi at gi2 fi hhere
  generalize m.G.getD k 0 = Gk at gk2 fk hhere
  generalize m.cs.getD i nd0 = xi at ci hhere hmore
  generalize m.cs.getD k nd0 = xk at ck hhere hmore
  generalize m.rg i = ri at fi hhere hmore
  generalize m.rg k = rk at fk hhere hmore
  push_cast -implicitDefEqProofs [eq_self, iff_self, hk']
  refine areg_at 8 (by kernel_rfl) (by kernel_rfl) ?_
  push_cast -implicitDefEqProofs [eq_self, iff_self, hi', hi0, List.length_map, gi1]
  refine ahdq ci ?_
  push_cast -implicitDefEqProofs [eq_self, iff_self]
  refine areg_at 8 (by kernel_rfl) (by kernel_rfl) ?_
  push_cast -implicitDefEqProofs [eq_self, iff_self, hkN, hk0, List.length_map, gk1]
  refine ahdq ck ?_
  push_cast -implicitDefEqProofs [eq_self, iff_self]
  refine areg_at 22 (by kernel_rfl) (by kernel_rfl) ?_
  have hcm := cmpN xi.jn xk.jn xi.occ xi.a xi.b xk.occ xk.a xk.b
  have hco : (xi.jn == xk.jn && (decide (xi.occ = xk.occ) && (decide (xi.a = xk.a) && (decide (xi.b = xk.b) && true)))) = eqN xi xk := rfl
  rw [hco] at hcm
  rw [Bool.and_true] at hco
  cases he : eqN xi xk with
  | false =>
    have hne : xk = xi → rk = ri := fun h => by rw [h, eqN_refl] at he; cases he
    rw [he] at hcm hco
    push_cast -implicitDefEqProofs [eq_self, iff_self, lits, cellsEq, cellEq, hcm, hco]
    repeat (refine gcallq .any (fun h => Bool.noConfusion h) ?_; push_cast -implicitDefEqProofs [eq_self, iff_self, lits, cellsEq, cellEq, hcm, hco])
    rw [wrap64 (by omega) (by omega)]
    refine next_at [some 0] (k + 1) ⟨by omega, hmore hne⟩ (by omega) rfl ?_ ?_
    · (try push_cast -implicitDefEqProofs [eq_self, iff_self])
    · (try push_cast -implicitDefEqProofs [eq_self, iff_self])
  | true =>
    have hee := eqN_iff.1 he
    rw [he] at hcm hco
    push_cast -implicitDefEqProofs [eq_self, iff_self, lits, cellsEq, cellEq, hcm, hco, hiG, hkG, hi0, hk0, gi2, gk2, List.length_map]
    refine gcallq (.int ri) (fun _ => fi) ?_
    push_cast -implicitDefEqProofs [eq_self, iff_self, hiG, hkG, hi0, hk0, gi2, gk2, List.length_map]
    refine gcallq (.int rk) (fun _ => fk) ?_
    by_cases hr : ri = rk
    · have hd : decide (ri = rk) = true := decide_eq_true hr
      push_cast -implicitDefEqProofs [eq_self, iff_self, hd, hiG, hkG, hi0, hk0, gi2, gk2, List.length_map]
      rw [wrap64 (by omega) (by omega)]
      refine next_at [some 0] (k + 1) ⟨by omega, hmore (fun _ => hr.symm)⟩ (by omega) rfl ?_ ?_
      · (try push_cast -implicitDefEqProofs [eq_self, iff_self])
      · (try push_cast -implicitDefEqProofs [eq_self, iff_self])
    · have hd : decide (ri = rk) = false := decide_eq_false hr
      rw [hhere hee hr]
      push_cast -implicitDefEqProofs [eq_self, iff_self, hd, hiG, hkG, hi0, hk0, gi2, gk2, List.length_map]
      refine areg_at 11 (by kernel_rfl) (by kernel_rfl) ?_
      push_cast -implicitDefEqProofs [eq_self, iff_self, hd, hiG, hkG, hi0, hk0, gi2, gk2, List.length_map, Option.getD_some]
theorem may_no {m : Mm} (h : m.form = false) : m.may = false := by rw [may_def, h]; rfl
set_option maxHeartbeats 4000000 in
theorem mayR_ok (m : Mm) (hm : m.Small) : Quiet Go.Proofs.Try.prog 47 [encM m] (.bool m.may) := by
  refine quiet_of (rs := #[.tmp 2]) Go.Proofs.Try.func47 rfl rfl rfl mixed rfl rfl fun H hs => ?_
  push_cast -implicitDefEqProofs [eq_self, iff_self]
  refine callq (MayR15_ok m.P hm.2.2) ?_
  cases hP : mayS m.P with
  | false =>
    rw [may_no (by rw [Bool.eq_false_iff]; intro h; rw [form_P h] at hP; cases hP)]
    push_cast -implicitDefEqProofs [eq_self, iff_self]
    repeat (refine gskip ?_; push_cast -implicitDefEqProofs [eq_self, iff_self])
  | true =>
  cases hl : decide ((m.G.length : Int) = m.N.length) with
  | false =>
    have hl' := of_decide_eq_false hl
    rw [may_no (by rw [Bool.eq_false_iff]; intro h; have := ((form_iff m).1 h).2.1; omega)]
    push_cast -implicitDefEqProofs [eq_self, iff_self, hl, List.length_map]
    repeat (refine gskip ?_; push_cast -implicitDefEqProofs [eq_self, iff_self, hl, List.length_map])
  | true =>
  have hl' := of_decide_eq_true hl
  cases h4 : decide ((400 : Int) < m.N.length) with
  | true =>
    have h4' := of_decide_eq_true h4
    rw [may_no (by rw [Bool.eq_false_iff]; intro h; have := ((form_iff m).1 h).2.2.1; omega)]
    push_cast -implicitDefEqProofs [eq_self, iff_self, hl, h4, List.length_map]
  | false =>
  have h4' := of_decide_eq_false h4
  push_cast -implicitDefEqProofs [eq_self, iff_self, hl, h4, List.length_map]
  refine loop_at hs (σ := Nat) (fun i => i ≤ m.N.length ∧ ∀ j, j < i → m.node (m.N.getD j nd0) = true ∧ m.inG (m.G.getD j 0) = true) (fun i => m.N.length - i)
    (fun i => [(4, .int i), (1, .ptr (H.nxt + 0) 3 0 0)]) (fun i => [some (.cells 3 [[.sl (m.N.map encN), .sl (m.G.map encI), .sl (m.P.map encI)]] 0)]) [some 0] 0 ⟨by omega, fun j hj => by omega⟩ rfl ?_ ?_ ?_
  · (try push_cast -implicitDefEqProofs [eq_self, iff_self])
  · (try push_cast -implicitDefEqProofs [eq_self, iff_self])
  rintro i ⟨hi2, hall⟩
  by_cases hi : i < m.N.length
  case neg =>
    obtain rfl : i = m.N.length := by omega
    have hi' : ((m.N.length : Int) < (m.N.length : Int)) = False := by simp
    have hf : m.form = true := (form_iff m).2 ⟨hP, by omega, by omega, fun g hg => by
      obtain ⟨j, hj, rfl⟩ := List.getElem_of_mem hg
      have := (hall j (by omega)).2
      rwa [List.getD_eq_getElem?_getD, List.getElem?_eq_getElem hj] at this, fun n hn => by
      obtain ⟨j, hj, rfl⟩ := List.getElem_of_mem hn
      have := (hall j hj).1
      rwa [List.getD_eq_getElem?_getD, List.getElem?_eq_getElem hj] at this⟩
    have hop := openR_ok m hf
    have hop2 : ∀ x, m.openM = some x → 0 ≤ x.1 := fun x hx => by
      obtain ⟨i, k, _, _, _, rfl, _⟩ := openM_at hf hx
      exact Int.natCast_nonneg _
    rw [may_def, hf]
    cases ho : m.openM with
    | none =>
      rw [ho] at hop
      push_cast -implicitDefEqProofs [eq_self, iff_self, hi', List.length_map]
      refine callq hop ?_
      push_cast -implicitDefEqProofs [eq_self, iff_self, Option.getD_none, Option.isNone_none]
    | some x =>
      rw [ho] at hop
      have hx := hop2 x ho
      have hx' : decide (x.1 < 0) = false := decide_eq_false (by omega)
      push_cast -implicitDefEqProofs [eq_self, iff_self, hi', List.length_map]
      refine callq hop ?_
      push_cast -implicitDefEqProofs [eq_self, iff_self, Option.getD_some, Option.isNone_some, hx']
  have hi' := inb_true hi
  have hi0 : (0 ≤ (i : Int)) = True := by simp
  have hiG := inb_true (n := i) (k := m.G.length) (by omega)
  have gn := encN_get m.N i hi
  have gg := int_at (p := m.G) (i := i) (by omega)
  have hno : m.node (m.N.getD i nd0) = false ∨ m.inG (m.G.getD i 0) = false → m.may = false := fun h => by
    refine may_no ?_
    rw [Bool.eq_false_iff]
    intro hf
    have h1 := form_N hf hi
    have h2 := form_G hf hi
    rcases h with h | h
    · rw [h] at h1; cases h1
    · rw [inG_cut, Bool.and_eq_false_iff, decide_eq_false_iff_not, decide_eq_false_iff_not] at h; omega
  have hmore : m.node (m.N.getD i nd0) = true → m.inG (m.G.getD i 0) = true → ∀ j, j < i + 1 → m.node (m.N.getD j nd0) = true ∧ m.inG (m.G.getD j 0) = true := fun h1 h2 j hj => by
    rcases Nat.lt_succ_iff_lt_or_eq.1 hj with h | h
    · exact hall j h
    · rw [h]; exact ⟨h1, h2⟩
  have hnd := nodeR_ok m (m.N.getD i nd0)
  rw [inG_cut] at hno hmore
  generalize m.N.getD i nd0 = n at gn hno hmore hnd
  generalize m.G.getD i 0 = g at gg hno hmore
  push_cast -implicitDefEqProofs [eq_self, iff_self, hi', List.length_map]
  refine areg_at 7 (by kernel_rfl) (by kernel_rfl) ?_
  push_cast -implicitDefEqProofs [eq_self, iff_self, hi', hi0, List.length_map, gn]
  refine ahdq hnd ?_
  push_cast -implicitDefEqProofs [eq_self, iff_self]
  refine areg_at 21 (by kernel_rfl) (by kernel_rfl) ?_
  cases h1 : m.node n with
  | false =>
    rw [hno (.inl h1)]
    push_cast -implicitDefEqProofs [eq_self, iff_self, hiG, hi0, gg, List.length_map]
  | true =>
  cases h2 : decide (g < 0) with
  | true =>
    have h2' := of_decide_eq_true h2
    rw [hno (.inr (by rw [Bool.and_eq_false_iff, decide_eq_false_iff_not]; omega))]
    push_cast -implicitDefEqProofs [eq_self, iff_self, hiG, hi0, gg, h2, List.length_map]
  | false =>
  have h2' := of_decide_eq_false h2
  cases h3 : decide ((m.P.length : Int) ≤ g) with
  | true =>
    have h3' := of_decide_eq_true h3
    rw [hno (.inr (by rw [Bool.and_eq_false_iff, decide_eq_false_iff_not, decide_eq_false_iff_not]; omega))]
    push_cast -implicitDefEqProofs [eq_self, iff_self, hiG, hi0, gg, h2, h3, List.length_map]
  | false =>
    have h3' := of_decide_eq_false h3
    push_cast -implicitDefEqProofs [eq_self, iff_self, hiG, hi0, gg, h2, h3, List.length_map]
    rw [wrap64 (by omega) (by omega)]
    refine next_at [some 0] (i + 1) ⟨by omega, hmore h1 (by rw [Bool.and_eq_true, decide_eq_true_eq, decide_eq_true_eq]; omega)⟩ (by omega) rfl ?_ ?_
    · (try push_cast -implicitDefEqProofs [eq_self, iff_self])
    · (try push_cast -implicitDefEqProofs [eq_self, iff_self])
def placeM (m : Mm) (c : Nd) : Int := if idxN c m.cs < m.N.length then (idxN c m.cs : Nat) else -1
theorem idxN_none {c : Nd} {l : List Nd} (h : ∀ j, j < l.length → l.getD j nd0 ≠ c) : ¬ idxN c l < l.length := fun h1 => h _ h1 (idxN_at h1)
theorem idxN_is {c : Nd} {l : List Nd} {k : Nat} (hk : k < l.length) (h : l.getD k nd0 = c) (hno : ∀ j, j < k → l.getD j nd0 ≠ c) : idxN c l = k := by
  rcases Nat.lt_trichotomy (idxN c l) k with h1 | h1 | h1
  · exact absurd (idxN_at (by omega)) (hno _ h1)
  · exact h1
  · exact absurd h (idxN_first h1)
theorem placeR_ok (m : Mm) (hf : m.form = true) (c : Nd) : Quiet Go.Proofs.Try.prog 116 [encM m, .agg (encN c)] (.int (placeM m c)) := by
  have hm := form_small hf
  have hNl := ((form_iff m).1 hf).2.2.1
  have hcl := cs_len m
  refine quiet_of (rs := #[.tmp 4]) Go.Proofs.Try.func116 rfl rfl rfl mixed rfl rfl fun H hs => ?_
  push_cast -implicitDefEqProofs [eq_self, iff_self]
  refine loop_at hs (σ := Nat) (fun i => i ≤ m.N.length ∧ ∀ j, j < i → m.cs.getD j nd0 ≠ c) (fun i => m.N.length - i)
    (fun i => [(5, .int i), (2, .ptr (H.nxt + 0) 3 0 0), (3, .ptr (H.nxt + 1) 4 0 0)]) (fun i => [some (.cells 3 [[.sl (m.N.map encN), .sl (m.G.map encI), .sl (m.P.map encI)]] 0), some (.cells 4 [encN c] 0)]) [some 0, some 1] 0 ⟨by omega, fun j hj => by omega⟩ rfl ?_ ?_ ?_
  · (try push_cast -implicitDefEqProofs [eq_self, iff_self])
  · (try push_cast -implicitDefEqProofs [eq_self, iff_self])
  rintro i ⟨hi2, hno⟩
  by_cases hi : i < m.N.length
  case neg =>
    obtain rfl : i = m.N.length := by omega
    have hi' : ((m.N.length : Int) < (m.N.length : Int)) = False := by simp
    have hp : placeM m c = -1 := by rw [placeM, if_neg (by rw [← hcl]; exact idxN_none (fun j hj => hno j (by omega)))]
    rw [hp]
    push_cast -implicitDefEqProofs [eq_self, iff_self, hi', List.length_map]
  have hi' := inb_true hi
  have hi0 : (0 ≤ (i : Int)) = True := by simp
  have gn := encN_get m.N i hi
  have ci := canonR_ok m hm (m.N.getD i nd0)
  rw [canon_cs hf hi] at ci
  have hhit : m.cs.getD i nd0 = c → placeM m c = i := fun h => by
    have := idxN_is (by omega) h hno
    rw [placeM, this, if_pos hi]
  have hmore : m.cs.getD i nd0 ≠ c → ∀ j, j < i + 1 → m.cs.getD j nd0 ≠ c := fun h j hj => by
    rcases Nat.lt_succ_iff_lt_or_eq.1 hj with h1 | h1
    · exact hno j h1
    · rw [h1]; exact h
  generalize m.N.getD i nd0 = ni at gn ci
  generalize m.cs.getD i nd0 = x at ci hhit hmore
  push_cast -implicitDefEqProofs [eq_self, iff_self, hi', List.length_map]
  refine areg_at 8 (by kernel_rfl) (by kernel_rfl) ?_
  push_cast -implicitDefEqProofs [eq_self, iff_self, hi', hi0, List.length_map, gn]
  refine ahdq ci ?_
  have hcm := cmpN x.jn c.jn x.occ x.a x.b c.occ c.a c.b
  have hco : (x.jn == c.jn && (decide (x.occ = c.occ) && (decide (x.a = c.a) && (decide (x.b = c.b) && true)))) = eqN x c := rfl
  rw [hco] at hcm
  rw [Bool.and_true] at hco
  cases he : eqN x c with
  | true =>
    rw [hhit (eqN_iff.1 he)]
    rw [he] at hcm hco
    push_cast -implicitDefEqProofs [eq_self, iff_self, lits, cellsEq, cellEq, hcm, hco]
  | false =>
    have hne : x ≠ c := fun h => by rw [h, eqN_refl] at he; cases he
    rw [he] at hcm hco
    push_cast -implicitDefEqProofs [eq_self, iff_self, lits, cellsEq, cellEq, hcm, hco]
    rw [wrap64 (by omega) (by omega)]
    refine next_at [some 0, some 1] (i + 1) ⟨by omega, hmore hne⟩ (by omega) rfl ?_ ?_
    · (try push_cast -implicitDefEqProofs [eq_self, iff_self])
    · (try push_cast -implicitDefEqProofs [eq_self, iff_self])
theorem lookR_ok (m : Mm) (hm : m.Small) (n : Nd) : Quiet Go.Proofs.Try.prog 91 [encM m, .agg (encN n)] (.tup [.int (m.look n).1, .bool (m.look n).2]) := by
  refine quiet_of (rs := #[.tmp 4, .tmp 5]) Go.Proofs.Try.func91 rfl rfl rfl mixed rfl rfl fun H hs => ?_
  push_cast -implicitDefEqProofs [eq_self, iff_self]
  refine callq (mayR_ok m hm) ?_
  push_cast -implicitDefEqProofs [eq_self, iff_self]
  refine callq (nodeR_ok m n) ?_
  cases hmay : m.may with
  | false =>
    have hl : m.look n = (-1, false) := by rw [Mm.look, hmay]; rfl
    rw [hl]
    push_cast -implicitDefEqProofs [eq_self, iff_self]
    repeat (refine gskip ?_; push_cast -implicitDefEqProofs [eq_self, iff_self])
  | true =>
  cases hn : m.node n with
  | false =>
    have hl : m.look n = (-1, false) := by rw [Mm.look, hmay, hn]; rfl
    rw [hl]
    push_cast -implicitDefEqProofs [eq_self, iff_self]
  | true =>
  have hf := may_f hmay
  have hGl := ((form_iff m).1 hf).2.1
  have hcan : m.canon n = canonR (rootsS m.P) n := by rw [Mm.canon, form_P hf, hn]; rfl
  have hC := canonR_ok m hm n
  have hPl := placeR_ok m hf (m.canon n)
  have hlk : m.look n = if idxN (m.canon n) m.cs < m.N.length then (m.find (m.G.getD (idxN (m.canon n) m.cs) 0), true) else (-1, false) := by
    rw [Mm.look, hmay, hn, hcan]; rfl
  rw [hlk]
  rw [placeM] at hPl
  generalize m.canon n = c at hC hPl
  push_cast -implicitDefEqProofs [eq_self, iff_self]
  refine areg_at 5 (by kernel_rfl) (by kernel_rfl) ?_
  push_cast -implicitDefEqProofs [eq_self, iff_self]
  refine ahdq hC ?_
  push_cast -implicitDefEqProofs [eq_self, iff_self]
  refine ahdq hPl ?_
  by_cases hi : idxN c m.cs < m.N.length
  · rw [if_pos hi, if_pos hi]
    generalize idxN c m.cs = i at hi
    have hi' : ((i : Int) < 0) = False := by simp
    have hi0 : (0 ≤ (i : Int)) = True := by simp
    have hiG := inb_true (n := i) (k := m.G.length) (by omega)
    have gg := int_at (p := m.G) (i := i) (by omega)
    have hF := findR_ok m hm (m.G.getD i 0)
    generalize m.G.getD i 0 = g at gg hF
    push_cast -implicitDefEqProofs [eq_self, iff_self, hi']
    refine areg_at 7 (by kernel_rfl) (by kernel_rfl) ?_
    push_cast -implicitDefEqProofs [eq_self, iff_self, hi0, hiG, gg, List.length_map]
    refine ahdq hF ?_
    push_cast -implicitDefEqProofs [eq_self, iff_self]
  · rw [if_neg hi, if_neg hi]
    push_cast -implicitDefEqProofs [eq_self, iff_self]
end
section
attribute [local push_cast] encIs_pure encNs_pure encN_eq encM_eq plus_obj0 plus_set0 piL_is00 piL_is0 piL_isk encIs_one encNs_four
structure MgR where
  P : List Int
  x : Int
  y : Int
  f : Nat
def MgRI (m W : Mm) (s : MgR) : Prop := (Mm.mk m.N m.G s.P).form = true ∧ s.P.length = m.P.length ∧ ((0 ≤ s.x ∧ s.x < m.P.length ∧ 0 ≤ s.y ∧ s.y < m.P.length ∧ enough ⟨m.N, m.G, s.P⟩ s.x s.y s.f ∧ mergeF s.f ⟨m.N, m.G, s.P⟩ s.x s.y = W) ∨ (s.x < 0 ∧ s.f = 0 ∧ Mm.mk m.N m.G s.P = W))
set_option maxHeartbeats 4000000 in
theorem mergeR_ok (m : Mm) (hm : m.Small) (a b : Int) : Quiet Go.Proofs.Try.prog 92 [encM m, .int a, .int b] (.tup [encM (m.merge a b).1, .int (m.merge a b).2.1, .int (m.merge a b).2.2]) := by
  refine quiet_of (rs := #[.cell 6 25, .tmp 7, .tmp 8]) Go.Proofs.Try.func92 rfl rfl rfl mixed rfl rfl fun H hs => ?_
  push_cast -implicitDefEqProofs [eq_self, iff_self]
  refine callq (mayR_ok m hm) ?_
  by_cases hc : m.may = true ∧ (0 ≤ a ∧ a < m.P.length) ∧ 0 ≤ b ∧ b < m.P.length
  case neg =>
    have hv : m.merge a b = (m, -1, 1) := by
      rw [Mm.merge, if_neg]
      simp only [inG_cut, Bool.and_eq_true, decide_eq_true_eq]
      exact fun h => hc ⟨h.1.1, h.1.2, h.2⟩
    rw [hv]
    cases hmay : m.may with
    | false =>
      push_cast -implicitDefEqProofs [eq_self, iff_self]
      repeat (refine gskip ?_; push_cast -implicitDefEqProofs [eq_self, iff_self])
    | true =>
    cases h1 : decide (a < 0) with
    | true =>
      push_cast -implicitDefEqProofs [eq_self, iff_self, h1]
      repeat (refine gskip ?_; push_cast -implicitDefEqProofs [eq_self, iff_self, h1])
    | false =>
    cases h2 : decide (b < 0) with
    | true =>
      push_cast -implicitDefEqProofs [eq_self, iff_self, h1, h2]
      repeat (refine gskip ?_; push_cast -implicitDefEqProofs [eq_self, iff_self, h1, h2])
    | false =>
    cases h3 : decide ((m.P.length : Int) ≤ a) with
    | true =>
      push_cast -implicitDefEqProofs [eq_self, iff_self, h1, h2, h3, List.length_map]
      repeat (refine gskip ?_; push_cast -implicitDefEqProofs [eq_self, iff_self, h1, h2, h3, List.length_map])
    | false =>
    cases h4 : decide ((m.P.length : Int) ≤ b) with
    | true =>
      push_cast -implicitDefEqProofs [eq_self, iff_self, h1, h2, h3, h4, List.length_map]
    | false =>
      have k1 := of_decide_eq_false h1
      have k2 := of_decide_eq_false h2
      have k3 := of_decide_eq_false h3
      have k4 := of_decide_eq_false h4
      exact absurd ⟨hmay, ⟨by omega, by omega⟩, by omega, by omega⟩ hc
  obtain ⟨hmay, ⟨ha0, ha1⟩, hb0, hb1⟩ := hc
  have hf := may_f hmay
  have hP := form_P hf
  have hv : m.merge a b = (mergeF (m.P.length + 1) m a b, (mergeF (m.P.length + 1) m a b).find a, 0) := by
    rw [Mm.merge, if_pos]
    simp only [inG_cut, Bool.and_eq_true, decide_eq_true_eq]
    exact ⟨⟨hmay, ha0, ha1⟩, hb0, hb1⟩
  rw [hv]
  have h1 : decide (a < 0) = false := decide_eq_false (by omega)
  have h2 : decide (b < 0) = false := decide_eq_false (by omega)
  have h3 : decide ((m.P.length : Int) ≤ a) = false := decide_eq_false (by omega)
  have h4 : decide ((m.P.length : Int) ≤ b) = false := decide_eq_false (by omega)
  rw [hmay]
  have hstart : MgRI m (mergeF (m.P.length + 1) m a b) ⟨m.P, a, b, m.P.length + 1⟩ := ⟨hf, rfl, .inl ⟨ha0, ha1, hb0, hb1, enough_first hP a b, rfl⟩⟩
  have hWf := mergeF_form (m.P.length + 1) a b hf
  generalize mergeF (m.P.length + 1) m a b = W at hstart hWf
  push_cast -implicitDefEqProofs [eq_self, iff_self, h1, h2, h3, h4, List.length_map]
  refine loop_at hs (σ := MgR) (MgRI m W) (fun s => s.f)
    (fun s => [(10, .int s.x), (11, .int s.y), (1, .int a), (3, .ptr (H.nxt + 0) 3 0 0), (6, .ptr (H.nxt + 1) 3 0 0)]) (fun s => [some (.cells 3 [[.sl (m.N.map encN), .sl (m.G.map encI), .sl (s.P.map encI)]] 0), some (.cells 3 [[.nilS, .nilS, .nilS]] 0)]) [some 0, some 1] ⟨m.P, a, b, m.P.length + 1⟩ hstart rfl ?_ ?_ ?_
  · (try push_cast -implicitDefEqProofs [eq_self, iff_self])
  · (try push_cast -implicitDefEqProofs [eq_self, iff_self])
  rintro ⟨P, x, y, f⟩ ⟨hPf, hPl, hcase⟩
  dsimp only at hPf hPl hcase
  have hsP : P.length ≤ 1000000 := by have := mayS_max (form_P hPf); show P.length ≤ _; have h : (Mm.mk m.N m.G P).P.length = P.length := rfl; omega
  rcases hcase with ⟨hx0, hx1, hy0, hy1, hen, hW⟩ | ⟨hx0, hf0, hW⟩
  · obtain ⟨g, rfl⟩ := enough_pos hen
    have hJ := JoinR15_ok P hsP x y
    have hjf : (Mm.mk m.N m.G (joinS P x y).1).form = true := joined_form hPf x y
    have hO := openR_ok _ hjf
    have hjl : (joinS P x y).1.length = P.length := joinS_length P x y
    have hx' : (0 ≤ x) = True := eq_true hx0
    cases ho : ((Mm.mk m.N m.G P).joined x y).openM with
    | none =>
      rw [mergeF_end ho] at hW
      have ho' : (Mm.mk m.N m.G (joinS P x y).1).openM = none := ho
      rw [ho'] at hO
      have hW' : Mm.mk m.N m.G (joinS P x y).1 = W := hW
      generalize (joinS P x y).2 = bb at hJ
      generalize (joinS P x y).1 = P2 at hJ hjf hO hjl hW'
      push_cast -implicitDefEqProofs [eq_self, iff_self, hx']
      refine callq hJ ?_
      push_cast -implicitDefEqProofs [eq_self, iff_self]
      refine callq hO ?_
      push_cast -implicitDefEqProofs [eq_self, iff_self, Option.getD_none]
      refine next_at [some 0, some 1] ⟨P2, -1, -1, 0⟩ ⟨hjf, by show P2.length = _; omega, .inr ⟨by show (-1 : Int) < 0; decide, rfl, hW'⟩⟩ (by show 0 < g + 1; omega) rfl ?_ ?_
      · (try push_cast -implicitDefEqProofs [eq_self, iff_self])
      · (try push_cast -implicitDefEqProofs [eq_self, iff_self])
    | some z =>
      rw [mergeF_more ho] at hW
      have hen2 := enough_next hPf hen ho
      obtain ⟨i, k, hi, hk, _, hz, _⟩ := openM_at hjf ho
      have hiP := gi_lt hjf hi
      have hkP := gi_lt hjf hk
      have ho' : (Mm.mk m.N m.G (joinS P x y).1).openM = some z := ho
      rw [ho'] at hO
      have hW' : mergeF g (Mm.mk m.N m.G (joinS P x y).1) z.1 z.2 = W := hW
      have hen2' : enough (Mm.mk m.N m.G (joinS P x y).1) z.1 z.2 g := hen2
      have hz1 : 0 ≤ z.1 ∧ z.1 < m.P.length ∧ 0 ≤ z.2 ∧ z.2 < m.P.length := by
        have e1 : (Mm.mk m.N m.G (joinS P x y).1).P.length = m.P.length := by show (joinS P x y).1.length = _; omega
        rw [e1] at hiP hkP
        rw [hz]
        dsimp only
        omega
      generalize (joinS P x y).2 = bb at hJ
      generalize (joinS P x y).1 = P2 at hJ hjf hO hjl hW' hen2'
      push_cast -implicitDefEqProofs [eq_self, iff_self, hx']
      refine callq hJ ?_
      push_cast -implicitDefEqProofs [eq_self, iff_self]
      refine callq hO ?_
      push_cast -implicitDefEqProofs [eq_self, iff_self, Option.getD_some]
      refine next_at [some 0, some 1] ⟨P2, z.1, z.2, g⟩ ⟨hjf, by show P2.length = _; omega, .inl ⟨hz1.1, hz1.2.1, hz1.2.2.1, hz1.2.2.2, hen2', hW'⟩⟩ (by show g < g + 1; omega) rfl ?_ ?_
      · (try push_cast -implicitDefEqProofs [eq_self, iff_self])
      · (try push_cast -implicitDefEqProofs [eq_self, iff_self])
  · have hx' : (0 ≤ x) = False := eq_false (by omega)
    have hF := findR_ok W (form_small hWf) a
    rw [← hW] at hF ⊢
    generalize (Mm.mk m.N m.G P).find a = v at hF ⊢
    push_cast -implicitDefEqProofs [eq_self, iff_self, hx']
    refine .inl (areg_ord (fun D => if D 4 = true then H.plus [some (.cells 3 [[.sl (m.N.map encN), .sl (m.G.map encI), .sl (P.map encI)]] 0), some (.cells 3 [[.sl (m.N.map encN), .sl (m.G.map encI), .sl (P.map encI)]] 0)] else H.plus [some (.cells 3 [[.sl (m.N.map encN), .sl (m.G.map encI), .sl (P.map encI)]] 0), some (.cells 3 [[.nilS, .nilS, .nilS]] 0)]) (fun q9 => [AV.agg [.sl (m.N.map encN), .sl (m.G.map encI), .sl (P.map encI)], AV.agg [.sl (m.N.map encN), .sl (m.G.map encI), .sl (P.map encI)], AV.int a, AV.int v, AV.any, AV.int v, AV.int 0].getD q9 .any) (by kernel_rfl) (by kernel_rfl) ?_ ?_)
    · intro i0 o T D C ho hDi hdep hclo hT hC
      have hc : i0 = 0 ∨ i0 = 1 ∨ i0 = 2 ∨ i0 = 3 ∨ i0 = 4 ∨ i0 = 5 ∨ i0 = 6 := by
        have := (Array.getElem?_eq_some_iff.1 ho).1
        simp only [List.size_toArray, List.length_cons, List.length_nil] at this
        omega
      have t1 := hT.low 1 rfl
      have t3 := hT.low 3 rfl
      have t6 := hT.low 6 rfl
      try dsimp only at hC ⊢
      rcases hc with rfl | rfl | rfl | rfl | rfl | rfl | rfl
      all_goals
        simp only [List.getElem?_toArray, List.getElem?_cons_zero, List.getElem?_cons_succ, Option.some.injEq] at ho
        subst ho
      · skip
        have e4 : D 4 = false := by
          cases h : D 4 with
          | false => rfl
          | true =>
            have h2 := (hclo 4 _ rfl h 0 rfl)
            rw [hDi] at h2
            cases h2
        rw [if_neg (by rw [e4]; decide)]
        rw [if_neg (by rw [show addD D 0 4 = D 4 from rfl, e4]; decide)] at hC
        push_cast -implicitDefEqProofs [eq_self, iff_self, t1, t3, t6, List.getD_cons_zero, List.getD_cons_succ, List.length_cons, List.length_nil]
        exact hC
      · skip
        have e4 : D 4 = false := by
          cases h : D 4 with
          | false => rfl
          | true =>
            have h2 := (hclo 3 _ rfl (hclo 4 _ rfl h 3 rfl) 1 rfl)
            rw [hDi] at h2
            cases h2
        rw [if_neg (by rw [e4]; decide)]
        rw [if_neg (by rw [show addD D 1 4 = D 4 from rfl, e4]; decide)] at hC
        push_cast -implicitDefEqProofs [eq_self, iff_self, t1, t3, t6, List.getD_cons_zero, List.getD_cons_succ, List.length_cons, List.length_nil]
        exact hC
      · skip
        have e4 : D 4 = false := by
          cases h : D 4 with
          | false => rfl
          | true =>
            have h2 := (hclo 3 _ rfl (hclo 4 _ rfl h 3 rfl) 2 rfl)
            rw [hDi] at h2
            cases h2
        rw [if_neg (by rw [e4]; decide)]
        rw [if_neg (by rw [show addD D 2 4 = D 4 from rfl, e4]; decide)] at hC
        push_cast -implicitDefEqProofs [eq_self, iff_self, t1, t3, t6, List.getD_cons_zero, List.getD_cons_succ, List.length_cons, List.length_nil]
        exact hC
      · skip
        have d1 := hT.put 1 61 (hdep 1 rfl) rfl
        have d2 := hT.put 2 62 (hdep 2 rfl) rfl
        have e4 : D 4 = false := by
          cases h : D 4 with
          | false => rfl
          | true =>
            have h2 := (hclo 4 _ rfl h 3 rfl)
            rw [hDi] at h2
            cases h2
        rw [if_neg (by rw [e4]; decide)]
        rw [if_neg (by rw [show addD D 3 4 = D 4 from rfl, e4]; decide)] at hC
        push_cast -implicitDefEqProofs [eq_self, iff_self, t1, t3, t6, d1, d2, List.getD_cons_zero, List.getD_cons_succ, List.length_cons, List.length_nil]
        refine callq hF ?_
        exact hC
      · skip
        have d0 := hT.put 0 60 (hdep 0 rfl) rfl
        have e4 : D 4 = false := hDi
        rw [if_neg (by rw [e4]; decide)]
        rw [if_pos (show addD D 4 4 = true from rfl)] at hC
        push_cast -implicitDefEqProofs [eq_self, iff_self, t1, t3, t6, d0, List.getD_cons_zero, List.getD_cons_succ, List.length_cons, List.length_nil]
        exact hC
      · skip
        have d3 := hT.put 3 63 (hdep 3 rfl) rfl
        have e4 : D 4 = true := (hdep 4 rfl)
        rw [if_pos e4]
        rw [if_pos (show addD D 5 4 = true from e4)] at hC
        push_cast -implicitDefEqProofs [eq_self, iff_self, t1, t3, t6, d3, List.getD_cons_zero, List.getD_cons_succ, List.length_cons, List.length_nil]
        exact hC
      · skip
        have e4 : D 4 = true := (hdep 4 rfl)
        rw [if_pos e4]
        rw [if_pos (show addD D 6 4 = true from e4)] at hC
        push_cast -implicitDefEqProofs [eq_self, iff_self, t1, t3, t6, List.getD_cons_zero, List.getD_cons_succ, List.length_cons, List.length_nil]
        exact hC
    · intro T D hD hT
      try dsimp only
      rw [if_pos (hD 4 (by decide))]
      have d5 := hT.put 5 7 (hD 5 (by decide)) rfl
      have d6 := hT.put 6 8 (hD 6 (by decide)) rfl
      have t6 := hT.low 6 rfl
      push_cast -implicitDefEqProofs [eq_self, iff_self, d5, d6, t6]
end
section
attribute [local push_cast] encIs_pure encNs_pure encN_eq encM_eq plus_obj0 plus_set0 piL_is00 piL_is0 piL_isk encIs_one encNs_four
theorem put_bad {m : Mm} {n : Nd} {g : Int} (h : ¬ (m.may = true ∧ m.node n = true ∧ -1 ≤ g ∧ g < m.P.length)) : m.put n g = (m, -1, 1) := by
  rw [put_def, if_pos]
  cases h1 : m.may with
  | false => rfl
  | true =>
  cases h2 : m.node n with
  | false => rfl
  | true =>
    have h3 : ¬ (-1 ≤ g ∧ g < m.P.length) := fun h3 => h ⟨h1, h2, h3⟩
    have h4 : decide (g = -1) = false := decide_eq_false (by omega)
    have h5 : m.inG g = false := by rw [inG_cut, Bool.and_eq_false_iff, decide_eq_false_iff_not, decide_eq_false_iff_not]; omega
    rw [h4, h5]; rfl
theorem put_in {m : Mm} {n : Nd} {g : Int} (h1 : m.may = true) (h2 : m.node n = true) (h3 : -1 ≤ g ∧ g < m.P.length) : m.put n g = if (m.look n).2 then (if g = -1 ∨ m.find g = (m.look n).1 then (m, (m.look n).1, 0) else m.merge g (m.look n).1)
    else if m.N.length = 400 ∨ (g = -1 ∧ m.P.length = 400) then (m, -1, 3)
    else if g = -1 then (⟨m.N ++ [n], m.G ++ [(m.P.length : Int)], m.P ++ [(m.P.length : Int)]⟩, findS (m.P ++ [(m.P.length : Int)]) m.P.length, 0)
    else (⟨m.N ++ [n], m.G ++ [g], m.P⟩, m.find g, 0) := by
  rw [put_def, if_neg]
  have h4 : (decide (g = -1) || m.inG g) = true := by
    by_cases h : g = -1
    · rw [decide_eq_true h]; rfl
    · have : m.inG g = true := by rw [inG_cut, Bool.and_eq_true, decide_eq_true_eq, decide_eq_true_eq]; omega
      rw [this, Bool.or_true]
  rw [h1, h2, h4]
  decide
set_option maxHeartbeats 4000000 in
theorem putR_ok (m : Mm) (hm : m.Small) (n : Nd) (g : Int) : Quiet Go.Proofs.Try.prog 59 [encM m, .agg (encN n), .int g] (.tup [encM (m.put n g).1, .int (m.put n g).2.1, .int (m.put n g).2.2]) := by
  refine quiet_of (rs := #[.cell 6 25, .tmp 7, .tmp 8]) Go.Proofs.Try.func59 rfl rfl rfl mixed rfl rfl fun H hs => ?_
  push_cast -implicitDefEqProofs [eq_self, iff_self]
  refine callq (mayR_ok m hm) ?_
  push_cast -implicitDefEqProofs [eq_self, iff_self]
  refine callq (nodeR_ok m n) ?_
  by_cases hc : m.may = true ∧ m.node n = true ∧ -1 ≤ g ∧ g < m.P.length
  case neg =>
    rw [put_bad hc]
    cases h1 : m.may with
    | false =>
      push_cast -implicitDefEqProofs [eq_self, iff_self]
      repeat (refine gskip ?_; push_cast -implicitDefEqProofs [eq_self, iff_self])
    | true =>
    cases h2 : m.node n with
    | false =>
      push_cast -implicitDefEqProofs [eq_self, iff_self]
      repeat (refine gskip ?_; push_cast -implicitDefEqProofs [eq_self, iff_self])
    | true =>
    cases h3 : decide (g < -1) with
    | true =>
      push_cast -implicitDefEqProofs [eq_self, iff_self, h3]
      repeat (refine gskip ?_; push_cast -implicitDefEqProofs [eq_self, iff_self, h3])
    | false =>
    cases h4 : decide ((m.P.length : Int) ≤ g) with
    | true =>
      push_cast -implicitDefEqProofs [eq_self, iff_self, h3, h4, List.length_map]
    | false =>
      have k3 := of_decide_eq_false h3
      have k4 := of_decide_eq_false h4
      exact absurd ⟨h1, h2, by omega, by omega⟩ hc
  obtain ⟨h1, h2, h3, h4⟩ := hc
  have h3' : decide (g < -1) = false := decide_eq_false (by omega)
  have h4' : decide ((m.P.length : Int) ≤ g) = false := decide_eq_false (by omega)
  have hf := may_f h1
  have hP := form_P hf
  have hlk := lookR_ok m hm n
  rw [put_in h1 h2 ⟨h3, h4⟩, h1, h2]
  push_cast -implicitDefEqProofs [eq_self, iff_self, h3', h4', List.length_map]
  generalize m.look n = q at hlk
  obtain ⟨h, has⟩ := q
  refine callq hlk ?_
  cases has with
  | true =>
    rw [if_pos rfl]
    by_cases hg : g = -1
    · have hg' : (g = -1) = True := eq_true hg
      rw [if_pos (.inl hg)]
      push_cast -implicitDefEqProofs [eq_self, iff_self, hg']
      repeat (refine gskip ?_; push_cast -implicitDefEqProofs [eq_self, iff_self, hg'])
    · have hg' : (g = -1) = False := eq_false hg
      have hF := findR_ok m hm g
      have hMg := mergeR_ok m hm g h
      push_cast -implicitDefEqProofs [eq_self, iff_self, hg']
      refine gcallq' (.int (m.find g)) (fun _ => trivial) (fun _ => hF) ?_
      by_cases hfh : m.find g = h
      · have e1 : decide (m.find g = h) = true := decide_eq_true hfh
        rw [if_pos hfh]
        push_cast -implicitDefEqProofs [eq_self, iff_self, hg', e1]
      · have e1 : decide (m.find g = h) = false := decide_eq_false hfh
        rw [if_neg hfh]
        generalize m.merge g h = q at hMg
        obtain ⟨w, r, e⟩ := q
        push_cast -implicitDefEqProofs [eq_self, iff_self, hg', e1]
        refine callq hMg ?_
        push_cast -implicitDefEqProofs [eq_self, iff_self]
  | false =>
    rw [if_neg Bool.false_ne_true]
    have hNl := ((form_iff m).1 hf).2.2.1
    have hPl := mayS_max hP
    by_cases hN : m.N.length = 400
    · have e1 : decide ((400 : Int) ≤ m.N.length) = true := decide_eq_true (by omega)
      rw [if_pos (.inl hN)]
      push_cast -implicitDefEqProofs [eq_self, iff_self, e1]
      repeat (refine gskip ?_; push_cast -implicitDefEqProofs [eq_self, iff_self, e1])
    have e1 : decide ((400 : Int) ≤ m.N.length) = false := decide_eq_false (by omega)
    have hXN : List.take m.N.length (m.N.map encN) ++ [[.bool n.jn, .int n.occ, .int n.a, .int n.b]] = (m.N ++ [n]).map encN := by rw [List.take_of_length_le (by simp), List.map_append]; rfl
    have hXG : List.take m.G.length (m.G.map encI) ++ [[.int g]] = (m.G ++ [g]).map encI := by rw [List.take_of_length_le (by simp), List.map_append]; rfl
    have hXG2 : List.take m.G.length (m.G.map encI) ++ [[.int m.P.length]] = (m.G ++ [(m.P.length : Int)]).map encI := by rw [List.take_of_length_le (by simp), List.map_append]; rfl
    have hXP : List.take m.P.length (m.P.map encI) ++ [[.int m.P.length]] = (m.P ++ [(m.P.length : Int)]).map encI := by rw [List.take_of_length_le (by simp), List.map_append]; rfl
    have hXP2 : m.P.map encI ++ [[.int m.P.length]] = (m.P ++ [(m.P.length : Int)]).map encI := by rw [List.map_append]; rfl
    have lN : ((m.N ++ [n]).map encN).length = m.N.length + 1 := by rw [List.length_map, List.length_append]; rfl
    have lG : ((m.G ++ [g]).map encI).length = m.G.length + 1 := by rw [List.length_map, List.length_append]; rfl
    have lG2 : ((m.G ++ [(m.P.length : Int)]).map encI).length = m.G.length + 1 := by rw [List.length_map, List.length_append]; rfl
    have lP2 : ((m.P ++ [(m.P.length : Int)]).map encI).length = m.P.length + 1 := by rw [List.length_map, List.length_append]; rfl
    have hGl := ((form_iff m).1 hf).2.1
    by_cases hg : g = -1
    · have hg' : (g = -1) = True := eq_true hg
      by_cases hP4 : m.P.length = 400
      · have e2 : decide ((400 : Int) ≤ m.P.length) = true := decide_eq_true (by omega)
        rw [if_pos (.inr ⟨hg, hP4⟩)]
        push_cast -implicitDefEqProofs [eq_self, iff_self, e1, e2, hg', List.length_map]
      · have e2 : decide ((400 : Int) ≤ m.P.length) = false := decide_eq_false (by omega)
        rw [if_neg (fun hx => hx.elim hN (fun hx => hP4 hx.2)), if_pos hg]
        push_cast -implicitDefEqProofs [eq_self, iff_self, e1, e2, hg', List.length_map]
        refine ⟨by omega, by omega, ?_⟩
        refine areg_grow [some (.cells 3 [[.sl (m.N.map encN), .sl (m.G.map encI), .rsl (H.nxt + 5) 1 0 (m.P.length + 1)]] 0), some (.cells 4 [encN n] 0), some (.cells 3 [[.nilS, .nilS, .nilS]] 0), none, some (.cells 1 [[.int m.P.length]] 0), some (.cells 1 (m.P.map encI ++ [[.int m.P.length]]) 0)] 6 ?_ (by kernel_rfl) (by kernel_rfl) (by kernel_rfl) ?_
        · intro k o ho
          rw [List.take_of_length_le (by simp)]
          exact ho
        push_cast -implicitDefEqProofs [eq_self, iff_self, List.length_map]
        rw [hXN, hXG2, hXP]
        refine ⟨by omega, by omega, by omega, by omega, ?_⟩
        refine .inr (.inl ⟨some, [(2, .int m.P.length), (3, .ptr (H.nxt + 0) 3 0 0), (6, .ptr (H.nxt + 2) 3 0 0)], H.plus [some (.cells 3 [[.sl ((m.N ++ [n]).map encN), .sl ((m.G ++ [(m.P.length : Int)]).map encI), .sl ((m.P ++ [(m.P.length : Int)]).map encI)]] 0), none, some (.cells 3 [[.nilS, .nilS, .nilS]] 0), none, none, none, none, none, none, none, none], weak_plus hs ?_ ?_, ?_⟩)
        · push_cast -implicitDefEqProofs [eq_self, iff_self]
        · push_cast -implicitDefEqProofs [eq_self, iff_self, lN, lG2, lP2, List.take_of_length_le]
        have hF := findR_ok ⟨m.N ++ [n], m.G ++ [(m.P.length : Int)], m.P ++ [(m.P.length : Int)]⟩ ⟨by simp; omega, by simp; omega, by simp; omega⟩ m.P.length
        rw [show (Mm.mk (m.N ++ [n]) (m.G ++ [(m.P.length : Int)]) (m.P ++ [(m.P.length : Int)])).find (m.P.length : Int) = findS (m.P ++ [(m.P.length : Int)]) m.P.length from rfl] at hF
        generalize findS (m.P ++ [(m.P.length : Int)]) m.P.length = v at hF ⊢
        refine (areg_ord (fun D => if D 4 = true then H.plus [some (.cells 3 [[.sl ((m.N ++ [n]).map encN), .sl ((m.G ++ [(m.P.length : Int)]).map encI), .sl ((m.P ++ [(m.P.length : Int)]).map encI)]] 0), none, some (.cells 3 [[.sl ((m.N ++ [n]).map encN), .sl ((m.G ++ [(m.P.length : Int)]).map encI), .sl ((m.P ++ [(m.P.length : Int)]).map encI)]] 0), none, none, none, none, none, none, none, none] else H.plus [some (.cells 3 [[.sl ((m.N ++ [n]).map encN), .sl ((m.G ++ [(m.P.length : Int)]).map encI), .sl ((m.P ++ [(m.P.length : Int)]).map encI)]] 0), none, some (.cells 3 [[.nilS, .nilS, .nilS]] 0), none, none, none, none, none, none, none, none]) (fun q9 => [AV.agg [.sl ((m.N ++ [n]).map encN), .sl ((m.G ++ [(m.P.length : Int)]).map encI), .sl ((m.P ++ [(m.P.length : Int)]).map encI)], .agg [.sl ((m.N ++ [n]).map encN), .sl ((m.G ++ [(m.P.length : Int)]).map encI), .sl ((m.P ++ [(m.P.length : Int)]).map encI)], AV.int (m.P.length), AV.int v, AV.any, AV.int v, AV.int 0].getD q9 .any) (by kernel_rfl) (by kernel_rfl) ?_ ?_)
        · intro i0 o T D C ho hDi hdep hclo hT hC
          have hc : i0 = 0 ∨ i0 = 1 ∨ i0 = 2 ∨ i0 = 3 ∨ i0 = 4 ∨ i0 = 5 ∨ i0 = 6 := by
            have := (Array.getElem?_eq_some_iff.1 ho).1
            simp only [List.size_toArray, List.length_cons, List.length_nil] at this
            omega
          have t2 := hT.low 2 rfl
          have t3 := hT.low 3 rfl
          have t6 := hT.low 6 rfl
          try dsimp only at hC ⊢
          rcases hc with rfl | rfl | rfl | rfl | rfl | rfl | rfl
          all_goals
            simp only [List.getElem?_toArray, List.getElem?_cons_zero, List.getElem?_cons_succ, Option.some.injEq] at ho
            subst ho
          · skip
            have e4 : D 4 = false := by
              cases h : D 4 with
              | false => rfl
              | true =>
                have h2 := (hclo 4 _ rfl h 0 rfl)
                rw [hDi] at h2
                cases h2
            rw [if_neg (by rw [e4]; decide)]
            rw [if_neg (by rw [show addD D 0 4 = D 4 from rfl, e4]; decide)] at hC
            push_cast -implicitDefEqProofs [eq_self, iff_self, t2, t3, t6, List.getD_cons_zero, List.getD_cons_succ, List.length_cons, List.length_nil]
            exact hC
          · skip
            have e4 : D 4 = false := by
              cases h : D 4 with
              | false => rfl
              | true =>
                have h2 := (hclo 3 _ rfl (hclo 4 _ rfl h 3 rfl) 1 rfl)
                rw [hDi] at h2
                cases h2
            rw [if_neg (by rw [e4]; decide)]
            rw [if_neg (by rw [show addD D 1 4 = D 4 from rfl, e4]; decide)] at hC
            push_cast -implicitDefEqProofs [eq_self, iff_self, t2, t3, t6, List.getD_cons_zero, List.getD_cons_succ, List.length_cons, List.length_nil]
            exact hC
          · skip
            have e4 : D 4 = false := by
              cases h : D 4 with
              | false => rfl
              | true =>
                have h2 := (hclo 3 _ rfl (hclo 4 _ rfl h 3 rfl) 2 rfl)
                rw [hDi] at h2
                cases h2
            rw [if_neg (by rw [e4]; decide)]
            rw [if_neg (by rw [show addD D 2 4 = D 4 from rfl, e4]; decide)] at hC
            push_cast -implicitDefEqProofs [eq_self, iff_self, t2, t3, t6, List.getD_cons_zero, List.getD_cons_succ, List.length_cons, List.length_nil]
            exact hC
          · skip
            have d1 := hT.put 1 110 (hdep 1 rfl) rfl
            have d2 := hT.put 2 111 (hdep 2 rfl) rfl
            have e4 : D 4 = false := by
              cases h : D 4 with
              | false => rfl
              | true =>
                have h2 := (hclo 4 _ rfl h 3 rfl)
                rw [hDi] at h2
                cases h2
            rw [if_neg (by rw [e4]; decide)]
            rw [if_neg (by rw [show addD D 3 4 = D 4 from rfl, e4]; decide)] at hC
            push_cast -implicitDefEqProofs [eq_self, iff_self, t2, t3, t6, d1, d2, List.getD_cons_zero, List.getD_cons_succ, List.length_cons, List.length_nil]
            refine callq hF ?_
            exact hC
          · skip
            have d0 := hT.put 0 109 (hdep 0 rfl) rfl
            have e4 : D 4 = false := hDi
            rw [if_neg (by rw [e4]; decide)]
            rw [if_pos (show addD D 4 4 = true from rfl)] at hC
            push_cast -implicitDefEqProofs [eq_self, iff_self, t2, t3, t6, d0, List.getD_cons_zero, List.getD_cons_succ, List.length_cons, List.length_nil]
            exact hC
          · skip
            have d3 := hT.put 3 112 (hdep 3 rfl) rfl
            have e4 : D 4 = true := (hdep 4 rfl)
            rw [if_pos e4]
            rw [if_pos (show addD D 5 4 = true from e4)] at hC
            push_cast -implicitDefEqProofs [eq_self, iff_self, t2, t3, t6, d3, List.getD_cons_zero, List.getD_cons_succ, List.length_cons, List.length_nil]
            exact hC
          · skip
            have e4 : D 4 = true := (hdep 4 rfl)
            rw [if_pos e4]
            rw [if_pos (show addD D 6 4 = true from e4)] at hC
            push_cast -implicitDefEqProofs [eq_self, iff_self, t2, t3, t6, List.getD_cons_zero, List.getD_cons_succ, List.length_cons, List.length_nil]
            exact hC
        · intro T D hD hT
          try dsimp only
          rw [if_pos (hD 4 (by decide))]
          have d5 := hT.put 5 7 (hD 5 (by decide)) rfl
          have d6 := hT.put 6 8 (hD 6 (by decide)) rfl
          have t6 := hT.low 6 rfl
          push_cast -implicitDefEqProofs [eq_self, iff_self, d5, d6, t6]
    · have hg' : (g = -1) = False := eq_false hg
      rw [if_neg (fun hx => hx.elim hN (fun hx => hg hx.1)), if_neg hg]
      push_cast -implicitDefEqProofs [eq_self, iff_self, e1, hg', List.length_map]
      refine areg_grow [some (.cells 3 [[.sl (m.N.map encN), .sl (m.G.map encI), .sl (m.P.map encI)]] 0), some (.cells 4 [encN n] 0), some (.cells 3 [[.nilS, .nilS, .nilS]] 0)] 6 (fun k o ho => ho) (by kernel_rfl) (by kernel_rfl) (by kernel_rfl) ?_
      push_cast -implicitDefEqProofs [eq_self, iff_self, List.length_map]
      rw [hXN, hXG]
      refine ⟨by omega, by omega, by omega, by omega, ?_⟩
      refine .inr (.inl ⟨some, [(2, .int g), (3, .ptr (H.nxt + 0) 3 0 0), (6, .ptr (H.nxt + 2) 3 0 0)], H.plus [some (.cells 3 [[.sl ((m.N ++ [n]).map encN), .sl ((m.G ++ [g]).map encI), .sl (m.P.map encI)]] 0), none, some (.cells 3 [[.nilS, .nilS, .nilS]] 0), none, none, none, none, none], weak_plus hs ?_ ?_, ?_⟩)
      · push_cast -implicitDefEqProofs [eq_self, iff_self]
      · push_cast -implicitDefEqProofs [eq_self, iff_self, lN, lG, List.take_of_length_le]
      have hF := findR_ok ⟨m.N ++ [n], m.G ++ [g], m.P⟩ ⟨by simp; omega, by simp; omega, hm.2.2⟩ g
      rw [show (Mm.mk (m.N ++ [n]) (m.G ++ [g]) m.P).find g = m.find g from rfl] at hF
      generalize m.find g = v at hF ⊢
      refine (areg_ord (fun D => if D 4 = true then H.plus [some (.cells 3 [[.sl ((m.N ++ [n]).map encN), .sl ((m.G ++ [g]).map encI), .sl (m.P.map encI)]] 0), none, some (.cells 3 [[.sl ((m.N ++ [n]).map encN), .sl ((m.G ++ [g]).map encI), .sl (m.P.map encI)]] 0), none, none, none, none, none] else H.plus [some (.cells 3 [[.sl ((m.N ++ [n]).map encN), .sl ((m.G ++ [g]).map encI), .sl (m.P.map encI)]] 0), none, some (.cells 3 [[.nilS, .nilS, .nilS]] 0), none, none, none, none, none]) (fun q9 => [AV.agg [.sl ((m.N ++ [n]).map encN), .sl ((m.G ++ [g]).map encI), .sl (m.P.map encI)], .agg [.sl ((m.N ++ [n]).map encN), .sl ((m.G ++ [g]).map encI), .sl (m.P.map encI)], AV.int (g), AV.int v, AV.any, AV.int v, AV.int 0].getD q9 .any) (by kernel_rfl) (by kernel_rfl) ?_ ?_)
      · intro i0 o T D C ho hDi hdep hclo hT hC
        have hc : i0 = 0 ∨ i0 = 1 ∨ i0 = 2 ∨ i0 = 3 ∨ i0 = 4 ∨ i0 = 5 ∨ i0 = 6 := by
          have := (Array.getElem?_eq_some_iff.1 ho).1
          simp only [List.size_toArray, List.length_cons, List.length_nil] at this
          omega
        have t2 := hT.low 2 rfl
        have t3 := hT.low 3 rfl
        have t6 := hT.low 6 rfl
        try dsimp only at hC ⊢
        rcases hc with rfl | rfl | rfl | rfl | rfl | rfl | rfl
        all_goals
          simp only [List.getElem?_toArray, List.getElem?_cons_zero, List.getElem?_cons_succ, Option.some.injEq] at ho
          subst ho
        · skip
          have e4 : D 4 = false := by
            cases h : D 4 with
            | false => rfl
            | true =>
              have h2 := (hclo 4 _ rfl h 0 rfl)
              rw [hDi] at h2
              cases h2
          rw [if_neg (by rw [e4]; decide)]
          rw [if_neg (by rw [show addD D 0 4 = D 4 from rfl, e4]; decide)] at hC
          push_cast -implicitDefEqProofs [eq_self, iff_self, t2, t3, t6, List.getD_cons_zero, List.getD_cons_succ, List.length_cons, List.length_nil]
          exact hC
        · skip
          have e4 : D 4 = false := by
            cases h : D 4 with
            | false => rfl
            | true =>
              have h2 := (hclo 3 _ rfl (hclo 4 _ rfl h 3 rfl) 1 rfl)
              rw [hDi] at h2
              cases h2
          rw [if_neg (by rw [e4]; decide)]
          rw [if_neg (by rw [show addD D 1 4 = D 4 from rfl, e4]; decide)] at hC
          push_cast -implicitDefEqProofs [eq_self, iff_self, t2, t3, t6, List.getD_cons_zero, List.getD_cons_succ, List.length_cons, List.length_nil]
          exact hC
        · skip
          have e4 : D 4 = false := by
            cases h : D 4 with
            | false => rfl
            | true =>
              have h2 := (hclo 3 _ rfl (hclo 4 _ rfl h 3 rfl) 2 rfl)
              rw [hDi] at h2
              cases h2
          rw [if_neg (by rw [e4]; decide)]
          rw [if_neg (by rw [show addD D 2 4 = D 4 from rfl, e4]; decide)] at hC
          push_cast -implicitDefEqProofs [eq_self, iff_self, t2, t3, t6, List.getD_cons_zero, List.getD_cons_succ, List.length_cons, List.length_nil]
          exact hC
        · skip
          have d1 := hT.put 1 110 (hdep 1 rfl) rfl
          have d2 := hT.put 2 111 (hdep 2 rfl) rfl
          have e4 : D 4 = false := by
            cases h : D 4 with
            | false => rfl
            | true =>
              have h2 := (hclo 4 _ rfl h 3 rfl)
              rw [hDi] at h2
              cases h2
          rw [if_neg (by rw [e4]; decide)]
          rw [if_neg (by rw [show addD D 3 4 = D 4 from rfl, e4]; decide)] at hC
          push_cast -implicitDefEqProofs [eq_self, iff_self, t2, t3, t6, d1, d2, List.getD_cons_zero, List.getD_cons_succ, List.length_cons, List.length_nil]
          refine callq hF ?_
          exact hC
        · skip
          have d0 := hT.put 0 109 (hdep 0 rfl) rfl
          have e4 : D 4 = false := hDi
          rw [if_neg (by rw [e4]; decide)]
          rw [if_pos (show addD D 4 4 = true from rfl)] at hC
          push_cast -implicitDefEqProofs [eq_self, iff_self, t2, t3, t6, d0, List.getD_cons_zero, List.getD_cons_succ, List.length_cons, List.length_nil]
          exact hC
        · skip
          have d3 := hT.put 3 112 (hdep 3 rfl) rfl
          have e4 : D 4 = true := (hdep 4 rfl)
          rw [if_pos e4]
          rw [if_pos (show addD D 5 4 = true from e4)] at hC
          push_cast -implicitDefEqProofs [eq_self, iff_self, t2, t3, t6, d3, List.getD_cons_zero, List.getD_cons_succ, List.length_cons, List.length_nil]
          exact hC
        · skip
          have e4 : D 4 = true := (hdep 4 rfl)
          rw [if_pos e4]
          rw [if_pos (show addD D 6 4 = true from e4)] at hC
          push_cast -implicitDefEqProofs [eq_self, iff_self, t2, t3, t6, List.getD_cons_zero, List.getD_cons_succ, List.length_cons, List.length_nil]
          exact hC
      · intro T D hD hT
        try dsimp only
        rw [if_pos (hD 4 (by decide))]
        have d5 := hT.put 5 7 (hD 5 (by decide)) rfl
        have d6 := hT.put 6 8 (hD 6 (by decide)) rfl
        have t6 := hT.low 6 rfl
        push_cast -implicitDefEqProofs [eq_self, iff_self, d5, d6, t6]
end
section
def In64 (n : Int) : Prop := -9223372036854775808 ≤ n ∧ n ≤ 9223372036854775807
theorem asV_I (vs : List AV) : asV Go.Proofs.Try.prog 3 vs = vs.headD .any := by simp only [asV, Go.Proofs.Try.underlying3]
theorem told_I {ts : List TypeId} {us : List AV} (h : ToldAll Go.Proofs.Try.prog (3 :: ts) us) : ∃ (n : Int) (us' : List AV), us = .int n :: us' ∧ In64 n ∧ ToldAll Go.Proofs.Try.prog ts us' := by
  simp only [ToldAll] at h
  obtain ⟨n, vs, us1, rfl, h1, h3⟩ := h
  obtain ⟨k, rfl, hk⟩ := shp_int Go.Proofs.Try.underlying3 h1
  exact ⟨k, us1, by rw [asV_I]; rfl, wf64 hk, h3⟩
theorem told_nil {us : List AV} (h : ToldAll Go.Proofs.Try.prog [] us) : us = [] := by simpa only [ToldAll] using h
end
section
attribute [local push_cast] encT_mk encT_take encT_len encT_one encTs_pure encT_pure
theorem bytesI : Program.bytesOf Go.Proofs.Try.prog 3 = 8 := by kernel_rfl
theorem shp_Is {n : Nat} {vs : List AV} (h : Shp Go.Proofs.Try.prog n 23 vs) : ∃ l : List Int, vs = [.sl (l.map encI)] ∧ l.length ≤ 140737488355328 := by
  obtain ⟨m, es, _, rfl, hl, hp⟩ := shp_slice Go.Proofs.Try.underlying23 h
  rw [bytesI] at hl
  obtain ⟨l, rfl, hq⟩ := map_of (f := encI) (q := fun x => In64 x) fun x hx => let ⟨v, hv, hw⟩ := shp_int Go.Proofs.Try.underlying3 (hp x hx).2; ⟨v, hv, wf64 hw⟩
  exact ⟨l, rfl, by simp [reachBytes] at hl; omega⟩
theorem asV_Is (vs : List AV) : asV Go.Proofs.Try.prog 23 vs = vs.headD .any := by simp only [asV, Go.Proofs.Try.underlying23]
theorem told_Is {ts : List TypeId} {us : List AV} (h : ToldAll Go.Proofs.Try.prog (23 :: ts) us) : ∃ (l : List Int) (us' : List AV), us = .sl (l.map encI) :: us' ∧ l.length ≤ 140737488355328 ∧ ToldAll Go.Proofs.Try.prog ts us' := by
  simp only [ToldAll] at h
  obtain ⟨n, vs, us1, rfl, h1, h3⟩ := h
  obtain ⟨l, rfl, h4⟩ := shp_Is h1
  exact ⟨l, us1, by rw [asV_Is]; rfl, h4, h3⟩
end
section
attribute [local push_cast] encT_mk encT_take encT_len encT_one encTs_pure encT_pure
theorem lvsT_len : ∀ (d : Nat) (t : Tr), d ≤ 4 → (lvsT d t).1.length ≤ 2 ^ d
  | 0, _, _ => by simp [lvsT]
  | d + 1, .mk o [], _ => by rw [lvsT_nil]; simp; exact Nat.one_le_two_pow
  | d + 1, .mk o [a, b], h => by
    rw [lvsT_two]
    have ha := lvsT_len d a (by omega)
    have hb := lvsT_len d b (by omega)
    split
    · rw [List.length_append, Nat.pow_succ]; omega
    · simp
  | d + 1, .mk o [a], _ => by rw [lvsT_one]; simp
  | d + 1, .mk o (a :: b :: c :: l), _ => by rw [lvsT_more]; simp
theorem pow_16 {d : Nat} (h : d ≤ 4) : 2 ^ d ≤ 16 := by
  have hc : d = 0 ∨ d = 1 ∨ d = 2 ∨ d = 3 ∨ d = 4 := by omega
  rcases hc with rfl | rfl | rfl | rfl | rfl <;> decide
theorem isL1 (l : List Int) : ∀ e ∈ l.map encI, e.length = 1 := by
  simp only [List.mem_map]
  rintro _ ⟨x, _, rfl⟩
  rfl
theorem isA1 (l : List Int) : ∀ e ∈ l.map encI, e.all AV.one = true := by
  simp only [List.mem_map]
  rintro _ ⟨x, _, rfl⟩
  rfl
set_option maxHeartbeats 4000000 in
theorem leaves_ok : ∀ (d : Nat) (t : Tr), d ≤ 4 → t.Ok → Quiet Go.Proofs.Try.prog 113 [.agg (encT t), .int ((5 - d : Nat) : Int)] (.tup [.sl ((lvsT d t).1.map encI), .bool (lvsT d t).2])
  | 0, .mk o l, _, _ => by
    refine quiet_of (rs := #[.tmp 4, .tmp 5]) Go.Proofs.Try.func113 rfl rfl rfl mixed rfl rfl fun H hs => ?_
    simp -implicitDefEqProofs only [push_cast, Nat.reduceAdd, Nat.reduceSub, Nat.reduceMul, Nat.reduceLT, Nat.reduceLeDiff, Nat.reduceEqDiff, Nat.reduceBEq, reduceCtorEq, reduceIte, Int.reduceLE, Int.reduceLT, Int.reduceNeg, Int.reduceToNat, lvsT, List.map_nil, Int.reduceAdd]
  | d + 1, .mk o [], hd, ht => by
    have hd0 : (4 < ((5 - (d + 1) : Nat) : Int)) = False := by simp; omega
    refine quiet_of (rs := #[.tmp 4, .tmp 5]) Go.Proofs.Try.func113 rfl rfl rfl mixed rfl rfl fun H hs => ?_
    rw [lvsT_nil]
    simp -implicitDefEqProofs only [push_cast, Nat.reduceAdd, Nat.reduceSub, Nat.reduceMul, Nat.reduceLT, Nat.reduceLeDiff, Nat.reduceEqDiff, Nat.reduceBEq, reduceCtorEq, reduceIte, Int.reduceLE, Int.reduceLT, Int.reduceNeg, Int.reduceToNat, hd0, List.length_nil, List.map_nil, Int.reduceEq]
    refine areg_at 12 (by kernel_rfl) (by kernel_rfl) ?_
    simp -implicitDefEqProofs only [push_cast, Nat.reduceAdd, Nat.reduceSub, Nat.reduceMul, Nat.reduceLT, Nat.reduceLeDiff, Nat.reduceEqDiff, Nat.reduceBEq, reduceCtorEq, reduceIte, Int.reduceLE, Int.reduceLT, Int.reduceNeg, Int.reduceToNat]
    exact sealL_pure _ _ _ (by simp [PureL, Pure])
  | d + 1, .mk o [a], hd, ht => by
    have hd0 : (4 < ((5 - (d + 1) : Nat) : Int)) = False := by simp; omega
    refine quiet_of (rs := #[.tmp 4, .tmp 5]) Go.Proofs.Try.func113 rfl rfl rfl mixed rfl rfl fun H hs => ?_
    rw [lvsT_one]
    simp -implicitDefEqProofs only [push_cast, Nat.reduceAdd, Nat.reduceSub, Nat.reduceMul, Nat.reduceLT, Nat.reduceLeDiff, Nat.reduceEqDiff, Nat.reduceBEq, reduceCtorEq, reduceIte, Int.reduceLE, Int.reduceLT, Int.reduceNeg, Int.reduceToNat, hd0, List.length_cons, List.length_nil, List.map_nil, List.map_cons, Int.reduceEq, Int.reduceAdd]
  | d + 1, .mk o (a :: b :: c :: l), hd, ht => by
    have hd0 : (4 < ((5 - (d + 1) : Nat) : Int)) = False := by simp; omega
    have e0 : ((l.length : Int) + 1 + 1 + 1 = 0) = False := by simp; omega
    have e2 : ((l.length : Int) + 1 + 1 + 1 = 2) = False := by simp; omega
    refine quiet_of (rs := #[.tmp 4, .tmp 5]) Go.Proofs.Try.func113 rfl rfl rfl mixed rfl rfl fun H hs => ?_
    rw [lvsT_more]
    simp -implicitDefEqProofs only [push_cast, Nat.reduceAdd, Nat.reduceSub, Nat.reduceMul, Nat.reduceLT, Nat.reduceLeDiff, Nat.reduceEqDiff, Nat.reduceBEq, reduceCtorEq, reduceIte, Int.reduceLE, Int.reduceLT, Int.reduceNeg, Int.reduceToNat, hd0, List.length_cons, List.length_nil, List.map_nil, List.map_cons, e0, e2]
  | d + 1, .mk o [a, b], hd, ht => by
    have hd0 : (4 < ((5 - (d + 1) : Nat) : Int)) = False := by simp; omega
    obtain ⟨_, hlo⟩ := ht
    have ha := leaves_ok d a (by omega) (hlo _ (by simp))
    have hb := leaves_ok d b (by omega) (hlo _ (by simp))
    have la := lvsT_len d a (by omega)
    have lb := lvsT_len d b (by omega)
    have hp := pow_16 (d := d) (by omega)
    have hw : IntKind.wrap .i64 (((5 - (d + 1) : Nat) : Int) + 1) = ((5 - d : Nat) : Int) := by rw [wrap64 (by omega) (by omega)]; omega
    refine quiet_of (rs := #[.tmp 4, .tmp 5]) Go.Proofs.Try.func113 rfl rfl rfl mixed rfl rfl fun H hs => ?_
    rw [lvsT_two]
    by_cases ho : o = 0
    · have ho' : (o = 0) = True := by simp [ho]
      rw [if_pos ho]
      simp -implicitDefEqProofs only [push_cast, Nat.reduceAdd, Nat.reduceSub, Nat.reduceMul, Nat.reduceLT, Nat.reduceLeDiff, Nat.reduceEqDiff, Nat.reduceBEq, reduceCtorEq, reduceIte, Int.reduceLE, Int.reduceLT, Int.reduceNeg, Int.reduceToNat, hd0, hw, ho', List.length_cons, List.length_nil, List.map_nil, List.map_cons, Int.reduceEq, Int.reduceAdd]
      refine callq ha ?_
      simp -implicitDefEqProofs only [push_cast, Nat.reduceAdd, Nat.reduceSub, Nat.reduceMul, Nat.reduceLT, Nat.reduceLeDiff, Nat.reduceEqDiff, Nat.reduceBEq, reduceCtorEq, reduceIte, Int.reduceLE, Int.reduceLT, Int.reduceNeg, Int.reduceToNat, hd0, hw, List.length_cons, List.length_nil, Int.reduceEq, Int.reduceAdd]
      refine callq hb ?_
      simp -implicitDefEqProofs only [push_cast, Nat.reduceAdd, Nat.reduceSub, Nat.reduceMul, Nat.reduceLT, Nat.reduceLeDiff, Nat.reduceEqDiff, Nat.reduceBEq, reduceCtorEq, reduceIte, Int.reduceLE, Int.reduceLT, Int.reduceNeg, Int.reduceToNat]
      refine ⟨⟨isL1 _, by omega⟩, ⟨isL1 _, isA1 _, by omega⟩, by simp, ?_⟩
      rw [List.take_of_length_le (l := (lvsT d a).1.map encI) (by simp), List.take_of_length_le (by simp), ← List.map_append]
      exact sealLL_pure _ _ _ (encIs_pure _)
    · have ho' : (o = 0) = False := by simp [ho]
      rw [if_neg ho]
      simp -implicitDefEqProofs only [push_cast, Nat.reduceAdd, Nat.reduceSub, Nat.reduceMul, Nat.reduceLT, Nat.reduceLeDiff, Nat.reduceEqDiff, Nat.reduceBEq, reduceCtorEq, reduceIte, Int.reduceLE, Int.reduceLT, Int.reduceNeg, Int.reduceToNat, hd0, hw, ho', List.length_cons, List.length_nil, List.map_nil, List.map_cons, Int.reduceEq, Int.reduceAdd]
end
section
attribute [local push_cast] encT_mk encT_take encT_len encT_one encTs_pure encT_pure encJ_eq encJs_pure
theorem HasJ_ok (l : List Jb) (j : Jb) (hl : l.length ≤ 1000000) : Quiet Go.Proofs.Try.prog 37 [.sl (l.map encJ), .agg (encJ j)] (.bool (l.any fun k => eqJ k j)) := by
  refine quiet_of (rs := #[.tmp 4]) Go.Proofs.Try.func37 rfl rfl rfl mixed rfl rfl fun H hs => ?_
  push_cast -implicitDefEqProofs [eq_self, iff_self]
  refine loop_at hs (σ := Nat) (fun i => i ≤ l.length ∧ (l.drop i).any (fun k => eqJ k j) = l.any fun k => eqJ k j) (fun i => l.length - i)
    (fun i => [(5, .int i), (0, .sl (l.map encJ)), (3, .ptr (H.nxt + 0) 3 0 0)]) (fun i => [some (.cells 3 [encJ j] 0)]) [some 0] 0 ⟨by omega, rfl⟩ rfl ?_ ?_ ?_
  · (try push_cast -implicitDefEqProofs [eq_self, iff_self])
  · (try push_cast -implicitDefEqProofs [eq_self, iff_self])
  rintro i ⟨hi2, hany⟩
  by_cases hi : i < l.length
  · have hi' : ((i : Int) < (l.length : Int)) = True := by simp; omega
    have hi0 : (0 ≤ (i : Int)) = True := by simp
    have hget : (l.map encJ).getD i [] = encJ l[i] := by rw [List.getD_eq_getElem?_getD, List.getElem?_map, List.getElem?_eq_getElem hi]; rfl
    rw [List.drop_eq_getElem_cons hi, List.any_cons] at hany
    generalize l[i] = x at hget hany
    push_cast -implicitDefEqProofs [eq_self, iff_self, hi', hi0, hget]
    refine areg_at 6 (by kernel_rfl) (by kernel_rfl) ?_
    have hcm := cmpJ x.mv j.mv x.e x.f j.e j.f
    have hco : (x.mv == j.mv && (decide (x.e = j.e) && (decide (x.f = j.f) && true))) = eqJ x j := rfl
    rw [hco] at hcm
    rw [Bool.and_true] at hco
    cases h : eqJ x j
    · rw [h, Bool.false_or] at hany
      rw [h] at hcm hco
      push_cast -implicitDefEqProofs [eq_self, iff_self, hi', hi0, hget, lits, cellsEq, cellEq, hcm, hco]
      rw [wrap64 (n := (i : Int) + 1) (by omega) (by omega)]
      refine next_at [some 0] (i + 1) ⟨by omega, hany⟩ (by omega) rfl ?_ ?_
      · (try push_cast -implicitDefEqProofs [eq_self, iff_self])
      · (try push_cast -implicitDefEqProofs [eq_self, iff_self])
    · rw [h, Bool.true_or] at hany
      rw [h] at hcm hco
      push_cast -implicitDefEqProofs [eq_self, iff_self, hi', hi0, hget, lits, cellsEq, cellEq, hcm, hco, ← hany]
  · have hi' : ((i : Int) < (l.length : Int)) = False := by simp; omega
    rw [List.drop_eq_nil_of_le (by omega), List.any_nil] at hany
    push_cast -implicitDefEqProofs [eq_self, iff_self, hi', ← hany]
end
section
attribute [local push_cast] encIs_pure encNs_pure encN_eq encM_eq encJ_eq encJs_pure plus_obj0 plus_set0 piL_is00 piL_is0 piL_isk encIs_one encNs_four encJs_three
set_option maxHeartbeats 4000000 in
theorem JobsR_ok (m : Mm) (hsm : m.Small) : Quiet Go.Proofs.Try.prog 27 [encM m] (.sl (m.jobs.map encJ)) := by
  refine quiet_of (rs := #[.tmp 2]) Go.Proofs.Try.func27 rfl rfl rfl mixed rfl rfl fun H hs => ?_
  push_cast -implicitDefEqProofs [eq_self, iff_self]
  refine callq (mayR_ok m hsm) ?_
  cases hmay : m.may with
  | false =>
    have hj : m.jobs = [] := by rw [jobs_def, hmay]; rfl
    rw [hj]
    push_cast -implicitDefEqProofs [eq_self, iff_self]
    refine loop_at hs (σ := Nat) (fun i => i = 0) (fun i => i) (fun i => [(5, .int i), (4, .bool false), (3, .rsl (H.nxt + 1) 3 0 0), (1, .ptr (H.nxt + 0) 3 0 0)]) (fun i => [some (.cells 3 [[.sl (m.N.map encN), .sl (m.G.map encI), .sl (m.P.map encI)]] 0), some (.cells 3 [] 0)]) [some 0, none] 0 rfl rfl ?_ ?_ ?_
    · (try push_cast -implicitDefEqProofs [eq_self, iff_self])
    · (try push_cast -implicitDefEqProofs [eq_self, iff_self])
    rintro i rfl
    push_cast -implicitDefEqProofs [eq_self, iff_self, List.length_map, List.map_nil]
  | true =>
  have hf := may_f hmay
  have hP := form_P hf
  have hRl := rootsS_len hP
  have hGl := ((form_iff m).1 hf).2.1
  have hNl := ((form_iff m).1 hf).2.2.1
  have hj0 : m.jobs = m.jobs0 := by rw [jobs_def, hmay]; rfl
  rw [hj0]
  push_cast -implicitDefEqProofs [eq_self, iff_self]
  refine loop_at hs (σ := Nat) (fun i => i ≤ m.N.length) (fun i => m.N.length - i)
    (fun i => [(5, .int i), (4, .bool true), (3, .rsl (H.nxt + 1) 3 0 (jobsUp m i).length), (1, .ptr (H.nxt + 0) 3 0 0)])
    (fun i => [some (.cells 3 [[.sl (m.N.map encN), .sl (m.G.map encI), .sl (m.P.map encI)]] 0), some (.cells 3 ((jobsUp m i).map encJ) 0)]) [some 0, none] 0 (by omega) rfl ?_ ?_ ?_
  · (try push_cast -implicitDefEqProofs [eq_self, iff_self, show jobsUp m 0 = [] from rfl])
  · (try push_cast -implicitDefEqProofs [eq_self, iff_self, show jobsUp m 0 = [] from rfl])
  intro i hi2
  by_cases hi : i < m.N.length
  · have hi' : ((i : Int) < (m.N.length : Int)) = True := by simp; omega
    have hi0 : (0 ≤ (i : Int)) = True := by simp
    have hget := encN_get m.N i hi
    have hsucc := jobsUp_succ m i
    have hat := jobsAt_def m i
    have hlen : (jobsUp m i).length ≤ 400 * 401 := Nat.le_trans (jobsUp_len m i) (Nat.mul_le_mul (by omega) (by omega))
    cases hj : (m.N.getD i nd0).jn with
    | false =>
      rw [hat, hj, if_neg (by decide), List.append_nil] at hsucc
      push_cast -implicitDefEqProofs [eq_self, iff_self, hi', hi0, hget, hj, List.length_map]
      rw [wrap64 (by omega) (by omega)]
      refine next_at [some 0, some 1] (i + 1) (by omega) (by omega) rfl ?_ ?_
      · (try push_cast -implicitDefEqProofs [eq_self, iff_self, hsucc])
      · (try push_cast -implicitDefEqProofs [eq_self, iff_self, hsucc])
    | true =>
      rw [hat, hj, if_pos rfl] at hsucc
      have hnode := node_join (form_N hf hi) hj
      have fa := findR_ok m hsm (m.N.getD i nd0).a
      have era : m.find (m.N.getD i nd0).a = (rootsS m.P).getD (m.N.getD i nd0).a.toNat 0 := by
        rw [rootsS_at hP (by omega), Mm.find, findS, if_pos (by rw [hP, decide_eq_true hnode.2.1.1, decide_eq_true hnode.2.1.2]; rfl)]
      rw [era] at fa
      have hl0 : ∀ k, k ≤ m.N.length → (rowJ m i k).length ≤ 200000 := fun k hk => by
        have := jobsTo_len m i k
        rw [rowJ, List.length_append, List.length_cons]; omega
      have hlk : (rowJ m i 0).length = (jobsUp m i).length + 1 := by rw [rowJ, List.length_append]; rfl
      have hrow0 : List.take (jobsUp m i).length ((jobsUp m i).map encJ) ++ [[AV.lit (.bool false), .lit (.int .i64 (i : Int)), .lit (.int .i64 0)]] = (rowJ m i 0).map encJ := by
        rw [List.take_of_length_le (by simp), rowJ, List.map_append]; rfl
      push_cast -implicitDefEqProofs [eq_self, iff_self, hi', hi0, hget, hj, List.length_map]
      refine ⟨by omega, ?_⟩
      refine loop_at hs (σ := Nat) (fun k => k ≤ m.N.length) (fun k => m.N.length - k)
        (fun k => [(6, .int k), (5, .int i), (4, .bool true), (3, .rsl (H.nxt + 1) 3 0 (rowJ m i k).length), (1, .ptr (H.nxt + 0) 3 0 0)])
        (fun k => [some (.cells 3 [[.sl (m.N.map encN), .sl (m.G.map encI), .sl (m.P.map encI)]] 0), some (.cells 3 ((rowJ m i k).map encJ) 0)]) [some 0, some 3] 0 (by omega) rfl ?_ ?_ ?_
      · (try push_cast -implicitDefEqProofs [eq_self, iff_self, hlk])
      · (try push_cast -implicitDefEqProofs [eq_self, iff_self, hrow0, hj])
      intro k hk2
      by_cases hk : k < m.N.length
      · have hk' : ((k : Int) < (m.N.length : Int)) = True := by simp; omega
        have hk0 : (0 ≤ (k : Int)) = True := by simp
        have hkG : ((k : Int) < (m.G.length : Int)) = True := by simp; omega
        have hgk := encN_get m.N k hk
        have hg1 := int_at (p := m.G) (i := k) (by omega)
        have fk := findR_ok m hsm (m.G.getD k 0)
        rw [show m.find (m.G.getD k 0) = m.rg k from find_rg hf hk] at fk
        have hts := jobsTo_succ m i k
        have hrs : rowJ m i (k + 1) = if ((m.N.getD k nd0).jn && decide (m.rg k = (rootsS m.P).getD (m.N.getD i nd0).a.toNat 0)) = true then rowJ m i k ++ [⟨true, i, k⟩] else rowJ m i k := by
          rw [rowJ, hts]
          split
          · rw [rowJ, List.append_assoc]; rfl
          · rfl
        have hlk := hl0 k hk2
        generalize (rootsS m.P).getD (m.N.getD i nd0).a.toNat 0 = ra at fa hrs
        generalize m.rg k = rk at fk hrs
        push_cast -implicitDefEqProofs [eq_self, iff_self, hk', List.length_map]
        refine areg_at 24 (by kernel_rfl) (by kernel_rfl) ?_
        push_cast -implicitDefEqProofs [eq_self, iff_self, hk', hk0, hgk, List.length_map]
        cases hjk : (m.N.getD k nd0).jn with
        | false =>
          rw [hjk, Bool.false_and, if_neg (by decide)] at hrs
          push_cast -implicitDefEqProofs [eq_self, iff_self, hjk, hk0, hkG, hg1, hi', hi0, hget, List.length_map]
          repeat (refine gcallq .any (fun h => Bool.noConfusion h) ?_; push_cast -implicitDefEqProofs [eq_self, iff_self, hjk, hk0, hkG, hg1, hi', hi0, hget, List.length_map])
          rw [wrap64 (by omega) (by omega)]
          refine next_at [some 0, some 1] (k + 1) (by omega) (by omega) rfl ?_ ?_
          · (try push_cast -implicitDefEqProofs [eq_self, iff_self, hrs])
          · (try push_cast -implicitDefEqProofs [eq_self, iff_self, hrs])
        | true =>
          rw [hjk, Bool.true_and] at hrs
          push_cast -implicitDefEqProofs [eq_self, iff_self, hjk, hk0, hkG, hg1, hi', hi0, hget, List.length_map]
          refine gcallq (.int rk) (fun _ => fk) ?_
          push_cast -implicitDefEqProofs [eq_self, iff_self, hjk, hk0, hkG, hg1, hi', hi0, hget, List.length_map]
          refine gcallq (.int ra) (fun _ => fa) ?_
          by_cases he : rk = ra
          · have he' : decide (rk = ra) = true := decide_eq_true he
            rw [he', if_pos rfl] at hrs
            have hln : (rowJ m i (k + 1)).length = (rowJ m i k).length + 1 := by rw [hrs]; simp
            have hrow : List.take (rowJ m i k).length ((rowJ m i k).map encJ) ++ [[AV.lit (.bool true), .lit (.int .i64 (i : Int)), .lit (.int .i64 (k : Int))]] = (rowJ m i (k + 1)).map encJ := by
              rw [List.take_of_length_le (by simp), hrs, List.map_append]; rfl
            push_cast -implicitDefEqProofs [eq_self, iff_self, he', hjk, hk0, hkG, hg1, hi', hi0, hget, List.length_map]
            rw [wrap64 (by omega) (by omega)]
            refine ⟨by omega, ?_⟩
            refine next_at [some 0, some 3] (k + 1) (by omega) (by omega) rfl ?_ ?_
            · (try push_cast -implicitDefEqProofs [eq_self, iff_self, hln])
            · (try push_cast -implicitDefEqProofs [eq_self, iff_self, hrow])
          · have he' : decide (rk = ra) = false := decide_eq_false he
            rw [he', if_neg (by decide)] at hrs
            push_cast -implicitDefEqProofs [eq_self, iff_self, he', hjk, hk0, hkG, hg1, hi', hi0, hget, List.length_map]
            rw [wrap64 (by omega) (by omega)]
            refine next_at [some 0, some 1] (k + 1) (by omega) (by omega) rfl ?_ ?_
            · (try push_cast -implicitDefEqProofs [eq_self, iff_self, hrs])
            · (try push_cast -implicitDefEqProofs [eq_self, iff_self, hrs])
      · have hk' : ((k : Int) < (m.N.length : Int)) = False := by simp; omega
        obtain rfl : k = m.N.length := by omega
        have hrow : rowJ m i m.N.length = jobsUp m (i + 1) := by rw [hsucc]; rfl
        push_cast -implicitDefEqProofs [eq_self, iff_self, hk', List.length_map]
        rw [wrap64 (by omega) (by omega)]
        refine next_at [some 0, some 1] (i + 1) (by omega) (by omega) rfl ?_ ?_
        · (try push_cast -implicitDefEqProofs [eq_self, iff_self, hrow])
        · (try push_cast -implicitDefEqProofs [eq_self, iff_self, hrow])
  · have hi' : ((i : Int) < (m.N.length : Int)) = False := by simp; omega
    obtain rfl : i = m.N.length := by omega
    have hcap : List.take (jobsUp m m.N.length).length ((jobsUp m m.N.length).map encJ) = (jobsUp m m.N.length).map encJ := List.take_of_length_le (by simp)
    rw [jobs0_up]
    push_cast -implicitDefEqProofs [eq_self, iff_self, hi', List.length_map, hcap]
theorem jobs_few (m : Mm) : m.jobs.length ≤ 1000000 := by
  rw [jobs_def]
  split
  · rename_i hm
    have h1 := ((form_iff m).1 (may_f hm)).2.2.1
    rw [jobs0_up]
    have := jobsUp_len m m.N.length
    have h3 : m.N.length * (m.N.length + 1) ≤ 400 * 401 := Nat.mul_le_mul (by omega) (by omega)
    omega
  · simp
set_option maxHeartbeats 4000000 in
theorem DoR_ok (m : Mm) (hsm : m.Small) (j : Jb) : Quiet Go.Proofs.Try.prog 21 [encM m, .agg (encJ j)] (.tup [encM (m.doJ j).1, .int (m.doJ j).2]) := by
  have hJs := JobsR_ok m hsm
  have hH := HasJ_ok m.jobs j (jobs_few m)
  refine quiet_of (rs := #[.cell 4 25, .tmp 5]) Go.Proofs.Try.func21 rfl rfl rfl mixed rfl rfl fun H hs => ?_
  push_cast -implicitDefEqProofs [eq_self, iff_self]
  refine areg_at 4 (by kernel_rfl) (by kernel_rfl) ?_
  push_cast -implicitDefEqProofs [eq_self, iff_self]
  refine ahdq hJs ?_
  push_cast -implicitDefEqProofs [eq_self, iff_self]
  refine ahdq hH ?_
  cases hany : m.jobs.any fun k => eqJ k j with
  | false =>
    have hd : m.doJ j = (m, 1) := by unfold Mm.doJ; rw [hany]; rfl
    rw [hd]
    push_cast -implicitDefEqProofs [eq_self, iff_self]
  | true =>
  obtain ⟨hmay, hj0⟩ := jobs_any.1 hany
  have hd : m.doJ j = m.do0 j := by unfold Mm.doJ; rw [hany]; rfl
  rw [hd, do0_def]
  have hf := may_f hmay
  have hGl := ((form_iff m).1 hf).2.1
  obtain ⟨p1, p2, p3, p4⟩ := job_places hj0
  clear hJs hH hany hj0 hd
  obtain ⟨mv, e, f⟩ := j
  dsimp only at p1 p2 p3 p4
  obtain ⟨e, rfl⟩ : ∃ k : Nat, e = k := ⟨e.toNat, by omega⟩
  obtain ⟨f, rfl⟩ : ∃ k : Nat, f = k := ⟨f.toNat, by omega⟩
  have ge := encN_get m.N e (by omega)
  have gf := encN_get m.N f (by omega)
  have gG := int_at (p := m.G) (i := e) (by omega)
  have e0 : (0 ≤ (e : Int)) = True := by simp
  have f0 : (0 ≤ (f : Int)) = True := by simp
  have eN := inb_true (n := e) (k := m.N.length) (by omega)
  have fN := inb_true (n := f) (k := m.N.length) (by omega)
  have eG := inb_true (n := e) (k := m.G.length) (by omega)
  cases mv with
  | false =>
    have hP1 := putR_ok m hsm (ndJ (m.N.getD e nd0).b (m.N.getD e nd0).a) (m.G.getD e 0)
    rw [if_neg Bool.false_ne_true]
    rw [show m.do1 ⟨false, e, f⟩ = m.put (ndJ (m.N.getD e nd0).b (m.N.getD e nd0).a) (m.G.getD e 0) from rfl]
    generalize m.put (ndJ (m.N.getD e nd0).b (m.N.getD e nd0).a) (m.G.getD e 0) = q at hP1
    obtain ⟨x, k, c⟩ := q
    generalize m.N.getD e nd0 = ne at ge hP1
    generalize m.G.getD e 0 = Ge at gG hP1
    push_cast -implicitDefEqProofs [eq_self, iff_self, e0, eN, ge, List.length_map]
    refine areg_at 20 (by kernel_rfl) (by kernel_rfl) ?_
    push_cast -implicitDefEqProofs [eq_self, iff_self, e0, eG, gG, List.length_map]
    refine ahdq hP1 ?_
    push_cast -implicitDefEqProofs [eq_self, iff_self]
  | true =>
    have hP2 := putR_ok m hsm (ndJ (m.N.getD f nd0).b (m.N.getD e nd0).b) (-1)
    rw [if_pos rfl]
    have e2 : m.do2 ⟨true, e, f⟩ = m.put (ndJ (m.N.getD f nd0).b (m.N.getD e nd0).b) (-1) := rfl
    have e3 : m.do3 ⟨true, e, f⟩ = (m.do2 ⟨true, e, f⟩).1.put (ndJ (m.N.getD f nd0).a (m.do2 ⟨true, e, f⟩).2.1) (m.G.getD e 0) := rfl
    have hfew := put_lens m (ndJ (m.N.getD f nd0).b (m.N.getD e nd0).b) (-1)
    rw [e3, e2]
    generalize m.put (ndJ (m.N.getD f nd0).b (m.N.getD e nd0).b) (-1) = q at hP2 hfew
    obtain ⟨x, k, c⟩ := q
    dsimp only at hfew
    have hxs : x.Small := by
      have h1 := ((form_iff m).1 hf).2.2.1
      have h2 := mayS_max (form_P hf)
      have h3 : m.G.length ≤ 400 := by omega
      unfold Mm.Small
      omega
    have hP3 := putR_ok x hxs (ndJ (m.N.getD f nd0).a k) (m.G.getD e 0)
    dsimp only
    generalize x.put (ndJ (m.N.getD f nd0).a k) (m.G.getD e 0) = q at hP3
    obtain ⟨y, l, d⟩ := q
    generalize m.N.getD e nd0 = ne at ge hP2
    generalize m.N.getD f nd0 = nf at gf hP2 hP3
    generalize m.G.getD e 0 = Ge at gG hP3
    push_cast -implicitDefEqProofs [eq_self, iff_self, e0, eN, ge, f0, fN, gf, List.length_map]
    refine callq hP2 ?_
    by_cases hc : c = 0
    · rw [if_pos hc]
      subst hc
      push_cast -implicitDefEqProofs [eq_self, iff_self]
      refine areg_at 19 (by kernel_rfl) (by kernel_rfl) ?_
      push_cast -implicitDefEqProofs [eq_self, iff_self, e0, eG, gG, List.length_map]
      refine ahdq hP3 ?_
      by_cases hd : d = 0
      · rw [if_pos hd]
        subst hd
        push_cast -implicitDefEqProofs [eq_self, iff_self]
      · have hd' : decide (d = 0) = false := decide_eq_false hd
        rw [if_neg hd]
        push_cast -implicitDefEqProofs [eq_self, iff_self, hd']
    · have hc' : decide (c = 0) = false := decide_eq_false hc
      rw [if_neg hc]
      push_cast -implicitDefEqProofs [eq_self, iff_self, hc']
theorem SameR_self (m : Mm) (hsm : m.Small) : Quiet Go.Proofs.Try.prog 23 [encM m, encM m] (.bool (mayS m.P)) := by
  have hSP := SameR15_ok m.P m.P hsm.2.2 hsm.2.2
  have hv : sameS m.P m.P = mayS m.P := by rw [sameS_cut]; cases mayS m.P <;> simp
  rw [hv] at hSP
  refine quiet_of (rs := #[.tmp 4]) Go.Proofs.Try.func23 rfl rfl rfl mixed rfl rfl fun H hs => ?_
  push_cast -implicitDefEqProofs [eq_self, iff_self, List.length_map]
  refine loop_at hs (σ := Nat) (fun i => i ≤ m.N.length) (fun i => m.N.length - i)
    (fun i => [(5, .int i), (2, .ptr (H.nxt + 0) 3 0 0), (3, .ptr (H.nxt + 1) 3 0 0)]) (fun i => [some (.cells 3 [[.sl (m.N.map encN), .sl (m.G.map encI), .sl (m.P.map encI)]] 0), some (.cells 3 [[.sl (m.N.map encN), .sl (m.G.map encI), .sl (m.P.map encI)]] 0)]) [some 0, some 1] 0 (by omega) rfl ?_ ?_ ?_
  · (try push_cast -implicitDefEqProofs [eq_self, iff_self])
  · (try push_cast -implicitDefEqProofs [eq_self, iff_self])
  intro i hi2
  by_cases hi : i < m.N.length
  · have hi' := inb_true hi
    have hi0 : (0 ≤ (i : Int)) = True := by simp
    have gn := encN_get m.N i hi
    generalize m.N.getD i nd0 = n at gn
    have hcm := cmpN n.jn n.jn n.occ n.a n.b n.occ n.a n.b
    have hco : (n.jn == n.jn && (decide (n.occ = n.occ) && (decide (n.a = n.a) && (decide (n.b = n.b) && true)))) = true := by simp
    rw [hco] at hcm
    push_cast -implicitDefEqProofs [eq_self, iff_self, hi', List.length_map]
    refine areg_at 11 (by kernel_rfl) (by kernel_rfl) ?_
    push_cast -implicitDefEqProofs [eq_self, iff_self, hi', hi0, gn, List.length_map, lits, cellsEq, cellEq, hcm, hco]
    rw [wrap64 (by have := hsm.1; omega) (by have := hsm.1; omega)]
    refine next_at [some 0, some 1] (i + 1) (by omega) (by omega) rfl ?_ ?_
    · (try push_cast -implicitDefEqProofs [eq_self, iff_self])
    · (try push_cast -implicitDefEqProofs [eq_self, iff_self])
  have hi' : ((i : Int) < m.N.length) = False := eq_false (by omega)
  push_cast -implicitDefEqProofs [eq_self, iff_self, hi', List.length_map]
  refine loop_at hs (σ := Nat) (fun i => i ≤ m.G.length) (fun i => m.G.length - i)
    (fun i => [(6, .int i), (2, .ptr (H.nxt + 0) 3 0 0), (3, .ptr (H.nxt + 1) 3 0 0)]) (fun i => [some (.cells 3 [[.sl (m.N.map encN), .sl (m.G.map encI), .sl (m.P.map encI)]] 0), some (.cells 3 [[.sl (m.N.map encN), .sl (m.G.map encI), .sl (m.P.map encI)]] 0)]) [some 0, some 1] 0 (by omega) rfl ?_ ?_ ?_
  · (try push_cast -implicitDefEqProofs [eq_self, iff_self])
  · (try push_cast -implicitDefEqProofs [eq_self, iff_self])
  intro i hi2
  by_cases hi : i < m.G.length
  · have hi' := inb_true hi
    have hi0 : (0 ≤ (i : Int)) = True := by simp
    have gn := int_at (p := m.G) hi
    generalize m.G.getD i 0 = n at gn
    push_cast -implicitDefEqProofs [eq_self, iff_self, hi', List.length_map]
    refine areg_at 11 (by kernel_rfl) (by kernel_rfl) ?_
    push_cast -implicitDefEqProofs [eq_self, iff_self, hi', hi0, gn, List.length_map]
    rw [wrap64 (by have := hsm.2.1; omega) (by have := hsm.2.1; omega)]
    refine next_at [some 0, some 1] (i + 1) (by omega) (by omega) rfl ?_ ?_
    · (try push_cast -implicitDefEqProofs [eq_self, iff_self])
    · (try push_cast -implicitDefEqProofs [eq_self, iff_self])
  have hi' : ((i : Int) < m.G.length) = False := eq_false (by omega)
  push_cast -implicitDefEqProofs [eq_self, iff_self, hi', List.length_map]
  refine callq hSP ?_
  push_cast -implicitDefEqProofs [eq_self, iff_self]
end
section
attribute [local push_cast] encIs_pure encNs_pure encN_eq encM_eq encJ_eq encJs_pure plus_obj0 plus_set0 piL_is00 piL_is0 piL_isk encIs_one encNs_four encJs_three
theorem same_iff {m k : Mm} : m.same k = true ↔ m.N = k.N ∧ m.G = k.G ∧ sameS m.P k.P = true := by
  rw [same_cut, Bool.and_eq_true, Bool.and_eq_true, eqNs_iff, decide_eq_true_eq, and_assoc]
theorem getD_all {α : Type} {p q : List α} (d : α) (h : p.length = q.length) (hk : ∀ k, k < p.length → p.getD k d = q.getD k d) : p = q := by
  refine List.ext_getElem h fun i h1 h2 => ?_
  have := hk i h1
  rwa [List.getD_eq_getElem?_getD, List.getD_eq_getElem?_getD, List.getElem?_eq_getElem h1, List.getElem?_eq_getElem h2] at this
set_option maxHeartbeats 4000000 in
theorem SameR_ok (m k : Mm) (hsm : m.Small) (hsk : k.Small) : Quiet Go.Proofs.Try.prog 23 [encM m, encM k] (.bool (m.same k)) := by
  have hSP := SameR15_ok m.P k.P hsm.2.2 hsk.2.2
  have hiff := same_iff (m := m) (k := k)
  generalize m.same k = r at hiff
  have hno : ¬ (m.N = k.N ∧ m.G = k.G) → r = false := fun h => by
    cases r with
    | false => rfl
    | true => exact absurd ⟨(hiff.1 rfl).1, (hiff.1 rfl).2.1⟩ h
  refine quiet_of (rs := #[.tmp 4]) Go.Proofs.Try.func23 rfl rfl rfl mixed rfl rfl fun H hs => ?_
  by_cases hN : m.N.length = k.N.length
  case neg =>
    have hN' : decide ((m.N.length : Int) = (k.N.length : Int)) = false := decide_eq_false (by omega)
    have hr := hno (fun h => hN (by rw [h.1]))
    subst hr
    push_cast -implicitDefEqProofs [eq_self, iff_self, hN', List.length_map]
  have hN' : decide ((m.N.length : Int) = (k.N.length : Int)) = true := decide_eq_true (by omega)
  by_cases hG : m.G.length = k.G.length
  case neg =>
    have hG' : decide ((m.G.length : Int) = (k.G.length : Int)) = false := decide_eq_false (by omega)
    have hr := hno (fun h => hG (by rw [h.2]))
    subst hr
    push_cast -implicitDefEqProofs [eq_self, iff_self, hN', hG', List.length_map]
  have hG' : decide ((m.G.length : Int) = (k.G.length : Int)) = true := decide_eq_true (by omega)
  push_cast -implicitDefEqProofs [eq_self, iff_self, hN', hG', List.length_map]
  refine loop_at hs (σ := Nat) (fun i => i ≤ m.N.length ∧ ∀ q, q < i → m.N.getD q nd0 = k.N.getD q nd0) (fun i => m.N.length - i)
    (fun i => [(5, .int i), (2, .ptr (H.nxt + 0) 3 0 0), (3, .ptr (H.nxt + 1) 3 0 0)]) (fun i => [some (.cells 3 [[.sl (m.N.map encN), .sl (m.G.map encI), .sl (m.P.map encI)]] 0), some (.cells 3 [[.sl (k.N.map encN), .sl (k.G.map encI), .sl (k.P.map encI)]] 0)]) [some 0, some 1] 0 ⟨by omega, fun q hq => by omega⟩ rfl ?_ ?_ ?_
  · (try push_cast -implicitDefEqProofs [eq_self, iff_self])
  · (try push_cast -implicitDefEqProofs [eq_self, iff_self])
  rintro i ⟨hi2, hall⟩
  by_cases hi : i < m.N.length
  · have hi' := inb_true hi
    have hi0 : (0 ≤ (i : Int)) = True := by simp
    have hik := inb_true (n := i) (k := k.N.length) (by omega)
    have gn := encN_get m.N i hi
    have gk := encN_get k.N i (by omega)
    have hne : m.N.getD i nd0 ≠ k.N.getD i nd0 → r = false := fun h => hno fun he => h (by rw [he.1])
    have hnx : m.N.getD i nd0 = k.N.getD i nd0 → ∀ q, q < i + 1 → m.N.getD q nd0 = k.N.getD q nd0 := fun h q hq => by
      rcases Nat.lt_succ_iff_lt_or_eq.1 hq with h1 | rfl
      · exact hall q h1
      · exact h
    generalize m.N.getD i nd0 = n at gn hne hnx
    generalize k.N.getD i nd0 = n' at gk hne hnx
    have hcm := cmpN n.jn n'.jn n.occ n.a n.b n'.occ n'.a n'.b
    cases hco : (n.jn == n'.jn && (decide (n.occ = n'.occ) && (decide (n.a = n'.a) && (decide (n.b = n'.b) && true)))) with
    | true =>
      rw [hco] at hcm
      simp only [Bool.and_eq_true, beq_iff_eq, decide_eq_true_eq] at hco
      have he : n = n' := Nd.ext' hco.1 hco.2.1 hco.2.2.1 hco.2.2.2.1
      subst he
      push_cast -implicitDefEqProofs [eq_self, iff_self, hi', List.length_map]
      refine areg_at 11 (by kernel_rfl) (by kernel_rfl) ?_
      push_cast -implicitDefEqProofs [eq_self, iff_self, hi', hi0, hik, gn, gk, List.length_map, lits, cellsEq, cellEq, hcm]
      rw [wrap64 (by have := hsm.1; omega) (by have := hsm.1; omega)]
      refine next_at [some 0, some 1] (i + 1) ⟨by omega, hnx rfl⟩ (by omega) rfl ?_ ?_
      · (try push_cast -implicitDefEqProofs [eq_self, iff_self])
      · (try push_cast -implicitDefEqProofs [eq_self, iff_self])
    | false =>
      rw [hco] at hcm
      have hr := hne (fun h => by rw [h] at hco; simp at hco)
      subst hr
      rw [Bool.and_true] at hco
      push_cast -implicitDefEqProofs [eq_self, iff_self, hi', List.length_map]
      refine areg_at 11 (by kernel_rfl) (by kernel_rfl) ?_
      push_cast -implicitDefEqProofs [eq_self, iff_self, hi', hi0, hik, gn, gk, List.length_map, lits, cellsEq, cellEq, hcm, hco]
  have hi' : ((i : Int) < m.N.length) = False := eq_false (by omega)
  have hNe : m.N = k.N := getD_all nd0 hN fun q hq => hall q (by omega)
  push_cast -implicitDefEqProofs [eq_self, iff_self, hi', List.length_map]
  refine loop_at hs (σ := Nat) (fun i => i ≤ m.G.length ∧ ∀ q, q < i → m.G.getD q 0 = k.G.getD q 0) (fun i => m.G.length - i)
    (fun i => [(6, .int i), (2, .ptr (H.nxt + 0) 3 0 0), (3, .ptr (H.nxt + 1) 3 0 0)]) (fun i => [some (.cells 3 [[.sl (m.N.map encN), .sl (m.G.map encI), .sl (m.P.map encI)]] 0), some (.cells 3 [[.sl (k.N.map encN), .sl (k.G.map encI), .sl (k.P.map encI)]] 0)]) [some 0, some 1] 0 ⟨by omega, fun q hq => by omega⟩ rfl ?_ ?_ ?_
  · (try push_cast -implicitDefEqProofs [eq_self, iff_self])
  · (try push_cast -implicitDefEqProofs [eq_self, iff_self])
  rintro i ⟨hi2, hall⟩
  by_cases hi : i < m.G.length
  · have hi' := inb_true hi
    have hi0 : (0 ≤ (i : Int)) = True := by simp
    have hik := inb_true (n := i) (k := k.G.length) (by omega)
    have gn := int_at (p := m.G) hi
    have gk := int_at (p := k.G) (i := i) (by omega)
    have hne : m.G.getD i 0 ≠ k.G.getD i 0 → r = false := fun h => hno fun he => h (by rw [he.2])
    have hnx : m.G.getD i 0 = k.G.getD i 0 → ∀ q, q < i + 1 → m.G.getD q 0 = k.G.getD q 0 := fun h q hq => by
      rcases Nat.lt_succ_iff_lt_or_eq.1 hq with h1 | rfl
      · exact hall q h1
      · exact h
    generalize m.G.getD i 0 = n at gn hne hnx
    generalize k.G.getD i 0 = n' at gk hne hnx
    push_cast -implicitDefEqProofs [eq_self, iff_self, hi', List.length_map]
    refine areg_at 11 (by kernel_rfl) (by kernel_rfl) ?_
    by_cases he : n = n'
    · subst he
      push_cast -implicitDefEqProofs [eq_self, iff_self, hi', hi0, hik, gn, gk, List.length_map]
      rw [wrap64 (by have := hsm.2.1; omega) (by have := hsm.2.1; omega)]
      refine next_at [some 0, some 1] (i + 1) ⟨by omega, hnx rfl⟩ (by omega) rfl ?_ ?_
      · (try push_cast -implicitDefEqProofs [eq_self, iff_self])
      · (try push_cast -implicitDefEqProofs [eq_self, iff_self])
    · have he' : (n = n') = False := eq_false he
      have hr := hne he
      subst hr
      push_cast -implicitDefEqProofs [eq_self, iff_self, hi', hi0, hik, gn, gk, he', List.length_map]
  have hi' : ((i : Int) < m.G.length) = False := eq_false (by omega)
  have hGe : m.G = k.G := getD_all 0 hG fun q hq => hall q (by omega)
  have hr : r = sameS m.P k.P := by
    cases hs : sameS m.P k.P with
    | true => exact hiff.2 ⟨hNe, hGe, hs⟩
    | false =>
      cases r with
      | false => rfl
      | true => rw [(hiff.1 rfl).2.2] at hs; exact hs
  rw [hr]
  push_cast -implicitDefEqProofs [eq_self, iff_self, hi', List.length_map]
  refine callq hSP ?_
  push_cast -implicitDefEqProofs [eq_self, iff_self]
set_option maxHeartbeats 4000000 in
theorem FullR_ok (m : Mm) (hm : m.Small) : Quiet Go.Proofs.Try.prog 30 [encM m] (.bool m.full) := by
  refine quiet_of (rs := #[.tmp 2]) Go.Proofs.Try.func30 rfl rfl rfl mixed rfl rfl fun H hs => ?_
  have hfu := full_def m
  have hjl := jobs_len m
  have hjm : ∀ j ∈ m.jobs, m.may = true ∧ j ∈ m.jobs0 := fun j hj => by
    rw [jobs_def] at hj
    split at hj
    · rename_i h; exact ⟨h, hj⟩
    · cases hj
  have hdj : ∀ j ∈ m.jobs, m.doJ j = m.do0 j := fun j hj => by
    unfold Mm.doJ
    rw [if_pos (jobs_any.2 (hjm j hj))]
  generalize m.full = r at hfu ⊢
  push_cast -implicitDefEqProofs [eq_self, iff_self]
  refine callq (mayR_ok m hm) ?_
  push_cast -implicitDefEqProofs [eq_self, iff_self]
  refine callq (JobsR_ok m hm) ?_
  generalize m.jobs = l at hfu hjl hjm hdj ⊢
  push_cast -implicitDefEqProofs [eq_self, iff_self]
  refine loop_at hs (σ := Nat) (fun i => i ≤ l.length ∧ ∀ k, k < i → (decide ((m.do0 (l.getD k jb0)).2 = 0) && (m.do0 (l.getD k jb0)).1.same m) = true) (fun i => l.length - i)
    (fun i => [(5, .int i), (4, .sl (l.map encJ)), (3, .bool m.may), (1, .ptr (H.nxt + 0) 3 0 0)]) (fun i => [some (.cells 3 [[.sl (m.N.map encN), .sl (m.G.map encI), .sl (m.P.map encI)]] 0)]) [some 0] 0 ⟨by omega, fun k hk => by omega⟩ rfl ?_ ?_ ?_
  · (try push_cast -implicitDefEqProofs [eq_self, iff_self])
  · (try push_cast -implicitDefEqProofs [eq_self, iff_self])
  rintro i ⟨hi2, hall⟩
  by_cases hi : i < l.length
  · have hi' : ((i : Int) < (l.length : Int)) = True := by simp; omega
    have hi0 : (0 ≤ (i : Int)) = True := by simp
    have hget := encJ_get l i hi
    have hmem : l.getD i jb0 ∈ l := getD_mem hi
    have hnext : (decide ((m.do0 (l.getD i jb0)).2 = 0) && (m.do0 (l.getD i jb0)).1.same m) = true → ∀ k, k < i + 1 → (decide ((m.do0 (l.getD k jb0)).2 = 0) && (m.do0 (l.getD k jb0)).1.same m) = true := fun h k hk => by
      rcases Nat.lt_succ_iff_lt_or_eq.1 hk with h1 | h1
      · exact hall k h1
      · rw [h1]; exact h
    have hbad : (decide ((m.do0 (l.getD i jb0)).2 = 0) && (m.do0 (l.getD i jb0)).1.same m) = false → r = false := fun h => by
      rw [hfu, Bool.and_eq_false_iff]
      right
      rw [List.all_eq_false]
      exact ⟨_, hmem, by rw [h]; decide⟩
    have hdo := DoR_ok m hm (l.getD i jb0)
    rw [hdj _ hmem] at hdo
    generalize l.getD i jb0 = j at hget hmem hnext hbad hdo
    have hsm : (m.do0 j).1.Small := do0_few hm j
    generalize m.do0 j = q at hdo hsm hnext hbad
    have hsame := SameR_ok q.1 m hsm hm
    push_cast -implicitDefEqProofs [eq_self, iff_self, hi', hi0, hget, List.length_map]
    refine areg_at 12 (by kernel_rfl) (by kernel_rfl) ?_
    push_cast -implicitDefEqProofs [eq_self, iff_self, hi', hi0, hget, List.length_map]
    refine ahdq hdo ?_
    push_cast -implicitDefEqProofs [eq_self, iff_self]
    refine callq hsame ?_
    push_cast -implicitDefEqProofs [eq_self, iff_self]
    cases h2 : decide (q.2 = 0) with
    | true =>
      have h2' := of_decide_eq_true h2
      rw [h2, Bool.true_and] at hnext hbad
      cases hsm2 : q.1.same m with
      | false =>
        have hr := hbad hsm2
        subst hr
        push_cast -implicitDefEqProofs [eq_self, iff_self, h2']
      | true =>
        push_cast -implicitDefEqProofs [eq_self, iff_self, h2']
        rw [wrap64 (by omega) (by omega)]
        refine next_at [some 0, some 1] (i + 1) ⟨by omega, hnext hsm2⟩ (by omega) rfl ?_ ?_
        · (try push_cast -implicitDefEqProofs [eq_self, iff_self])
        · (try push_cast -implicitDefEqProofs [eq_self, iff_self])
    | false =>
      have h2' := of_decide_eq_false h2
      have hr := hbad (by rw [h2]; rfl)
      subst hr
      push_cast -implicitDefEqProofs [eq_self, iff_self, h2']
  · have hi' : ((i : Int) < (l.length : Int)) = False := by simp; omega
    obtain rfl : i = l.length := by omega
    have hr : r = m.may := by
      rw [hfu, List.all_eq_true.2 (fun x hx => ?_), Bool.and_true]
      obtain ⟨k, hk, rfl⟩ := List.getElem_of_mem hx
      have := hall k hk
      rwa [List.getD_eq_getElem?_getD, List.getElem?_eq_getElem hk] at this
    push_cast -implicitDefEqProofs [eq_self, iff_self, hi', List.length_map]
    rw [hr]
end
section
def turnN (m : Mm) (e : Nat) : Nd := ndJ (nd m e).b (nd m e).a
def moveN (m : Mm) (e f : Nat) : Nd := ndJ (nd m f).b (nd m e).b
def SatT (m w : Mm) (φ : Nat → Nat) (e : Nat) : Prop := HasN w (mapN φ (turnN m e)) (ro w (φ (gi m e)))
def SatM (m w : Mm) (φ : Nat → Nat) (e f : Nat) : Prop := ∃ r, r < w.P.length ∧ HasN w (mapN φ (moveN m e f)) (ro w r) ∧ HasN w (ndJ (φ (nd m f).a.toNat : Nat) (r : Nat)) (ro w (φ (gi m e)))
def Sat (m w : Mm) (φ : Nat → Nat) (j : Jb) : Prop := if j.mv then SatM m w φ j.e.toNat j.f.toNat else SatT m w φ j.e.toNat
theorem nodeJ {m : Mm} {a b : Int} (ha : 0 ≤ a ∧ a < m.P.length) (hb : 0 ≤ b ∧ b < m.P.length) : m.node (ndJ a b) = true := by
  show (if true = true then _ else _) = true
  rw [if_pos rfl]
  simp only [Bool.and_eq_true, decide_eq_true_eq, inG_cut, ndJ]
  exact ⟨⟨trivial, ha⟩, hb⟩
theorem G_in {m : Mm} (hf : m.form = true) {e : Nat} (he : e < m.N.length) : m.G.getD e 0 = ((gi m e : Nat) : Int) ∧ m.inG (m.G.getD e 0) = true ∧ m.G.getD e 0 ≠ -1 := by
  have := form_G hf he
  refine ⟨by unfold gi; omega, ?_, by omega⟩
  rw [inG_cut, Bool.and_eq_true, decide_eq_true_eq, decide_eq_true_eq]
  exact this
structure DoOk (m : Mm) (j : Jb) (x : Mm) : Prop where
  may : x.may = true
  ext : ExtM m x
  nlen : x.N.length ≤ m.N.length + 2
  pn : x.P.length + m.N.length ≤ m.P.length + x.N.length
  sat : Sat m x (fun g => g) j
  least : ∀ w φ, Closed w → HomM m w φ → Sat m w φ j → ∃ φ', (∀ h, h < m.P.length → φ' h = φ h) ∧ HomM x w φ'
  stay : Sat m m (fun g => g) j → x = m
theorem turn_ok {m : Mm} (hm : m.may = true) {e : Nat} (he : e < m.N.length) (hj : (nd m e).jn = true) :
    ((m.do0 ⟨false, e, 0⟩) = (m, 3) ∧ (m.N.length = 400 ∨ m.P.length = 400)) ∨ ((m.do0 ⟨false, e, 0⟩).2 = 0 ∧ DoOk m ⟨false, e, 0⟩ (m.do0 ⟨false, e, 0⟩).1) := by
  have hf := may_f hm
  obtain ⟨_, ha, hb⟩ := node_join (form_N hf he) hj
  obtain ⟨hG, hGi, hG1⟩ := G_in hf he
  have hn : m.node (turnN m e) = true := nodeJ hb ha
  have hd : m.do0 ⟨false, e, 0⟩ = ((m.put (turnN m e) (m.G.getD e 0)).1, (m.put (turnN m e) (m.G.getD e 0)).2.2) := by
    rw [do0_def, if_neg Bool.false_ne_true]; rfl
  rw [hd]
  rcases put_spec hm hn (.inr hGi) with ⟨h1, h2, h3, _⟩ | ⟨k, h1, h2, h3⟩
  · exact .inl ⟨by rw [h1, h2], h3⟩
  · refine .inr ⟨by rw [h1], ?_⟩
    generalize (m.put (turnN m e) (m.G.getD e 0)).1 = x at h2 h3
    have hk := h2.grp hG1
    have hgt : (m.G.getD e 0).toNat = gi m e := rfl
    rw [hgt] at hk h3
    refine ⟨h2.may, h2.ext, by have := h2.nlen; omega, h2.pn, ?_, fun w φ hw h hs => ?_, fun hs => ?_⟩
    · have := h2.has
      rw [hk] at this
      exact this.congr ⟨rfl, fun _ => rfl, fun _ => ⟨rfl, rfl⟩⟩
    · have hge := gi_lt hf he
      obtain ⟨φ', h4, h5, _⟩ := h2.least w φ (φ (gi m e)) hw h (h.lt _ hge) hs (fun _ => by rw [hgt])
      exact ⟨φ', h4, h5⟩
    · have hs' : HasN m (turnN m e) (ro m (gi m e)) := HasN.congr hs ⟨rfl, fun _ => rfl, fun _ => ⟨rfl, rfl⟩⟩
      exact (h3 _ hs' (fun _ => rfl)).1
theorem move_ok {m : Mm} (hm : m.may = true) {e f : Nat} (he : e < m.N.length) (hj : (nd m e).jn = true) (hfl : f < m.N.length) (hfj : (nd m f).jn = true) :
    ((∃ c, c ≠ 0 ∧ m.do0 ⟨true, e, f⟩ = (m, c)) ∧ (399 ≤ m.N.length ∨ 399 ≤ m.P.length)) ∨ ((m.do0 ⟨true, e, f⟩).2 = 0 ∧ DoOk m ⟨true, e, f⟩ (m.do0 ⟨true, e, f⟩).1) := by
  have hf := may_f hm
  obtain ⟨_, ha, hb⟩ := node_join (form_N hf he) hj
  obtain ⟨_, fa, fb⟩ := node_join (form_N hf hfl) hfj
  obtain ⟨hG, hGi, hG1⟩ := G_in hf he
  have hn : m.node (moveN m e f) = true := nodeJ fb hb
  have hd : m.do0 ⟨true, e, f⟩ = (if (m.do2 ⟨true, e, f⟩).2.2 = 0 then (if (m.do3 ⟨true, e, f⟩).2.2 = 0 then ((m.do3 ⟨true, e, f⟩).1, 0) else (m, (m.do3 ⟨true, e, f⟩).2.2)) else (m, (m.do2 ⟨true, e, f⟩).2.2)) := by
    rw [do0_def, if_pos rfl]
  have hd2 : m.do2 ⟨true, e, f⟩ = m.put (moveN m e f) (-1) := rfl
  have hd3 : m.do3 ⟨true, e, f⟩ = (m.do2 ⟨true, e, f⟩).1.put (ndJ (nd m f).a (m.do2 ⟨true, e, f⟩).2.1) (m.G.getD e 0) := rfl
  rw [hd, hd3, hd2]
  rcases put_spec hm hn (.inl rfl) with ⟨h1, h2, h3, _⟩ | ⟨k, h1, h2, h3⟩
  · left
    rw [h1]
    exact ⟨⟨3, by decide, rfl⟩, by omega⟩
  · rw [h1]
    rw [if_pos rfl]
    show (∃ c, c ≠ 0 ∧ (if ((m.put (moveN m e f) (-1)).1.put (ndJ (nd m f).a (k : Int)) (m.G.getD e 0)).2.2 = 0 then _ else _) = (m, c)) ∧ _ ∨ _
    generalize (m.put (moveN m e f) (-1)).1 = y at h2 h3
    have hyf := may_f h2.may
    have hyp := h2.ext.plen
    have hyn := h2.ext.nlen
    have hge := gi_lt hf he
    have hgt : (m.G.getD e 0).toNat = gi m e := rfl
    have hny : y.node (ndJ (nd m f).a (k : Int)) = true := nodeJ ⟨fa.1, by have := fa.2; show (m.N.getD f nd0).a < _; omega⟩ ⟨by omega, by have := h2.lt; omega⟩
    have hGy : y.inG (m.G.getD e 0) = true := by
      rw [inG_cut, Bool.and_eq_true, decide_eq_true_eq, decide_eq_true_eq]
      omega
    rcases put_spec h2.may hny (.inr hGy) with ⟨k1, k2, k3, _⟩ | ⟨l, k1, k2, k3⟩
    · left
      rw [k1]
      exact ⟨⟨3, by decide, rfl⟩, by have := h2.nlen; have := h2.plen; omega⟩
    · right
      rw [k1, if_pos rfl]
      refine ⟨rfl, ?_⟩
      show DoOk m _ (y.put (ndJ (nd m f).a (k : Int)) (m.G.getD e 0)).1
      generalize (y.put (ndJ (nd m f).a (k : Int)) (m.G.getD e 0)).1 = x at k2 k3
      have hl := k2.grp hG1
      rw [hgt] at hl k3
      refine ⟨k2.may, h2.ext.trans hf k2.ext, ?_, ?_, ?_, fun w φ hw h hs => ?_, fun hs => ?_⟩
      · have := h2.nlen; have := k2.nlen; omega
      · have := h2.pn; have := k2.pn; omega
      · refine ⟨k, Nat.lt_of_lt_of_le h2.lt k2.ext.plen, ?_, ?_⟩
        · have hnn : y.node (moveN m e f) = true := nodeJ ⟨fb.1, by have := fb.2; show (m.N.getD f nd0).b < _; omega⟩ ⟨hb.1, by have := hb.2; show (m.N.getD e nd0).b < _; omega⟩
          have hh := h2.has
          rw [← h2.self] at hh
          exact (k2.ext.has hyf hnn h2.lt hh).congr ⟨rfl, fun _ => rfl, fun _ => ⟨rfl, rfl⟩⟩
        · have := k2.has
          rw [hl] at this
          refine this.congr ⟨rfl, fun _ => rfl, fun _ => ⟨rfl, rfl⟩⟩
      · obtain ⟨r, hr, s1, s2⟩ := (show SatM m w φ e f from hs)
        obtain ⟨φ2, a1, a2, a3⟩ := h2.least w φ r hw h hr s1 (fun hx => absurd rfl hx)
        have ef : φ2 (nd m f).a.toNat = φ (nd m f).a.toNat := a1 _ (by show (m.N.getD f nd0).a.toNat < _; omega)
        have ee : φ2 (gi m e) = φ (gi m e) := a1 _ hge
        obtain ⟨φ3, b1, b2, _⟩ := k2.least w φ2 (φ (gi m e)) hw a2 (h.lt _ hge) (s2.congr ⟨rfl, fun _ => rfl, fun _ => ⟨by show ro w _ = ro w (φ2 (nd m f).a.toNat); rw [ef]; exact congrArg (ro w) (Int.toNat_natCast _), a3.symm⟩⟩) (fun _ => by rw [hgt, ee])
        exact ⟨φ3, fun g hg => (b1 g (Nat.lt_of_lt_of_le hg hyp)).trans (a1 g hg), b2⟩
      · obtain ⟨r, hr, s1, s2⟩ := (show SatM m m (fun g => g) e f from hs)
        have s1' : HasN m (moveN m e f) (ro m r) := s1.congr ⟨rfl, fun _ => rfl, fun _ => ⟨rfl, rfl⟩⟩
        obtain ⟨rfl, rfl⟩ := h3 _ s1' (fun hx => absurd rfl hx)
        refine (k3 (ro y (gi y e)) (s2.congr ⟨rfl, fun _ => rfl, fun _ => ⟨rfl, ?_⟩⟩) (fun _ => rfl)).1
        show ro y r = ro y (ro y r)
        rw [ro_idem hyf hr]
end
section
theorem do_ok {m : Mm} (hm : m.may = true) {j : Jb} (hj : j ∈ m.jobs0) : ((∃ c, c ≠ 0 ∧ m.do0 j = (m, c)) ∧ (399 ≤ m.N.length ∨ 399 ≤ m.P.length)) ∨ ((m.do0 j).2 = 0 ∧ DoOk m j (m.do0 j).1) := by
  obtain ⟨e, he, hjn, h⟩ := mem_jobs0.1 hj
  rcases h with rfl | ⟨f, hfl, hfj, _, rfl⟩
  · rcases turn_ok hm he hjn with ⟨h1, h2⟩ | h
    · exact .inl ⟨⟨3, by decide, h1⟩, by omega⟩
    · exact .inr h
  · exact move_ok hm he hjn hfl hfj
theorem job_at {m : Mm} {j : Jb} (hj : j ∈ m.jobs0) : j.e.toNat < m.N.length ∧ (nd m j.e.toNat).jn = true ∧ (j.mv = true → j.f.toNat < m.N.length ∧ (nd m j.f.toNat).jn = true) := by
  obtain ⟨e, he, hjn, h⟩ := mem_jobs0.1 hj
  rcases h with rfl | ⟨f, hfl, hfj, _, rfl⟩
  · exact ⟨he, hjn, fun h => by cases h⟩
  · exact ⟨he, hjn, fun _ => ⟨hfl, hfj⟩⟩
theorem turnN_ok {m : Mm} (hf : m.form = true) {e : Nat} (he : e < m.N.length) (hj : (nd m e).jn = true) : m.node (turnN m e) = true := by
  obtain ⟨_, ha, hb⟩ := node_join (form_N hf he) hj
  exact nodeJ hb ha
theorem moveN_ok {m : Mm} (hf : m.form = true) {e f : Nat} (he : e < m.N.length) (hj : (nd m e).jn = true) (hfl : f < m.N.length) (hfj : (nd m f).jn = true) : m.node (moveN m e f) = true := by
  obtain ⟨_, ha, hb⟩ := node_join (form_N hf he) hj
  obtain ⟨_, fa, fb⟩ := node_join (form_N hf hfl) hfj
  exact nodeJ fb hb
theorem map_id {m w : Mm} {φ : Nat → Nat} (hφ : ∀ h, h < m.P.length → φ h = h) {n : Nd} (hn : m.node n = true) : sameC w (mapN φ n) n := by
  refine ⟨rfl, fun _ => rfl, fun hj => ?_⟩
  obtain ⟨_, a, b⟩ := node_join hn hj
  have e1 := hφ n.a.toNat (by omega)
  have e2 := hφ n.b.toNat (by omega)
  simp only [mapN, e1, e2, Int.toNat_natCast, and_self]
theorem Sat.ext {m b y : Mm} (hf : m.form = true) (hbf : b.form = true) (hmb : ExtM m b) (h : ExtM b y) {j : Jb} (hj : j ∈ m.jobs0) (hs : Sat m b (fun g => g) j) : Sat m y (fun g => g) j := by
  obtain ⟨he, hjn, hmv⟩ := job_at hj
  have hge := Nat.lt_of_lt_of_le (gi_lt hf he) hmb.plen
  have up : ∀ n, m.node n = true → b.node n = true := fun n hn => node_more hmb.plen hn
  unfold Sat at hs ⊢
  split
  · rename_i hm
    obtain ⟨hfl, hfj⟩ := hmv hm
    rw [if_pos hm] at hs
    obtain ⟨r, hr, s1, s2⟩ := hs
    have hn := moveN_ok hf he hjn hfl hfj
    refine ⟨r, Nat.lt_of_lt_of_le hr h.plen, ?_, ?_⟩
    · exact (h.has hbf (up _ hn) hr (s1.congr (map_id (fun _ _ => rfl) hn))).congr (map_id (m := m) (fun _ _ => rfl) hn).symm
    · obtain ⟨a1, b1⟩ := jn_lt hf hfl hfj
      exact h.has hbf (nodeJ ⟨Int.natCast_nonneg _, by have := hmb.plen; show (((nd m j.f.toNat).a.toNat : Nat) : Int) < _; omega⟩ ⟨by omega, by omega⟩) hge s2
  · rename_i hm
    rw [if_neg hm] at hs
    have hn := turnN_ok hf he hjn
    exact (h.has hbf (up _ hn) hge (HasN.congr hs (map_id (fun _ _ => rfl) hn))).congr (map_id (m := m) (fun _ _ => rfl) hn).symm
open Classical in
open Classical in
end
section
attribute [local push_cast] encIs_pure encNs_pure encN_eq encM_eq encJ_eq encJs_pure plus_obj0 plus_set0 piL_is00 piL_is0 piL_isk encIs_one encNs_four encJs_three
def leftU (done l : List Jb) (i : Nat) : List Jb := (l.take i).filter fun x => !(done.any fun k => eqJ k x)
theorem leftU_succ {done l : List Jb} {i : Nat} (h : i < l.length) : leftU done l (i + 1) = if (done.any fun k => eqJ k (l.getD i jb0)) = true then leftU done l i else leftU done l i ++ [l.getD i jb0] := by
  rw [leftU, List.take_add_one, List.getElem?_eq_getElem h, List.filter_append, List.getD_eq_getElem?_getD, List.getElem?_eq_getElem h]
  simp only [Option.toList_some, Option.getD_some, List.filter_cons, List.filter_nil]
  cases done.any fun k => eqJ k l[i]
  · rfl
  · simp [leftU]
theorem leftU_all (m : Mm) (done : List Jb) : leftU done m.jobs0 m.jobs0.length = leftJ m done := by
  rw [leftU, leftJ, List.take_length]
  refine List.filter_congr fun x _ => ?_
  congr 1
  refine congrArg (fun f => List.any done f) (funext fun k => ?_)
  rw [Bool.eq_iff_iff, eqJ_iff, eqJ_iff]
  exact eq_comm
theorem leftU_len (done l : List Jb) (i : Nat) : (leftU done l i).length ≤ i := by
  have h1 := List.length_filter_le (fun x => !(done.any fun k => eqJ k x)) (l.take i)
  rw [List.length_take] at h1
  rw [leftU]; omega
theorem pick_at (picks : List Int) (d n : Nat) (hn : 0 < n) : ((pickAt (picks.drop d) n : Nat) : Int) = if d < picks.length ∧ 0 < picks.getD d 0 then (picks.getD d 0).tmod n else 0 := by
  by_cases h : d < picks.length
  · rw [List.drop_eq_getElem_cons h]
    have e : picks.getD d 0 = picks[d] := by rw [List.getD_eq_getElem?_getD, List.getElem?_eq_getElem h]; rfl
    rw [e]
    show (((max picks[d] 0 % n).toNat : Nat) : Int) = _
    have h1 := Int.emod_nonneg (max picks[d] 0) (show (n : Int) ≠ 0 by omega)
    rw [Int.toNat_of_nonneg h1]
    by_cases hp : 0 < picks[d]
    · rw [if_pos ⟨h, hp⟩, show max picks[d] 0 = picks[d] by omega, Int.tmod_eq_emod_of_nonneg (by omega)]
    · rw [if_neg (fun h => hp h.2), show max picks[d] 0 = 0 by omega]
      exact Int.zero_emod _
  · rw [List.drop_eq_nil_of_le (by omega), if_neg (fun h' => h h'.1)]
    rfl
structure RrS where
  m : Mm
  done : List Jb
  f : Nat
def rrInv (picks : List Int) (t : Mm × Int × Int) (s : RrS) : Prop := s.m.may = true ∧ s.done.Nodup ∧ (∀ j ∈ s.done, okJob j) ∧ t = runF s.f s.m s.done (picks.drop s.done.length) ∧ 320001 ≤ s.f + s.done.length
theorem rr_next {picks : List Int} {t : Mm × Int × Int} {s : RrS} (h : rrInv picks t s) : ∃ f, s.f = f + 1 ∧
    ((leftJ s.m s.done = [] ∧ t = (s.m, (s.done.length : Int), 0)) ∨
     (∃ j, leftJ s.m s.done ≠ [] ∧ j = (leftJ s.m s.done).getD (pickAt (picks.drop s.done.length) (leftJ s.m s.done).length) jb0 ∧ j ∈ s.m.jobs0 ∧
      (((s.m.do0 j).2 ≠ 0 ∧ t = (s.m, (s.done.length : Int), (s.m.do0 j).2)) ∨ ((s.m.do0 j).2 = 0 ∧ rrInv picks t ⟨(s.m.do0 j).1, s.done ++ [j], f⟩)))) := by
  obtain ⟨h1, h2, h3, h4, h5⟩ := h
  have h6 := done_few h2 h3
  have hform := may_f h1
  obtain ⟨f, hf⟩ : ∃ f, s.f = f + 1 := ⟨s.f - 1, by omega⟩
  refine ⟨f, hf, ?_⟩
  rw [hf, runF] at h4
  by_cases hl : leftJ s.m s.done = []
  · left
    refine ⟨hl, ?_⟩
    rw [h4]
    unfold nextJ
    rw [if_pos hl]
    rfl
  · right
    have hnx : nextJ s.m s.done (picks.drop s.done.length) = ((leftJ s.m s.done).getD (pickAt (picks.drop s.done.length) (leftJ s.m s.done).length) jobD, true, (picks.drop s.done.length).drop 1) := by
      unfold nextJ
      rw [if_neg hl]
    have hnl := next_left (m := s.m) (done := s.done) (picks := picks.drop s.done.length) (by rw [hnx])
    rw [hnx] at h4 hnl
    dsimp only at h4 hnl
    rw [if_pos rfl] at h4
    refine ⟨_, hl, rfl, (mem_left.1 hnl).1, ?_⟩
    show _ ∨ _
    have e : (leftJ s.m s.done).getD (pickAt (picks.drop s.done.length) (leftJ s.m s.done).length) jb0 = (leftJ s.m s.done).getD (pickAt (picks.drop s.done.length) (leftJ s.m s.done).length) jobD := rfl
    rw [e]
    generalize (leftJ s.m s.done).getD (pickAt (picks.drop s.done.length) (leftJ s.m s.done).length) jobD = j at h4 hnl
    obtain ⟨hj, hjd⟩ := mem_left.1 hnl
    by_cases hc : (s.m.do0 j).2 = 0
    · right
      rw [if_pos hc] at h4
      refine ⟨hc, ?_, ?_, ?_, ?_, ?_⟩
      · rcases do_ok h1 hj with ⟨⟨c, hc', h7⟩, _⟩ | ⟨_, h7⟩
        · rw [h7] at hc; exact absurd hc hc'
        · exact h7.may
      · show (s.done ++ [j]).Nodup
        rw [List.nodup_append]
        exact ⟨h2, by simp, fun x hx y hy => by obtain rfl := List.mem_singleton.1 hy; exact fun e => hjd (e ▸ hx)⟩
      · intro i hi
        have hi' : i ∈ s.done ++ [j] := hi
        rcases List.mem_append.1 hi' with hi | hi
        · exact h3 i hi
        · obtain rfl := List.mem_singleton.1 hi; exact left_ok hform hnl
      · show t = runF f (s.m.do0 j).1 (s.done ++ [j]) (picks.drop (s.done ++ [j]).length)
        rw [List.length_append, List.length_singleton, ← List.drop_drop, h4]
      · show 320001 ≤ f + (s.done ++ [j]).length
        rw [List.length_append, List.length_singleton]; omega
    · left
      rw [if_neg hc] at h4
      exact ⟨hc, h4⟩
set_option maxHeartbeats 8000000 in
theorem RunR_ok (m : Mm) (hm : m.Small) (picks : List Int) (hpk : picks.length ≤ 1000000) : Quiet Go.Proofs.Try.prog 28 [encM m, .sl (picks.map encI)] (.tup [encM (m.run picks).1, .int (m.run picks).2.1, .int (m.run picks).2.2]) := by
  refine quiet_of (rs := #[.cell 4 25, .tmp 5, .tmp 6]) Go.Proofs.Try.func28 rfl rfl rfl mixed rfl rfl fun H hs => ?_
  have hrun := run_cut m picks
  generalize m.run picks = t at hrun ⊢
  push_cast -implicitDefEqProofs [eq_self, iff_self]
  refine callq (mayR_ok m hm) ?_
  cases hmay : m.may with
  | false =>
    rw [hmay, if_neg (by decide)] at hrun
    subst hrun
    push_cast -implicitDefEqProofs [eq_self, iff_self]
  | true =>
    rw [hmay, if_pos rfl] at hrun
    have hinv0 : rrInv picks t ⟨m, [], 320001⟩ := ⟨hmay, List.nodup_nil, (fun _ h => by cases h), hrun, Nat.le_refl _⟩
    clear hrun
    push_cast -implicitDefEqProofs [eq_self, iff_self]
    refine loop_at hs (σ := RrS) (rrInv picks t) (fun s => s.f)
      (fun s => [(8, .rsl (H.nxt + 2) 3 0 s.done.length), (1, .sl (picks.map encI)), (2, .ptr (H.nxt + 0) 3 0 0), (4, .ptr (H.nxt + 1) 3 0 0)])
      (fun s => [some (.cells 3 [[.sl (s.m.N.map encN), .sl (s.m.G.map encI), .sl (s.m.P.map encI)]] 0), some (.cells 3 [[.nilS, .nilS, .nilS]] 0), some (.cells 3 (s.done.map encJ) s.done.length)]) [some 0, some 1, none] ⟨m, [], 320001⟩ hinv0 rfl ?_ ?_ ?_
    · (try push_cast -implicitDefEqProofs [eq_self, iff_self])
    · (try push_cast -implicitDefEqProofs [eq_self, iff_self])
    clear hinv0 hmay
    rintro ⟨m1, dn, f⟩ hinv
    obtain ⟨f', hf', hcase⟩ := rr_next hinv
    obtain ⟨k1, k2, k3, k4, k5⟩ := hinv
    dsimp only at k1 k2 k3 k4 k5 hf' hcase ⊢
    subst hf'
    have hform := may_f k1
    have hsm := form_small hform
    have hdf := done_few k2 k3
    have hJ := JobsR_ok m1 hsm
    have hj0 : m1.jobs = m1.jobs0 := by rw [jobs_def, k1]; rfl
    have hjl := jobs_len m1
    rw [hj0] at hJ hjl
    have hlu := leftU_all m1 dn
    have hdoj : ∀ j ∈ m1.jobs0, m1.doJ j = m1.do0 j := fun j hj => by
      unfold Mm.doJ
      rw [if_pos (jobs_any.2 ⟨k1, hj⟩)]
    generalize hl : m1.jobs0 = l at hJ hjl hlu hdoj
    rw [hl] at hcase
    push_cast -implicitDefEqProofs [eq_self, iff_self]
    refine callq hJ ?_
    push_cast -implicitDefEqProofs [eq_self, iff_self]
    refine loop_at hs (σ := Nat) (fun i => i ≤ l.length) (fun i => l.length - i)
      (fun i => [(11, .int i), (10, .sl (l.map encJ)), (9, .rsl (H.nxt + 3) 3 0 (leftU dn l i).length), (8, .rsl (H.nxt + 2) 3 0 dn.length), (1, .sl (picks.map encI)), (2, .ptr (H.nxt + 0) 3 0 0), (4, .ptr (H.nxt + 1) 3 0 0)])
      (fun i => [some (.cells 3 [[.sl (m1.N.map encN), .sl (m1.G.map encI), .sl (m1.P.map encI)]] 0), some (.cells 3 [[.nilS, .nilS, .nilS]] 0), some (.cells 3 (dn.map encJ) dn.length), some (.cells 3 ((leftU dn l i).map encJ) 0)]) [some 0, some 1, some 2, none] 0 (by omega) rfl ?_ ?_ ?_
    · (try push_cast -implicitDefEqProofs [eq_self, iff_self, show leftU dn l 0 = [] from rfl])
    · (try push_cast -implicitDefEqProofs [eq_self, iff_self, show leftU dn l 0 = [] from rfl])
    intro i hi2
    by_cases hi : i < l.length
    · have hi' := inb_true hi
      have hi0 : (0 ≤ (i : Int)) = True := by simp
      have hget := encJ_get l i hi
      have hH := HasJ_ok dn (l.getD i jb0) (by omega)
      have hsucc := leftU_succ (done := dn) hi
      have hlen := leftU_len dn l i
      generalize l.getD i jb0 = j at hget hH hsucc
      push_cast -implicitDefEqProofs [eq_self, iff_self, hi', hi0, hget, List.length_map]
      refine fzk H 2 dn.length [.sl (dn.map encJ), .agg (encJ j)] (by rfl) (by omega) (by simp) ?_ ?_
      · (try push_cast -implicitDefEqProofs [eq_self, iff_self, List.set_cons_zero, List.set_cons_succ, List.take_of_length_le (show (dn.map encJ).length ≤ dn.length by simp)])
      refine callq hH ?_
      cases hany : dn.any fun k => eqJ k j with
      | true =>
        rw [hany, if_pos rfl] at hsucc
        push_cast -implicitDefEqProofs [eq_self, iff_self]
        rw [wrap64 (by omega) (by omega)]
        refine next_at [some 0, some 1, some 2, some 3] (i + 1) (by omega) (by omega) rfl ?_ ?_
        · (try push_cast -implicitDefEqProofs [eq_self, iff_self, hsucc])
        · (try push_cast -implicitDefEqProofs [eq_self, iff_self, hsucc])
      | false =>
        rw [hany, if_neg (by decide)] at hsucc
        have hln : (leftU dn l (i + 1)).length = (leftU dn l i).length + 1 := by rw [hsucc]; simp
        have hrow : List.take (leftU dn l i).length ((leftU dn l i).map encJ) ++ [encJ j] = (leftU dn l (i + 1)).map encJ := by
          rw [List.take_of_length_le (by simp), hsucc, List.map_append]; rfl
        rw [encJ_eq] at hrow
        push_cast -implicitDefEqProofs [eq_self, iff_self, hi', hi0, hget, List.length_map]
        refine ⟨by omega, ?_⟩
        rw [wrap64 (by omega) (by omega)]
        refine next_at [some 0, some 1, some 2, some 5] (i + 1) (by omega) (by omega) rfl ?_ ?_
        · (try push_cast -implicitDefEqProofs [eq_self, iff_self, hln])
        · (try push_cast -implicitDefEqProofs [eq_self, iff_self, hrow])
    have hi' : ((i : Int) < l.length) = False := eq_false (by omega)
    obtain rfl : i = l.length := by omega
    rw [hlu]
    have hLlen := leftU_len dn l l.length
    rw [hlu] at hLlen
    rcases hcase with ⟨hnil, rfl⟩ | ⟨j, hne, hje, hjm, hcase⟩
    · rw [hnil]
      push_cast -implicitDefEqProofs [eq_self, iff_self, hi', List.length_map]
    · have hlp : 0 < (leftJ m1 dn).length := List.length_pos_iff.2 hne
      have hl0 : (((leftJ m1 dn).length : Int) = 0) = False := eq_false (by omega)
      have hat := pick_at picks dn.length (leftJ m1 dn).length hlp
      have hatl := pickAt_lt (picks := picks.drop dn.length) hlp
      have hget := encJ_get (leftJ m1 dn) _ hatl
      rw [← hje] at hget
      have hDo := DoR_ok m1 hsm j
      rw [hdoj j hjm] at hDo
      generalize pickAt (picks.drop dn.length) (leftJ m1 dn).length = at_ at hat hatl hget
      clear hje
      generalize leftJ m1 dn = L at *
      have hlL : (0 : Int) < L.length := by omega
      have hneL : ((L.length : Int) = 0) = False := eq_false (by omega)
      have hatI : (0 ≤ (at_ : Int)) = True := by simp
      have hatL := inb_true hatl
      have hqs : (m1.do0 j).2 = 0 → (m1.do0 j).1.Small := fun _ => do0_few hsm j
      generalize m1.do0 j = q at hcase hDo hqs
      by_cases hdp : dn.length < picks.length
      case neg =>
        have hdp' : ((dn.length : Int) < (picks.length : Int)) = False := eq_false (by omega)
        rw [if_neg (fun h => hdp h.1)] at hat
        obtain rfl : at_ = 0 := by omega
        have hpn : (picks.map encI).getD dn.length [] = [] := by rw [List.getD_eq_getElem?_getD, List.getElem?_eq_none (by rw [List.length_map]; omega)]; rfl
        push_cast -implicitDefEqProofs [eq_self, iff_self, hi', hl0, hdp', hpn, List.length_map, List.getD_nil]
        repeat (refine gskip ?_; push_cast -implicitDefEqProofs [eq_self, iff_self, hi', hl0, hdp', hpn, List.length_map, List.getD_nil])
        refine areg_at 12 (by kernel_rfl) (by kernel_rfl) ?_
        push_cast -implicitDefEqProofs [eq_self, iff_self, hlL, hget, List.length_map]
        refine ⟨hatl, ?_⟩
        refine ahdq hDo ?_
        push_cast -implicitDefEqProofs [eq_self, iff_self]
        rcases hcase with ⟨hc, rfl⟩ | ⟨hc, hnext⟩
        · have hc' : (q.2 = 0) = False := eq_false hc
          push_cast -implicitDefEqProofs [eq_self, iff_self, hc']
        · have hc' : (q.2 = 0) = True := eq_true hc
          obtain ⟨qm, qc⟩ := q
          dsimp only at hc hnext
          subst hc
          have hrow : List.take dn.length (dn.map encJ) ++ [encJ j] = (dn ++ [j]).map encJ := by
            rw [List.take_of_length_le (by simp), List.map_append]; rfl
          have hln : ((dn ++ [j]).length : Int) = (dn.length : Int) + 1 := by simp
          rw [encJ_eq] at hrow
          push_cast -implicitDefEqProofs [eq_self, iff_self, hlL, hget, List.length_map]
          refine ⟨hatl, by omega, ?_⟩
          refine next_at [some 0, some 1, some 6] ⟨qm, dn ++ [j], f'⟩ hnext (by show f' < f' + 1; omega) rfl ?_ ?_
          · (try push_cast -implicitDefEqProofs [eq_self, iff_self, hln])
          · (try push_cast -implicitDefEqProofs [eq_self, iff_self, hrow, Nat.le_succ dn.length, show (dn.length ≤ dn.length + 1) = True from eq_true (Nat.le_succ _)])
      have hdp' : ((dn.length : Int) < (picks.length : Int)) = True := eq_true (by omega)
      have hdp0 : (0 ≤ (dn.length : Int)) = True := by simp
      have hpx := int_at (p := picks) hdp
      generalize picks.getD dn.length 0 = x at hpx hat
      by_cases hx : 0 < x
      · have hx' : decide (0 < x) = true := decide_eq_true hx
        rw [if_pos ⟨hdp, hx⟩] at hat
        push_cast -implicitDefEqProofs [eq_self, iff_self, hi', hl0, hdp', hdp0, hpx, hx', hneL, ← hat, List.length_map]
        refine areg_at 12 (by kernel_rfl) (by kernel_rfl) ?_
        push_cast -implicitDefEqProofs [eq_self, iff_self, hatI, hatL, hget, List.length_map]
        refine ⟨hatl, ?_⟩
        refine ahdq hDo ?_
        push_cast -implicitDefEqProofs [eq_self, iff_self]
        rcases hcase with ⟨hc, rfl⟩ | ⟨hc, hnext⟩
        · have hc' : (q.2 = 0) = False := eq_false hc
          push_cast -implicitDefEqProofs [eq_self, iff_self, hc']
        · have hc' : (q.2 = 0) = True := eq_true hc
          obtain ⟨qm, qc⟩ := q
          dsimp only at hc hnext
          subst hc
          have hrow : List.take dn.length (dn.map encJ) ++ [encJ j] = (dn ++ [j]).map encJ := by
            rw [List.take_of_length_le (by simp), List.map_append]; rfl
          have hln : ((dn ++ [j]).length : Int) = (dn.length : Int) + 1 := by simp
          rw [encJ_eq] at hrow
          push_cast -implicitDefEqProofs [eq_self, iff_self, hatI, hatL, hget, List.length_map]
          refine ⟨hatl, by omega, ?_⟩
          refine next_at [some 0, some 1, some 6] ⟨qm, dn ++ [j], f'⟩ hnext (by show f' < f' + 1; omega) rfl ?_ ?_
          · (try push_cast -implicitDefEqProofs [eq_self, iff_self, hln])
          · (try push_cast -implicitDefEqProofs [eq_self, iff_self, hrow, Nat.le_succ dn.length, show (dn.length ≤ dn.length + 1) = True from eq_true (Nat.le_succ _)])
      · have hx' : decide (0 < x) = false := decide_eq_false hx
        rw [if_neg (fun h => hx h.2)] at hat
        obtain rfl : at_ = 0 := by omega
        push_cast -implicitDefEqProofs [eq_self, iff_self, hi', hl0, hdp', hdp0, hpx, hx', List.length_map]
        refine areg_at 12 (by kernel_rfl) (by kernel_rfl) ?_
        push_cast -implicitDefEqProofs [eq_self, iff_self, hlL, hget, List.length_map]
        refine ⟨hatl, ?_⟩
        refine ahdq hDo ?_
        push_cast -implicitDefEqProofs [eq_self, iff_self]
        rcases hcase with ⟨hc, rfl⟩ | ⟨hc, hnext⟩
        · have hc' : (q.2 = 0) = False := eq_false hc
          push_cast -implicitDefEqProofs [eq_self, iff_self, hc']
        · have hc' : (q.2 = 0) = True := eq_true hc
          obtain ⟨qm, qc⟩ := q
          dsimp only at hc hnext
          subst hc
          have hrow : List.take dn.length (dn.map encJ) ++ [encJ j] = (dn ++ [j]).map encJ := by
            rw [List.take_of_length_le (by simp), List.map_append]; rfl
          have hln : ((dn ++ [j]).length : Int) = (dn.length : Int) + 1 := by simp
          rw [encJ_eq] at hrow
          push_cast -implicitDefEqProofs [eq_self, iff_self, hlL, hget, List.length_map]
          refine ⟨hatl, by omega, ?_⟩
          refine next_at [some 0, some 1, some 6] ⟨qm, dn ++ [j], f'⟩ hnext (by show f' < f' + 1; omega) rfl ?_ ?_
          · (try push_cast -implicitDefEqProofs [eq_self, iff_self, hln])
          · (try push_cast -implicitDefEqProofs [eq_self, iff_self, hrow, Nat.le_succ dn.length, show (dn.length ≤ dn.length + 1) = True from eq_true (Nat.le_succ _)])
end
section
attribute [local push_cast] encIs_pure encNs_pure encN_eq encM_eq encJ_eq encJs_pure plus_obj0 plus_set0 piL_is00 piL_is0 piL_isk encIs_one encNs_four
theorem small_of {m : Mm} (h : m.may = true) : m.Small := form_small (may_f h)
end
section
attribute [local push_cast] encIs_pure encNs_pure encN_eq encM_eq encJ_eq encJs_pure plus_obj0 plus_set0 piL_is00 piL_is0 piL_isk encIs_one encNs_four
theorem stM_may : ∀ k, 1 ≤ k → k ≤ 4 → (stM k (k - 1)).may = true
  | 1, _, _ => by decide +kernel
  | 2, _, _ => by decide +kernel
  | 3, _, _ => by decide +kernel
  | 4, _, _ => by decide +kernel
  | 0, h, _ => by omega
  | n + 5, _, h => by omega
theorem runF_may : ∀ (f : Nat) (m : Mm) (done : List Jb) (picks : List Int), m.may = true → (runF f m done picks).1.may = true
  | 0, m, done, picks, h => h
  | f + 1, m, done, picks, h => by
    rw [runF]
    split
    · rename_i hb
      split
      · rename_i hc
        have hj := (mem_left.1 (next_left hb)).1
        rcases do_ok h hj with ⟨⟨c, hc', h7⟩, _⟩ | ⟨_, h7⟩
        · rw [h7] at hc; exact absurd hc hc'
        · exact runF_may f _ _ _ h7.may
      · exact h
    · exact h
theorem run_may {m : Mm} (h : m.may = true) (picks : List Int) : (m.run picks).1.may = true := by
  rw [run_cut, if_pos h]
  exact runF_may _ _ _ _ h
set_option maxHeartbeats 4000000 in
theorem growRuns_ok (n : Int) (picks : List Int) (hpl : picks.length ≤ 140737488355328) : Quiet Go.Proofs.Try.prog 7 [.int n, .sl (picks.map encI)] (.bool true) := by
  have hS := Start_ok n
  refine quiet_of (rs := #[.tmp 4]) Go.Proofs.Try.func7 rfl rfl rfl mixed rfl rfl fun H hs => ?_
  push_cast -implicitDefEqProofs [eq_self, iff_self]
  refine callq Awake_ok ?_
  push_cast -implicitDefEqProofs [eq_self, iff_self]
  refine callq hS ?_
  by_cases hn : 1 ≤ n ∧ n ≤ 4
  · have hst : (start n).2.2 = true := by rw [start, if_pos hn]
    by_cases h3 : 3 < n
    · have h3' : decide (3 < n) = true := decide_eq_true h3
      generalize start n = q at *
      obtain ⟨m, g, b⟩ := q
      dsimp only at hst
      subst hst
      push_cast -implicitDefEqProofs [eq_self, iff_self, h3', List.length_map]
    have h3' : decide (3 < n) = false := decide_eq_false h3
    by_cases hp : 1000 < picks.length
    · have hp' : decide ((1000 : Int) < (picks.length : Int)) = true := decide_eq_true (by omega)
      generalize start n = q at *
      obtain ⟨m, g, b⟩ := q
      dsimp only at hst
      subst hst
      push_cast -implicitDefEqProofs [eq_self, iff_self, h3', hp', List.length_map]
    have hp' : decide ((1000 : Int) < (picks.length : Int)) = false := decide_eq_false (by omega)
    obtain ⟨k, rfl⟩ : ∃ k : Nat, n = k := ⟨n.toNat, by omega⟩
    have hst2 : start (k : Int) = (stM k (k - 1), lastM k (k - 1), true) := by rw [start, if_pos hn]; rfl
    have hm := stM_may k (by omega) (by omega)
    have hsm := small_of hm
    have hxm := run_may hm picks
    have hxs := small_of hxm
    have hR := Run_ok (stM k (k - 1)) hsm picks (by omega)
    have hRR := RunR_ok (stM k (k - 1)) hsm picks (by omega)
    have hFx := Full_ok _ hxs
    have hFRx := FullR_ok _ hxs
    have hFm := Full_ok _ hsm
    have hFRm := FullR_ok _ hsm
    have hSm := SameR_self _ hxs
    rw [form_P (may_f hxm)] at hSm
    rw [hst2]
    clear hst hst2 hxm hxs hm hsm
    generalize ((stM k (k - 1)).run picks) = q at *
    obtain ⟨x, c, e⟩ := q
    dsimp only at *
    generalize x.full = fx at *
    generalize (stM k (k - 1)).full = fm at *
    generalize stM k (k - 1) = m at *
    generalize lastM k (k - 1) = g at *
    push_cast -implicitDefEqProofs [eq_self, iff_self, h3', hp', List.length_map]
    refine callq hR ?_
    push_cast -implicitDefEqProofs [eq_self, iff_self]
    refine callq hRR ?_
    push_cast -implicitDefEqProofs [eq_self, iff_self]
    refine areg_at 28 (by kernel_rfl) (by kernel_rfl) ?_
    push_cast -implicitDefEqProofs [eq_self, iff_self]
    refine ahdq hSm ?_
    push_cast -implicitDefEqProofs [eq_self, iff_self]
    refine gcallq (.bool fx) (fun _ => hFx) ?_
    push_cast -implicitDefEqProofs [eq_self, iff_self]
    refine gcallq (.bool fx) (fun _ => hFRx) ?_
    push_cast -implicitDefEqProofs [eq_self, iff_self]
    refine gcallq (.bool fm) (fun _ => hFm) ?_
    push_cast -implicitDefEqProofs [eq_self, iff_self]
    refine gcallq (.bool fm) (fun _ => hFRm) ?_
    push_cast -implicitDefEqProofs [eq_self, iff_self]
  · have hst : start n = (⟨[], [], []⟩, -1, false) := by rw [start, if_neg hn]
    rw [hst]
    push_cast -implicitDefEqProofs [eq_self, iff_self, List.length_map]
theorem growRuns_law (us : List AV) (h : ToldAll Go.Proofs.Try.prog Go.Proofs.Try.f7.params.toList us) : Quiet Go.Proofs.Try.prog 7 us (.bool true) := by
  have e1 : Go.Proofs.Try.f7.params.toList = [3, 23] := by kernel_rfl
  rw [e1] at h
  obtain ⟨n, u1, rfl, _, h1⟩ := told_I h
  obtain ⟨l, u2, rfl, hl, h2⟩ := told_Is h1
  obtain rfl := told_nil h2
  exact growRuns_ok n l hl
end
end Go.Sim.Try
