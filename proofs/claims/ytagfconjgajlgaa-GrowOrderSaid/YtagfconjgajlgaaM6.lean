/- What the row rests on, part 6. Conditions: none. -/
import Derived.Test.YtagfconjgajlgaaM5
set_option linter.unusedSimpArgs false
set_option linter.unusedVariables false
set_option maxRecDepth 100000
namespace Go.Sim.Try
open Go Go.Sim
section
theorem all_of {p : Int → Tr → Bool} (h : ∀ a : Fin 16, ((allT 4 (a.val : Int)).all fun t => p (a.val : Int) t) = true) {t : Tr} (ht : t.may = true) : p (setT 4 t).1 t = true := by
  have h1 := setT_range 4 t
  have h2 := h ⟨(setT 4 t).1.toNat, by omega⟩
  have e : (((setT 4 t).1.toNat : Nat) : Int) = (setT 4 t).1 := by omega
  dsimp only at h2
  rw [e] at h2
  exact List.all_eq_true.1 h2 t ((allT_mem 4 _ t).2 ⟨ht, rfl⟩)
def stepA (adj : List Nat) (m : Nat) : Nat := (List.range adj.length).foldl (fun m i => if m.testBit i then m ||| adj.getD i 0 else m) m
def itM (adj : List Nat) : Nat → Nat → Nat
  | 0, m => m
  | k + 1, m => itM adj k (stepA adj m)
def maskOf (f : Nat → Bool) (n : Nat) : Nat := (List.range n).foldl (fun m j => if f j then m ||| 2 ^ j else m) 0
theorem maskOf_bit (f : Nat → Bool) : ∀ (n j : Nat), (maskOf f n).testBit j = true → j < n ∧ f j = true
  | 0, j, h => by simp [maskOf] at h
  | n + 1, j, h => by
    have ih := maskOf_bit f n j
    unfold maskOf at h ih
    rw [List.range_succ, List.foldl_append] at h
    simp only [List.foldl_cons, List.foldl_nil] at h
    split at h
    · rename_i hf
      rw [Nat.testBit_or, Bool.or_eq_true] at h
      rcases h with h | h
      · obtain ⟨h1, h2⟩ := ih h; exact ⟨by omega, h2⟩
      · rw [Nat.testBit_two_pow] at h
        simp only [decide_eq_true_eq] at h
        subst h
        exact ⟨by omega, hf⟩
    · obtain ⟨h1, h2⟩ := ih h; exact ⟨by omega, h2⟩
theorem step_inv {adj : List Nat} {p : Nat → Prop} (ha : ∀ i, p i → ∀ j, (adj.getD i 0).testBit j = true → p j) (m : Nat) (hm : ∀ i, m.testBit i = true → p i) : ∀ i, (stepA adj m).testBit i = true → p i := by
  unfold stepA
  generalize List.range adj.length = l
  induction l generalizing m with
  | nil => exact hm
  | cons k l ih =>
    rw [List.foldl_cons]
    refine ih _ ?_
    intro i hi
    split at hi
    · rename_i hk
      rw [Nat.testBit_or, Bool.or_eq_true] at hi
      rcases hi with h | h
      · exact hm i h
      · exact ha k (hm k hk) i h
    · exact hm i hi
theorem it_inv {adj : List Nat} {p : Nat → Prop} (ha : ∀ i, p i → ∀ j, (adj.getD i 0).testBit j = true → p j) : ∀ (k m : Nat), (∀ i, m.testBit i = true → p i) → ∀ i, (itM adj k m).testBit i = true → p i
  | 0, m, hm => hm
  | k + 1, m, hm => it_inv ha k _ (step_inv ha m hm)
def fwd (A : List Tr) : List Nat := A.map fun t => let N := nextT 4 t; maskOf (fun j => N.any fun x => sameT x (A.getD j trO)) A.length
def bwd (A : List Tr) : List Nat := (List.range A.length).map fun i => maskOf (fun j => (nextT 4 (A.getD j trO)).any fun x => sameT x (A.getD i trO)) A.length
def linked (A : List Tr) : Bool := (itM (fwd A) 14 1 == 2 ^ A.length - 1) && (itM (bwd A) 14 1 == 2 ^ A.length - 1)
theorem all_linked : ∀ a : Fin 16, ((allT 4 (a.val : Int)).isEmpty || linked (allT 4 (a.val : Int))) = true := by decide +kernel
theorem getD_at {A : List Tr} {i : Nat} (h : i < A.length) : A.getD i trO = A[i] := by rw [List.getD_eq_getElem?_getD, List.getElem?_eq_getElem h]; rfl
theorem linked_all {A : List Tr} (h : linked A = true) (S : Tr → Prop) (hS : ∀ t ∈ A, S t → ∀ x ∈ nextT 4 t, S x) {t : Tr} (ht : t ∈ A) (hSt : S t) : ∀ s ∈ A, S s := by
  unfold linked at h
  simp only [Bool.and_eq_true, beq_iff_eq] at h
  obtain ⟨hf, hb⟩ := h
  have hpos : 0 < A.length := List.length_pos_of_mem ht
  have hall : ∀ i, i < A.length → (2 ^ A.length - 1).testBit i = true := fun i hi => by rw [Nat.testBit_two_pow_sub_one]; simpa using hi
  have one : ∀ i, (1 : Nat).testBit i = true → i = 0 := fun i hi => by
    rw [show (1 : Nat) = 2 ^ 0 from rfl, Nat.testBit_two_pow] at hi
    exact (by simpa using hi : 0 = i).symm
  have h0 : S (A.getD 0 trO) := by
    obtain ⟨i, hi, rfl⟩ := List.mem_iff_getElem.1 ht
    have := it_inv (adj := bwd A) (p := fun i => i < A.length → S (A.getD i trO) → S (A.getD 0 trO)) (fun i hp j hj hjl hsj => ?_) 14 1 (fun i hi _ hs => by rw [one i hi] at hs; exact hs) i (by rw [hb]; exact hall i hi) hi
    · rw [getD_at hi] at this
      exact this hSt
    · by_cases hil : i < A.length
      · unfold bwd at hj
        rw [List.getD_eq_getElem?_getD, List.getElem?_map, List.getElem?_range hil] at hj
        obtain ⟨_, hj2⟩ := maskOf_bit _ _ _ hj
        rw [List.any_eq_true] at hj2
        obtain ⟨x, hx, hxe⟩ := hj2
        rw [sameT_eq' _ _ hxe] at hx
        exact hp hil (hS _ (by rw [getD_at hjl]; exact List.getElem_mem _) hsj _ hx)
      · unfold bwd at hj
        rw [List.getD_eq_getElem?_getD, List.getElem?_map, List.getElem?_eq_none (by simpa using hil)] at hj
        simp at hj
  intro s hs
  obtain ⟨i, hi, rfl⟩ := List.mem_iff_getElem.1 hs
  have := it_inv (adj := fwd A) (p := fun i => i < A.length ∧ S (A.getD i trO)) (fun i hp j hj => ?_) 14 1 (fun i hi => by rw [one i hi]; exact ⟨hpos, h0⟩) i (by rw [hf]; exact hall i hi)
  · rw [getD_at hi] at this
    exact this.2
  · unfold fwd at hj
    rw [List.getD_eq_getElem?_getD, List.getElem?_map, List.getElem?_eq_getElem hp.1] at hj
    obtain ⟨hj1, hj2⟩ := maskOf_bit _ _ _ hj
    rw [List.any_eq_true] at hj2
    obtain ⟨x, hx, hxe⟩ := hj2
    rw [sameT_eq' _ _ hxe] at hx
    have h2 := hp.2
    rw [getD_at hp.1] at h2
    exact ⟨hj1, hS _ (List.getElem_mem hp.1) h2 _ hx⟩
theorem next_may {t : Tr} (ht : t.may = true) : ∀ x ∈ nextT 4 t, x.may = true := by
  have := all_of (p := fun _ t => (nextT 4 t).all fun x => x.may) (by decide +kernel) ht
  exact fun x hx => List.all_eq_true.1 this x hx
theorem linked_set (S : Tr → Prop) (hS : ∀ t, t.may = true → S t → ∀ x ∈ nextT 4 t, S x) {t s : Tr} (ht : t.may = true) (hs : s.may = true) (he : (setT 4 t).1 = (setT 4 s).1) (h : S t) : S s := by
  have hr := setT_range 4 t
  have hmem : t ∈ allT 4 (setT 4 t).1 := (allT_mem 4 _ t).2 ⟨ht, rfl⟩
  have hl := all_linked ⟨(setT 4 t).1.toNat, by omega⟩
  have e : (((setT 4 t).1.toNat : Nat) : Int) = (setT 4 t).1 := by omega
  dsimp only at hl
  rw [e, Bool.or_eq_true] at hl
  rcases hl with hl | hl
  · rw [List.isEmpty_iff] at hl
    rw [hl] at hmem
    cases hmem
  · exact linked_all hl S (fun u hu => hS u ((allT_mem 4 _ u).1 hu).1) hmem h s ((allT_mem 4 _ s).2 ⟨hs, he.symm⟩)
theorem small_deep {t : Tr} (ht : t.may = true) (h : (setT 4 t).1 ≠ 15) : (setT 3 t).2 = true := by
  have := all_of (p := fun a t => decide (a = 15) || (setT 3 t).2) (by decide +kernel) ht
  simpa [h] using this
theorem may_join {u v : Tr} (hu : u.may = true) (hv : v.may = true) (h : band .i64 (setT 4 u).1 (setT 4 v).1 = 0) : (Tr.join u v).may = true ∧ (setT 4 (Tr.join u v)).1 = (setT 4 u).1 + (setT 4 v).1 := by
  have pu := setT_pos 4 u hu
  have pv := setT_pos 4 v hv
  have ru := setT_range 4 u
  have rv := setT_range 4 v
  have hc := cut16 pu ru.2 pv rv.2 h
  have du := small_deep hu (by omega)
  have dv := small_deep hv (by omega)
  have eu := setT_up 3 u du
  have ev := setT_up 3 v dv
  rw [Tr.may, Tr.join, setT_two, if_pos rfl]
  rw [eu, ev] at hc h
  rw [eu, ev]
  exact ⟨by rw [du, dv, decide_eq_true h]; rfl, hc.1⟩
theorem may_parts {u v : Tr} (h : (Tr.join u v).may = true) : u.may = true ∧ v.may = true ∧ band .i64 (setT 4 u).1 (setT 4 v).1 = 0 ∧ (setT 4 (Tr.join u v)).1 = (setT 4 u).1 + (setT 4 v).1 ∧ (setT 3 u).2 = true ∧ (setT 3 v).2 = true := by
  obtain ⟨h1, h2, h3⟩ := setT_join (d := 3) h
  have hu := setT_to4 (by decide) h1
  have hv := setT_to4 (by decide) h2
  have eu := setT_up 3 u h1
  have ev := setT_up 3 v h2
  rw [← eu, ← ev] at h3
  exact ⟨hu, hv, h3, (may_join hu hv h3).2, h1, h2⟩
end
section
theorem mkT_deep {m : Mm} : ∀ {d e g : Nat} {t : Tr}, mkT m d g t → (setT e t).2 = true → mkT m e g t
  | 0, _, _, _, h, _ => h.elim
  | d + 1, 0, g, t, _, h => by simp [setT] at h
  | d + 1, e + 1, g, t, ⟨i, hi, h1, h2⟩, h => by
    refine ⟨i, hi, h1, ?_⟩
    unfold stepM at h2 ⊢
    split
    · rename_i hj
      rw [if_pos hj] at h2
      obtain ⟨u, v, hu, hv, rfl, hm⟩ := h2
      obtain ⟨k1, k2, _⟩ := setT_join h
      exact ⟨u, v, mkT_deep hu k1, mkT_deep hv k2, rfl, hm⟩
    · rename_i hj
      rw [if_neg hj] at h2
      exact h2
theorem join_inj {a b c d : Tr} (h : Tr.join a b = Tr.join c d) : a = c ∧ b = d := by
  unfold Tr.join at h
  injection h with _ h
  injection h with h1 h
  injection h with h2 _
  exact ⟨h1, h2⟩
theorem join_leaf {a b : Tr} {o : Int} (h : Tr.join a b = Tr.leaf o) : False := by
  unfold Tr.join Tr.leaf at h
  injection h with _ h
  cases h
theorem leaf_inj {o p : Int} (h : Tr.leaf o = Tr.leaf p) : o = p := by
  unfold Tr.leaf at h
  injection h
theorem join_in {m : Mm} {n : Nd} (hj : n.jn = true) {g : Nat} (h : HasN m n g) {u v : Tr} (hu : mkT m 4 (ro m n.a.toNat) u) (hv : mkT m 4 (ro m n.b.toNat) v) (hm : (Tr.join u v).may = true) : mkT m 4 g (.join u v) := by
  obtain ⟨i, hi, ⟨s1, _, s3⟩, rfl⟩ := h
  obtain ⟨_, _, _, _, du, dv⟩ := may_parts hm
  obtain ⟨e1, e2⟩ := s3 (s1.trans hj)
  refine ⟨i, hi, rfl, ?_⟩
  unfold stepM
  rw [if_pos (show (m.N.getD i nd0).jn = true from s1.trans hj)]
  refine ⟨u, v, ?_, ?_, rfl, hm⟩
  · have e : raM m i = ro m n.a.toNat := e1
    rw [e]; exact mkT_deep hu du
  · have e : rbM m i = ro m n.b.toNat := e2
    rw [e]; exact mkT_deep hv dv
theorem join_out {m : Mm} {d g : Nat} {u v : Tr} (h : mkT m d g (.join u v)) : ∃ i, i < m.N.length ∧ (nd m i).jn = true ∧ ro m (gi m i) = g ∧ mkT m 4 (ro m (nd m i).a.toNat) u ∧ mkT m 4 (ro m (nd m i).b.toNat) v ∧ (Tr.join u v).may = true := by
  cases d with
  | zero => exact h.elim
  | succ d =>
    obtain ⟨i, hi, h1, h2⟩ := h
    unfold stepM at h2
    split at h2
    · rename_i hj
      obtain ⟨u', v', hu, hv, he, hm⟩ := h2
      obtain ⟨rfl, rfl⟩ := join_inj he
      obtain ⟨mu, mv, _⟩ := may_parts hm
      exact ⟨i, hi, hj, h1, mkT_deep hu mu, mkT_deep hv mv, hm⟩
    · exact (join_leaf h2).elim
structure FullC (w : Mm) : Prop where
  turn : ∀ e, e < w.N.length → (nd w e).jn = true → HasN w (ndJ (nd w e).b (nd w e).a) (ro w (gi w e))
  move : ∀ e f, e < w.N.length → f < w.N.length → (nd w e).jn = true → (nd w f).jn = true → ro w (gi w f) = ro w (nd w e).a.toNat → ∃ r : Nat, r < w.P.length ∧ HasN w (ndJ (nd w f).b (nd w e).b) (ro w r) ∧ HasN w (ndJ (nd w f).a (r : Nat)) (ro w (gi w e))
theorem two1_join {t : Tr} (ht : t.may = true) (h : (two1 t).2.2 = true) : t = .join (two1 t).1 (two1 t).2.1 := by
  rcases tr_form (d := 3) ht with ⟨o, rfl⟩ | ⟨a, b, rfl⟩
  · cases h
  · rfl
theorem mem_optL {x : Tr} {y : Tr × Bool} (h : x ∈ optL y) : y.2 = true ∧ x = y.1 := by
  unfold optL at h
  split at h
  · rename_i h2; exact ⟨h2, List.mem_singleton.1 h⟩
  · cases h
theorem self_has {m : Mm} {i : Nat} (hi : i < m.N.length) : HasN m (nd m i) (ro m (gi m i)) := ⟨i, hi, sameC.refl _ _, rfl⟩
theorem next_in {m : Mm} (hc : FullC m) : ∀ (d : Nat) {t : Tr} {g : Nat}, t.may = true → mkT m 4 g t → ∀ x ∈ nextT d t, x.may = true → mkT m 4 g x
  | 0, t, g, _, _, x, hx, _ => by cases hx
  | d + 1, t, g, ht, h, x, hx, hxm => by
    rw [nextT, List.mem_append] at hx
    rcases hx with hx | hx
    · rw [List.mem_append] at hx
      rcases hx with hx | hx
      · obtain ⟨h1, rfl⟩ := mem_optL hx
        rw [byR, if_pos ht] at h1 hxm ⊢
        unfold turnR at h1 hxm ⊢
        split at h1
        · rename_i h2
          rw [if_pos h2] at hxm ⊢
          have e := two1_join ht h2
          generalize (two1 t).1 = a at e hxm ⊢
          generalize (two1 t).2.1 = b at e hxm ⊢
          subst e
          obtain ⟨i, hi, hj, rfl, ha, hb, _⟩ := join_out h
          exact join_in rfl (hc.turn i hi hj) hb ha hxm
        · cases h1
      · obtain ⟨h1, rfl⟩ := mem_optL hx
        rw [byR, if_pos ht] at h1 hxm ⊢
        unfold moveR at h1 hxm ⊢
        split at h1
        · rename_i h2
          rw [if_pos h2] at hxm ⊢
          rw [Bool.and_eq_true] at h2
          have e := two1_join ht h2.1
          generalize (two1 t).1 = a at e hxm h2 ⊢
          generalize (two1 t).2.1 = b at e hxm h2 ⊢
          subst e
          obtain ⟨ma, mb, _⟩ := may_parts ht
          have e := two1_join ma h2.2
          generalize (two1 a).1 = c at e hxm ⊢
          generalize (two1 a).2.1 = k at e hxm ⊢
          subst e
          obtain ⟨i, hi, hj, rfl, ha, hb, _⟩ := join_out h
          obtain ⟨f, hf, hfj, hfg, hcc, hk, _⟩ := join_out ha
          obtain ⟨r, hr, r1, r2⟩ := hc.move i f hi hf hj hfj hfg
          have hkb := join_in rfl r1 hk hb (may_parts hxm).2.1
          exact join_in rfl r2 hcc hkb hxm
        · cases h1
    · split at hx
      · rename_i h2
        have e := two1_join ht h2
        generalize (two1 t).1 = a at e hx
        generalize (two1 t).2.1 = b at e hx
        subst e
        obtain ⟨ma, mb, _⟩ := may_parts ht
        obtain ⟨i, hi, hj, rfl, ha, hb, _⟩ := join_out h
        rw [List.mem_append] at hx
        rcases hx with hx | hx
        · obtain ⟨y, hy, rfl⟩ := List.mem_map.1 hx
          exact join_in hj (self_has hi) (next_in hc d ma ha y hy (may_parts hxm).1) hb hxm
        · obtain ⟨y, hy, rfl⟩ := List.mem_map.1 hx
          exact join_in hj (self_has hi) ha (next_in hc d mb hb y hy (may_parts hxm).2.1) hxm
      · cases hx
theorem mk_one {m : Mm} (hc : Closed m) : ∀ {d e g h : Nat} {t : Tr}, mkT m d g t → mkT m e h t → g = h
  | 0, _, _, _, _, h, _ => h.elim
  | d + 1, 0, _, _, _, _, h => h.elim
  | d + 1, e + 1, g, h, t, ⟨i, hi, h1, h2⟩, ⟨k, hk, k1, k2⟩ => by
    rw [← h1, ← k1]
    refine hc i k hi hk ?_
    unfold stepM at h2 k2
    split at h2
    · rename_i hj
      obtain ⟨u, v, hu, hv, rfl, _⟩ := h2
      split at k2
      · rename_i hj'
        obtain ⟨u', v', hu', hv', he, _⟩ := k2
        obtain ⟨rfl, rfl⟩ := join_inj he
        exact ⟨hj.trans hj'.symm, fun hx => (by rw [show (nd m i).jn = true from hj] at hx; cases hx), fun _ => ⟨mk_one hc hu hu', mk_one hc hv hv'⟩⟩
      · exact (join_leaf k2).elim
    · rename_i hj
      split at k2
      · obtain ⟨u', v', _, _, he, _⟩ := k2
        rw [h2] at he
        exact (join_leaf he.symm).elim
      · rename_i hj'
        rw [h2] at k2
        have e1 : (nd m i).jn = false := Bool.eq_false_iff.2 hj
        have e2 : (nd m k).jn = false := Bool.eq_false_iff.2 hj'
        exact ⟨e1.trans e2.symm, fun _ => leaf_inj k2, fun hx => (by rw [e1] at hx; cases hx)⟩
theorem full_set {m : Mm} (hc : FullC m) {g : Nat} {t s : Tr} (h : mkT m 4 g t) (ht : t.may = true) (hs : s.may = true) (he : (setT 4 t).1 = (setT 4 s).1) : mkT m 4 g s :=
  linked_set (fun t => mkT m 4 g t) (fun t ht h x hx => next_in hc 4 ht h x hx (next_may ht x hx)) ht hs he h
theorem fullC_of {m : Mm} (hf : m.form = true) (h : ∀ j ∈ m.jobs0, Sat m m (fun g => g) j) : FullC m where
  turn := fun e he hj => by
    have hs : SatT m m (fun g => g) e := h ⟨false, e, 0⟩ ((job_iff hf).2 ⟨e, he, hj, .inl rfl⟩)
    exact HasN.congr hs ⟨rfl, fun _ => rfl, fun _ => ⟨rfl, rfl⟩⟩
  move := fun e f he hfl hj hfj hr => by
    have hs : SatM m m (fun g => g) e f := h ⟨true, e, f⟩ ((job_iff hf).2 ⟨e, he, hj, .inr ⟨f, hfl, hfj, hr, rfl⟩⟩)
    obtain ⟨r, hr', s1, s2⟩ := hs
    exact ⟨r, hr', s1.congr ⟨rfl, fun _ => rfl, fun _ => ⟨rfl, rfl⟩⟩, s2.congr ⟨rfl, fun _ => rfl, fun _ => ⟨rfl, rfl⟩⟩⟩
theorem sat_hom {m w : Mm} {φ : Nat → Nat} (hw : FullC w) (hf : m.form = true) (h : HomM m w φ) {j : Jb} (hj : j ∈ m.jobs0) : Sat m w φ j := by
  rw [job_iff hf] at hj
  obtain ⟨e, he, hjn, h1⟩ := hj
  obtain ⟨i, hi, ⟨s1, s2, s3⟩, s4⟩ := h.has e he
  have hji : (nd w i).jn = true := s1.trans hjn
  obtain ⟨e1, e2⟩ := s3 hji
  rcases h1 with rfl | ⟨f, hfl, hfj, hr, rfl⟩
  · show SatT m w φ e
    unfold SatT
    rw [← s4]
    exact (hw.turn i hi hji).congr ⟨rfl, fun h => (by cases h), fun _ => ⟨e2, e1⟩⟩
  · obtain ⟨k, hk, ⟨t1, t2, t3⟩, t4⟩ := h.has f hfl
    have hjk : (nd w k).jn = true := t1.trans hfj
    obtain ⟨f1, f2⟩ := t3 hjk
    have hre : ro w (gi w k) = ro w (nd w i).a.toNat := by
      rw [t4, e1]
      exact h.root _ _ (gi_lt hf hfl) (jn_lt hf he hjn).1 hr
    obtain ⟨r, hr', m1, m2⟩ := hw.move i k hi hk hji hjk hre
    show SatM m w φ e f
    refine ⟨r, hr', m1.congr ⟨rfl, fun h => (by cases h), fun _ => ⟨f2, e2⟩⟩, ?_⟩
    rw [← s4]
    exact m2.congr ⟨rfl, fun h => (by cases h), fun _ => ⟨f1, rfl⟩⟩
theorem full_true {m : Mm} (hm : m.may = true) (hN : m.N.length < 399) (hP : m.P.length < 399) (h : ∀ j ∈ m.jobs0, Sat m m (fun g => g) j) : m.full = true := by
  rw [full_def, hm, Bool.true_and, List.all_eq_true]
  intro j hj
  rw [jobs_def, if_pos hm] at hj
  rcases do_ok hm hj with ⟨_, h2⟩ | ⟨h1, h2⟩
  · omega
  · rw [h1, h2.stay (h j hj), same_self (form_P (may_f hm))]
    rfl
theorem put_new {m : Mm} (hm : m.may = true) {n : Nd} (hn : m.node n = true) {g : Int} (hg : g = -1 ∨ m.inG g = true) (hok : (m.put n g).2.2 = 0) :
    ((m.put n g).1.N.length = m.N.length ∧ (m.put n g).1.P.length = m.P.length) ∨
    ((∀ i, i < m.N.length → ¬ sameC m (nd m i) n) ∧ (m.put n g).1.N.length = m.N.length + 1 ∧ ((m.put n g).1.P.length = m.P.length ∨ ((m.put n g).1.P.length = m.P.length + 1 ∧ gi (m.put n g).1 m.N.length = m.P.length))) := by
  have hf := may_f hm
  have hGl := ((form_iff m).1 hf).2.1
  have hc : (!(m.may && m.node n && (decide (g = -1) || m.inG g))) = false := by
    rw [hm, hn]
    rcases hg with h | h
    · rw [h]; rfl
    · rw [h]; simp
  have hp := put_def m n g
  rw [hc] at hp
  simp only [Bool.false_eq_true, if_false] at hp
  generalize m.put n g = r at hp hok ⊢
  rcases look_has hm hn with ⟨q, hlk, _, _, _⟩ | ⟨hlk, hno⟩
  · rw [hlk] at hp
    simp only [if_true] at hp
    split at hp
    · rw [hp]; exact .inl ⟨rfl, rfl⟩
    · obtain ⟨k1, k2, k3⟩ := merge_keep m g (q : Int)
      rw [← hp] at k1 k2 k3
      exact .inl ⟨by rw [k1], k3⟩
  · rw [hlk] at hp
    simp only [Bool.false_eq_true, if_false] at hp
    right
    refine ⟨hno, ?_⟩
    split at hp
    · rw [hp] at hok; cases hok
    · split at hp
      · rw [hp]
        refine ⟨by simp, .inr ⟨by simp, ?_⟩⟩
        exact gi_last hGl
      · rw [hp]
        exact ⟨by simp, .inl rfl⟩
end
end Go.Sim.Try
namespace Go.Sim.Try
open Go Go.Sim
def W1 : Mm := ⟨[⟨false, 0, 0, 0⟩], [0], [0]⟩
def W2 : Mm := ⟨[⟨false, 0, 0, 0⟩, ⟨false, 1, 0, 0⟩, ndJ 0 1, ndJ 1 0], [0, 1, 2, 2], [0, 1, 2]⟩
def W3 : Mm := ⟨[⟨false, 0, 0, 0⟩, ⟨false, 1, 0, 0⟩, ⟨false, 2, 0, 0⟩, ndJ 0 1, ndJ 1 0, ndJ 0 3, ndJ 3 0, ndJ 1 3, ndJ 3 1, ndJ 0 5, ndJ 1 4, ndJ 2 3, ndJ 3 2, ndJ 4 1, ndJ 5 0], [0, 1, 3, 2, 2, 4, 4, 5, 5, 6, 6, 6, 6, 6, 6], [0, 1, 2, 3, 4, 5, 6]⟩
def W4 : Mm := ⟨[⟨false, 0, 0, 0⟩, ⟨false, 1, 0, 0⟩, ⟨false, 2, 0, 0⟩, ⟨false, 3, 0, 0⟩, ndJ 0 1, ndJ 1 0, ndJ 0 3, ndJ 3 0, ndJ 1 3, ndJ 3 1, ndJ 0 5, ndJ 1 4, ndJ 2 3, ndJ 3 2, ndJ 4 1, ndJ 5 0, ndJ 0 7, ndJ 7 0, ndJ 1 7, ndJ 7 1, ndJ 0 9, ndJ 1 8, ndJ 2 7, ndJ 7 2, ndJ 8 1, ndJ 9 0, ndJ 3 7, ndJ 7 3, ndJ 0 11, ndJ 3 8, ndJ 4 7, ndJ 7 4, ndJ 8 3, ndJ 11 0, ndJ 1 11, ndJ 3 9, ndJ 5 7, ndJ 7 5, ndJ 9 3, ndJ 11 1, ndJ 0 13, ndJ 1 12, ndJ 2 11, ndJ 3 10, ndJ 4 9, ndJ 5 8, ndJ 6 7, ndJ 7 6, ndJ 8 5, ndJ 9 4, ndJ 10 3, ndJ 11 2, ndJ 12 1, ndJ 13 0], [0, 1, 3, 7, 2, 2, 4, 4, 5, 5, 6, 6, 6, 6, 6, 6, 8, 8, 9, 9, 10, 10, 10, 10, 10, 10, 11, 11, 12, 12, 12, 12, 12, 12, 13, 13, 13, 13, 13, 13, 14, 14, 14, 14, 14, 14, 14, 14, 14, 14, 14, 14, 14, 14], [0, 1, 2, 3, 4, 5, 6, 7, 8, 9, 10, 11, 12, 13, 14]⟩
def sameB (m : Mm) (x y : Nd) : Bool := (x.jn == y.jn) && (x.jn || decide (x.occ = y.occ)) && (!x.jn || (decide (ro m x.a.toNat = ro m y.a.toNat) && decide (ro m x.b.toNat = ro m y.b.toNat)))
theorem sameB_iff {m : Mm} {x y : Nd} : sameB m x y = true ↔ sameC m x y := by
  unfold sameB sameC
  cases hx : x.jn <;> cases hy : y.jn <;> simp
def hasB (m : Mm) (n : Nd) (r : Nat) : Bool := (List.range m.N.length).any fun i => sameB m (nd m i) n && decide (ro m (gi m i) = r)
theorem hasB_ok {m : Mm} {n : Nd} {r : Nat} (h : hasB m n r = true) : HasN m n r := by
  unfold hasB at h
  rw [List.any_eq_true] at h
  obtain ⟨i, hi, h⟩ := h
  rw [Bool.and_eq_true, decide_eq_true_eq, sameB_iff] at h
  exact ⟨i, List.mem_range.1 hi, h.1, h.2⟩
def fullB (w : Mm) : Bool := (List.range w.N.length).all fun e => !(nd w e).jn || (hasB w (ndJ (nd w e).b (nd w e).a) (ro w (gi w e)) &&
  (List.range w.N.length).all fun f => !(nd w f).jn || !decide (ro w (gi w f) = ro w (nd w e).a.toNat) ||
    (List.range w.P.length).any fun r => hasB w (ndJ (nd w f).b (nd w e).b) (ro w r) && hasB w (ndJ (nd w f).a (r : Nat)) (ro w (gi w e)))
theorem fullB_ok {w : Mm} (h : fullB w = true) : FullC w := by
  unfold fullB at h
  rw [List.all_eq_true] at h
  refine ⟨fun e he hj => ?_, fun e f he hf hj hfj hr => ?_⟩
  · have := h e (List.mem_range.2 he)
    rw [hj] at this
    simp only [Bool.not_true, Bool.false_or, Bool.and_eq_true] at this
    exact hasB_ok this.1
  · have := h e (List.mem_range.2 he)
    rw [hj] at this
    simp only [Bool.not_true, Bool.false_or, Bool.and_eq_true, List.all_eq_true] at this
    have := this.2 f (List.mem_range.2 hf)
    rw [hfj, decide_eq_true hr] at this
    simp only [Bool.not_true, Bool.false_or, List.any_eq_true, Bool.and_eq_true] at this
    obtain ⟨r, hr, h1, h2⟩ := this
    exact ⟨r, List.mem_range.1 hr, hasB_ok h1, hasB_ok h2⟩
def nodesB (w : Mm) : Bool := (List.range w.N.length).all fun i => if (nd w i).jn then
    decide (ro w (nd w i).a.toNat + ro w (nd w i).b.toNat + 1 = ro w (gi w i)) && decide (band .i64 ((ro w (nd w i).a.toNat : Nat) + 1) ((ro w (nd w i).b.toNat : Nat) + 1) = 0)
  else decide ((setT 4 (.leaf (nd w i).occ)).1 = (ro w (gi w i) : Nat) + 1)
theorem nodes_join {w : Mm} (h : nodesB w = true) {i : Nat} (hi : i < w.N.length) (hj : (nd w i).jn = true) : ro w (nd w i).a.toNat + ro w (nd w i).b.toNat + 1 = ro w (gi w i) ∧ band .i64 ((ro w (nd w i).a.toNat : Nat) + 1) ((ro w (nd w i).b.toNat : Nat) + 1) = 0 := by
  unfold nodesB at h
  have := List.all_eq_true.1 h i (List.mem_range.2 hi)
  rw [if_pos hj] at this
  simpa using this
theorem nodes_leaf {w : Mm} (h : nodesB w = true) {i : Nat} (hi : i < w.N.length) (hj : (nd w i).jn = false) : (setT 4 (.leaf (nd w i).occ)).1 = (ro w (gi w i) : Nat) + 1 := by
  unfold nodesB at h
  have := List.all_eq_true.1 h i (List.mem_range.2 hi)
  rw [if_neg (by rw [hj]; decide)] at this
  simpa using this
theorem set_made {w : Mm} (h : nodesB w = true) : ∀ {d g : Nat} {t : Tr}, mkT w d g t → (setT 4 t).1 = (g : Nat) + 1
  | 0, _, _, hk => hk.elim
  | d + 1, g, t, ⟨i, hi, h1, h2⟩ => by
    have e : rgM w i = ro w (gi w i) := rfl
    rw [e] at h1
    unfold stepM at h2
    split at h2
    · rename_i hj
      obtain ⟨u, v, hu, hv, rfl, hm⟩ := h2
      obtain ⟨_, _, _, hs, _⟩ := may_parts hm
      have k1 := set_made h hu
      have k2 := set_made h hv
      have k3 := (nodes_join h hi hj).1
      have ea : raM w i = ro w (nd w i).a.toNat := rfl
      have eb : rbM w i = ro w (nd w i).b.toNat := rfl
      rw [ea] at k1
      rw [eb] at k2
      rw [hs, k1, k2, ← h1, ← k3]
      push_cast
      omega
    · rename_i hj
      rw [h2, ← h1]
      exact nodes_leaf h hi (Bool.eq_false_iff.2 hj)
def onceB (w : Mm) : Bool := (List.range w.N.length).all fun i => (List.range i).all fun k => !sameB w (nd w i) (nd w k)
theorem once_ok {w : Mm} (h : onceB w = true) {i k : Nat} (hi : i < w.N.length) (hk : k < w.N.length) (hs : sameC w (nd w i) (nd w k)) : i = k := by
  have key : ∀ i k, i < w.N.length → k < i → ¬ sameC w (nd w i) (nd w k) := fun i k hi hk hs => by
    unfold onceB at h
    have := List.all_eq_true.1 (List.all_eq_true.1 h i (List.mem_range.2 hi)) k (List.mem_range.2 hk)
    rw [sameB_iff.2 hs] at this
    cases this
  rcases Nat.lt_trichotomy i k with h1 | h1 | h1
  · exact absurd hs.symm (key k i hk h1)
  · exact h1
  · exact absurd hs (key i k hi h1)
def rootsB (w : Mm) : Bool := (List.range w.P.length).all fun g => decide (ro w g = g)
theorem roots_ok {w : Mm} (h : rootsB w = true) {g : Nat} (hg : g < w.P.length) : ro w g = g := by
  unfold rootsB at h
  have := List.all_eq_true.1 h g (List.mem_range.2 hg)
  simpa using this
structure IsW (n : Nat) (w : Mm) : Prop where
  may : w.may = true
  full : FullC w
  nodes : nodesB w = true
  once : onceB w = true
  root : rootsB w = true
  plen : w.P.length + 1 = 2 ^ n
theorem W1_is : IsW 1 W1 := ⟨by decide +kernel, fullB_ok (by decide +kernel), by decide +kernel, by decide +kernel, by decide +kernel, by decide +kernel⟩
theorem W2_is : IsW 2 W2 := ⟨by decide +kernel, fullB_ok (by decide +kernel), by decide +kernel, by decide +kernel, by decide +kernel, by decide +kernel⟩
theorem W3_is : IsW 3 W3 := ⟨by decide +kernel, fullB_ok (by decide +kernel), by decide +kernel, by decide +kernel, by decide +kernel, by decide +kernel⟩
theorem W4_may : W4.may = true := by decide +kernel
theorem W4_full : fullB W4 = true := by decide +kernel
theorem W4_is : IsW 4 W4 := ⟨W4_may, fullB_ok W4_full, by decide +kernel, by decide +kernel, by decide +kernel, by decide +kernel⟩
end Go.Sim.Try
namespace Go.Sim.Try
open Go Go.Sim
section
structure Good (w : Mm) (φ : Nat → Nat) (m : Mm) : Prop where
  may : m.may = true
  hom : HomM m w φ
  ne : ∀ g, g < m.P.length → ∃ i, i < m.N.length ∧ ro m (gi m i) = ro m g
  pn : m.P.length ≤ m.N.length
  few : ∃ L : List Tr, L.Nodup ∧ L.length = m.N.length ∧ ∀ t ∈ L, ∃ g, g < m.P.length ∧ mkT m 4 (ro m g) t
theorem Good.short {w m : Mm} {φ : Nat → Nat} (h : Good w φ m) : m.N.length ≤ 184 ∧ m.P.length ≤ 184 := by
  obtain ⟨L, h1, h2, h3⟩ := h.few
  have h4 := nodup_sub h1 (m := allTs) fun t ht => by
    obtain ⟨g, _, hk⟩ := h3 t ht
    exact mem_allTs (mkT_may (may_f h.may) hk)
  rw [allTs_len] at h4
  have := h.pn
  omega
theorem Good.set {n : Nat} {w m : Mm} {φ : Nat → Nat} (hw : IsW n w) (h : Good w φ m) {d g : Nat} {t : Tr} (hg : g < m.P.length) (ht : mkT m d (ro m g) t) : (setT 4 t).1 = (φ g : Nat) + 1 := by
  have := set_made hw.nodes (h.hom.made (may_f h.may) hg ht)
  rwa [roots_ok hw.root (h.hom.lt g hg)] at this
theorem hom_parts {n : Nat} {w m : Mm} {φ : Nat → Nat} (hw : IsW n w) (h : HomM m w φ) {nn : Nd} {r : Nat} (ha : nn.a.toNat < m.P.length) (hb : nn.b.toNat < m.P.length) (hj : nn.jn = true) (hh : HasN w (mapN φ nn) r) : φ nn.a.toNat + φ nn.b.toNat + 1 = r ∧ band .i64 ((φ nn.a.toNat : Nat) + 1) ((φ nn.b.toNat : Nat) + 1) = 0 := by
  obtain ⟨q, hq, ⟨s1, _, s3⟩, s4⟩ := hh
  have hjq : (nd w q).jn = true := s1.trans hj
  obtain ⟨e1, e2⟩ := s3 hjq
  obtain ⟨n1, n2⟩ := nodes_join hw.nodes hq hjq
  have r1 : ro w (mapN φ nn).a.toNat = φ nn.a.toNat := roots_ok hw.root (h.lt _ ha)
  have r2 : ro w (mapN φ nn).b.toNat = φ nn.b.toNat := roots_ok hw.root (h.lt _ hb)
  rw [e1, r1, e2, r2] at n1 n2
  rw [s4] at n1
  exact ⟨n1, n2⟩
theorem Good.tree {n : Nat} {w m : Mm} {φ : Nat → Nat} (hw : IsW n w) (h : Good w φ m) : ∀ (k g : Nat), φ g < k → g < m.P.length → ∃ t, mkT m 4 (ro m g) t
  | 0, _, hk, _ => by omega
  | k + 1, g, hk, hg => by
    obtain ⟨i, hi, hr⟩ := h.ne g hg
    have hf := may_f h.may
    have hge := gi_lt hf hi
    have r3 : ro w (φ (gi m i)) = φ (gi m i) := roots_ok hw.root (h.hom.lt _ hge)
    have r4 : φ (gi m i) = φ g := by rw [← r3, h.hom.root _ _ hge hg hr, roots_ok hw.root (h.hom.lt _ hg)]
    rw [← hr]
    cases hj : (nd m i).jn with
    | false =>
      refine ⟨.leaf (nd m i).occ, i, hi, rfl, ?_⟩
      unfold stepM
      rw [if_neg (show ¬ (m.N.getD i nd0).jn = true by rw [show (m.N.getD i nd0).jn = false from hj]; decide)]
    | true =>
      obtain ⟨ha, hb⟩ := jn_lt hf hi hj
      obtain ⟨n1, n2⟩ := hom_parts hw h.hom ha hb hj (h.hom.has i hi)
      rw [r3, r4] at n1
      obtain ⟨u, hu⟩ := h.tree hw k (nd m i).a.toNat (by omega) ha
      obtain ⟨v, hv⟩ := h.tree hw k (nd m i).b.toNat (by omega) hb
      have su := h.set hw ha hu
      have sv := h.set hw hb hv
      have hm := (may_join (mkT_may hf hu) (mkT_may hf hv) (by rw [su, sv]; exact n2)).1
      exact ⟨_, join_in hj (self_has hi) hu hv hm⟩
theorem put_good {n : Nat} {w m : Mm} {φ : Nat → Nat} (hw : IsW n w) (h : Good w φ m) {nn : Nd} (hn : m.node nn = true) (hj : nn.jn = true) {g : Int} (hg : g = -1 ∨ m.inG g = true) {r : Nat} (hr : r < w.P.length) (hh : HasN w (mapN φ nn) (ro w r)) (hgr : g ≠ -1 → ro w r = ro w (φ g.toNat)) :
    ∃ (k : Nat) (φ' : Nat → Nat), (m.put nn g).2 = ((k : Int), 0) ∧ PutOk m nn g (m.put nn g).1 k ∧ (∀ a, a < m.P.length → φ' a = φ a) ∧ ro w (φ' k) = ro w r ∧ Good w φ' (m.put nn g).1 := by
  have hf := may_f h.may
  have hc := ((may_iff m).1 h.may).2
  obtain ⟨hN, hP⟩ := h.short
  rcases put_spec h.may hn hg with ⟨_, _, h3, _⟩ | ⟨k, k1, k2, _⟩
  · omega
  obtain ⟨φ', p1, p2, p3⟩ := k2.least w φ r ((may_iff w).1 hw.may).2 h.hom hr hh hgr
  have hnew := put_new h.may hn hg (by rw [k1])
  refine ⟨k, φ', k1, k2, p1, p3, ?_⟩
  clear k1
  generalize (m.put nn g).1 = x at k2 hnew p2 ⊢
  refine ⟨k2.may, p2, fun a ha => ?_, by have := k2.pn; have := h.pn; omega, ?_⟩
  · have old : a < m.P.length → ∃ i, i < x.N.length ∧ ro x (gi x i) = ro x a := fun ha => by
      obtain ⟨i, hi, hr⟩ := h.ne a ha
      exact ⟨i, Nat.lt_of_lt_of_le hi k2.ext.nlen, by rw [k2.ext.grp i hi]; exact k2.ext.eqv (gi_lt hf hi) ha hr⟩
    rcases hnew with ⟨_, hp⟩ | ⟨_, h1, hp | ⟨hp, hl⟩⟩
    · exact old (by omega)
    · exact old (by omega)
    · by_cases hlt : a < m.P.length
      · exact old hlt
      · exact ⟨m.N.length, by omega, by rw [hl, show a = m.P.length by omega]⟩
  · obtain ⟨L, l1, l2, l3⟩ := h.few
    have hup : ∀ t ∈ L, ∃ a, a < x.P.length ∧ mkT x 4 (ro x a) t := fun t ht => by
      obtain ⟨a, ha, ht⟩ := l3 t ht
      exact ⟨a, Nat.lt_of_lt_of_le ha k2.ext.plen, k2.ext.made hf ha ht⟩
    rcases hnew with ⟨hnl, _⟩ | ⟨hno, hnl, _⟩
    · exact ⟨L, l1, by omega, hup⟩
    · obtain ⟨_, ha, hb⟩ := node_join hn hj
      have ha' : nn.a.toNat < m.P.length := by omega
      have hb' : nn.b.toNat < m.P.length := by omega
      obtain ⟨u, hu⟩ := h.tree hw _ nn.a.toNat (Nat.lt_succ_self _) ha'
      obtain ⟨v, hv⟩ := h.tree hw _ nn.b.toNat (Nat.lt_succ_self _) hb'
      have su := h.set hw ha' hu
      have sv := h.set hw hb' hv
      obtain ⟨n1, n2⟩ := hom_parts hw h.hom ha' hb' hj hh
      have hm := (may_join (mkT_may hf hu) (mkT_may hf hv) (by rw [su, sv]; exact n2)).1
      refine ⟨L ++ [.join u v], ?_, by simp [l2, hnl], fun t ht => ?_⟩
      · rw [List.nodup_append]
        refine ⟨l1, by simp, fun s hs t ht he => ?_⟩
        obtain rfl := List.mem_singleton.1 ht
        subst he
        obtain ⟨a, ha, hk⟩ := l3 _ hs
        obtain ⟨i, hi, hji, _, hu', hv', _⟩ := join_out hk
        exact hno i hi ⟨hji.trans hj.symm, fun hx => (by rw [hji] at hx; cases hx), fun _ => ⟨mk_one hc hu' hu, mk_one hc hv' hv⟩⟩
      · rcases List.mem_append.1 ht with ht | ht
        · exact hup t ht
        · obtain rfl := List.mem_singleton.1 ht
          refine ⟨k, k2.lt, ?_⟩
          rw [k2.self]
          exact join_in hj k2.has (k2.ext.made hf ha' hu) (k2.ext.made hf hb' hv) hm
theorem do_good {n : Nat} {w m : Mm} {φ : Nat → Nat} (hw : IsW n w) (h : Good w φ m) {j : Jb} (hj : j ∈ m.jobs0) : (m.do0 j).2 = 0 ∧ DoOk m j (m.do0 j).1 ∧ ∃ φ' : Nat → Nat, (∀ a, a < m.P.length → φ' a = φ a) ∧ Good w φ' (m.do0 j).1 := by
  have hf := may_f h.may
  obtain ⟨hN, hP⟩ := h.short
  have hok : (m.do0 j).2 = 0 ∧ DoOk m j (m.do0 j).1 := by
    rcases do_ok h.may hj with ⟨_, h2⟩ | h2
    · omega
    · exact h2
  refine ⟨hok.1, hok.2, ?_⟩
  have hs := sat_hom hw.full hf h.hom hj
  obtain ⟨e, he, hjn, h1⟩ := (job_iff hf).1 hj
  obtain ⟨hG, hGi, hG1⟩ := G_in hf he
  obtain ⟨_, ha, hb⟩ := node_join (form_N hf he) hjn
  have hge := gi_lt hf he
  have hgt : (m.G.getD e 0).toNat = gi m e := rfl
  rcases h1 with rfl | ⟨f, hfl, hfj, hr, rfl⟩
  · have hs' : SatT m w φ e := hs
    obtain ⟨k, φ', k1, k2, k3, k4, k5⟩ := put_good hw h (nn := turnN m e) (nodeJ hb ha) rfl (.inr hGi) (h.hom.lt _ hge) hs' (fun _ => by rw [hgt])
    have hd : (m.do0 ⟨false, e, 0⟩).1 = (m.put (turnN m e) (m.G.getD e 0)).1 := by
      rw [do0_def, if_neg Bool.false_ne_true]; rfl
    rw [hd]
    exact ⟨φ', k3, k5⟩
  · obtain ⟨r, hr', s1, s2⟩ := (show SatM m w φ e f from hs)
    obtain ⟨_, fa, fb⟩ := node_join (form_N hf hfl) hfj
    obtain ⟨k, φ1, k1, k2, k3, k4, k5⟩ := put_good hw h (nn := moveN m e f) (nodeJ fb hb) rfl (.inl rfl) hr' s1 (fun hx => absurd rfl hx)
    have hd2 : m.do2 ⟨true, e, f⟩ = m.put (moveN m e f) (-1) := rfl
    have hd3 : m.do3 ⟨true, e, f⟩ = (m.do2 ⟨true, e, f⟩).1.put (ndJ (nd m f).a (m.do2 ⟨true, e, f⟩).2.1) (m.G.getD e 0) := rfl
    have hyp := k2.ext.plen
    have hny : (m.put (moveN m e f) (-1)).1.node (ndJ (nd m f).a (k : Int)) = true := nodeJ ⟨fa.1, by have := fa.2; show (m.N.getD f nd0).a < _; omega⟩ ⟨by omega, by have := k2.lt; omega⟩
    have hGy : (m.put (moveN m e f) (-1)).1.inG (m.G.getD e 0) = true := by
      rw [inG_cut, Bool.and_eq_true, decide_eq_true_eq, decide_eq_true_eq]
      omega
    have ef : φ1 (nd m f).a.toNat = φ (nd m f).a.toNat := k3 _ (by show (m.N.getD f nd0).a.toNat < _; omega)
    have ee : φ1 (gi m e) = φ (gi m e) := k3 _ hge
    obtain ⟨l, φ2, l1, l2, l3, l4, l5⟩ := put_good hw k5 (nn := ndJ (nd m f).a (k : Int)) hny rfl (.inr hGy) (h.hom.lt _ hge) (s2.congr ⟨rfl, fun _ => rfl, fun _ => ⟨by show ro w _ = ro w (φ1 (nd m f).a.toNat); rw [ef]; exact congrArg (ro w) (Int.toNat_natCast _), k4.symm⟩⟩) (fun _ => by rw [hgt, ee])
    have hd : (m.do0 ⟨true, e, f⟩).1 = ((m.put (moveN m e f) (-1)).1.put (ndJ (nd m f).a (k : Int)) (m.G.getD e 0)).1 := by
      rw [do0_def, if_pos rfl, hd3, hd2, k1, if_pos rfl]
      dsimp only
      rw [l1, if_pos rfl]
    rw [hd]
    exact ⟨φ2, fun a ha => (l3 a (Nat.lt_of_lt_of_le ha hyp)).trans (k3 a ha), l5⟩
theorem next_none {m : Mm} {done : List Jb} {picks : List Int} (h : (nextJ m done picks).2.1 = false) : leftJ m done = [] := by
  unfold nextJ at h
  split at h
  · assumption
  · cases h
theorem run_good {n : Nat} {w : Mm} (hw : IsW n w) : ∀ (f : Nat) (m : Mm) (done : List Jb) (picks : List Int) (φ : Nat → Nat), Good w φ m → done.Nodup → (∀ j ∈ done, okJob j ∧ j ∈ m.jobs0 ∧ Sat m m (fun g => g) j) → 320001 ≤ f + done.length →
    (runF f m done picks).2.2 = 0 ∧ m.P.length ≤ (runF f m done picks).1.P.length ∧ (∀ j ∈ (runF f m done picks).1.jobs0, Sat (runF f m done picks).1 (runF f m done picks).1 (fun g => g) j) ∧ ∃ φ' : Nat → Nat, (∀ a, a < m.P.length → φ' a = φ a) ∧ Good w φ' (runF f m done picks).1
  | 0, m, done, picks, φ, h, hn, hd, hf => by
    have := done_few hn fun j hj => (hd j hj).1
    omega
  | f + 1, m, done, picks, φ, h, hn, hd, hfu => by
    have hf := may_f h.may
    rw [runF]
    cases hb : (nextJ m done picks).2.1 with
    | false =>
      rw [if_neg Bool.false_ne_true]
      have hl := next_none hb
      refine ⟨rfl, Nat.le_refl _, fun j hj => ?_, φ, fun _ _ => rfl, h⟩
      by_cases hm : j ∈ done
      · exact (hd j hm).2.2
      · have := mem_left.2 ⟨hj, hm⟩
        rw [hl] at this
        cases this
    | true =>
      rw [if_pos rfl]
      obtain ⟨hj, hjd⟩ := mem_left.1 (next_left hb)
      generalize (nextJ m done picks).1 = j at hj hjd
      generalize (nextJ m done picks).2.2 = pk
      obtain ⟨k1, k2, φ1, k3, k4⟩ := do_good hw h hj
      rw [if_pos k1]
      have hpl := job_places hj
      have hsh := h.short
      have hxf := may_f k4.may
      have hok : okJob j := ⟨hpl.1, by omega, hpl.2.2.1, by omega⟩
      have hnew : ∀ i, i ∈ m.jobs0 → (Sat m m (fun g => g) i ∨ i = j) → i ∈ (m.do0 j).1.jobs0 ∧ Sat (m.do0 j).1 (m.do0 j).1 (fun g => g) i := fun i hi hs => by
        refine ⟨job_kept hf hxf k2.ext hi, ?_⟩
        refine (Sat.from_ hf k2.ext (fun _ _ => rfl) hi).1 ?_
        rcases hs with hs | rfl
        · exact Sat.ext hf hf (ExtM.refl hf) k2.ext hi hs
        · exact k2.sat
      have c1 : (done ++ [j]).Nodup := by
        rw [List.nodup_append]
        exact ⟨hn, by simp, fun x hx y hy => by obtain rfl := List.mem_singleton.1 hy; exact fun e => hjd (e ▸ hx)⟩
      have c2 : ∀ i ∈ done ++ [j], okJob i ∧ i ∈ (m.do0 j).1.jobs0 ∧ Sat (m.do0 j).1 (m.do0 j).1 (fun g => g) i := fun i hi => by
        rcases List.mem_append.1 hi with hi | hi
        · obtain ⟨d1, d2, d3⟩ := hd i hi
          exact ⟨d1, hnew i d2 (.inl d3)⟩
        · obtain rfl := List.mem_singleton.1 hi
          exact ⟨hok, hnew _ hj (.inr rfl)⟩
      have c3 : 320001 ≤ f + (done ++ [j]).length := by
        rw [List.length_append, List.length_cons, List.length_nil]
        omega
      obtain ⟨r1, r2, r3, φ2, r4, r5⟩ := run_good hw f (m.do0 j).1 (done ++ [j]) pk φ1 k4 c1 c2 c3
      have hp := k2.ext.plen
      exact ⟨r1, Nat.le_trans hp r2, r3, φ2, fun a ha => (r4 a (Nat.lt_of_lt_of_le ha hp)).trans (k3 a ha), r5⟩
end
section
def homB (m w : Mm) (f : Nat → Nat) : Bool := (List.range m.P.length).all (fun g => decide (f g < w.P.length) && (List.range m.P.length).all fun g' => !decide (ro m g = ro m g') || decide (ro w (f g) = ro w (f g'))) &&
  (List.range m.N.length).all fun i => hasB w (mapN f (nd m i)) (ro w (f (gi m i)))
theorem homB_ok {m w : Mm} {f : Nat → Nat} (h : homB m w f = true) : HomM m w f := by
  unfold homB at h
  rw [Bool.and_eq_true, List.all_eq_true, List.all_eq_true] at h
  obtain ⟨h1, h2⟩ := h
  refine ⟨fun g hg => ?_, fun g g' hg hg' hr => ?_, fun i hi => hasB_ok (h2 i (List.mem_range.2 hi))⟩
  · have := h1 g (List.mem_range.2 hg)
    rw [Bool.and_eq_true, decide_eq_true_eq] at this
    exact this.1
  · have := h1 g (List.mem_range.2 hg)
    rw [Bool.and_eq_true, List.all_eq_true] at this
    have := this.2 g' (List.mem_range.2 hg')
    rw [decide_eq_true hr] at this
    simpa using this
def goodB (m : Mm) (L : List Tr) : Bool := (List.range m.P.length).all (fun g => (List.range m.N.length).any fun i => decide (ro m (gi m i) = ro m g)) && decide (m.P.length ≤ m.N.length) && decide ((L.map (cdT 4)).Nodup) && decide (L.length = m.N.length) &&
  L.all fun t => (List.range m.P.length).any fun g => mkB m 4 (ro m g) t
theorem goodB_ok {m w : Mm} {f : Nat → Nat} {L : List Tr} (hm : m.may = true) (h1 : homB m w f = true) (h2 : goodB m L = true) : Good w f m := by
  unfold goodB at h2
  simp only [Bool.and_eq_true, List.all_eq_true, decide_eq_true_eq, List.any_eq_true, List.mem_range] at h2
  obtain ⟨⟨⟨⟨k1, k2⟩, k3⟩, k4⟩, k5⟩ := h2
  refine ⟨hm, homB_ok h1, k1, k2, L, ?_, k4, fun t ht => ?_⟩
  · exact (List.pairwise_map.1 k3).imp fun h e => h (congrArg _ e)
  · obtain ⟨g, hg, hk⟩ := k5 t ht
    exact ⟨g, hg, (mkB_iff m _ _ _).1 hk⟩
def W0 : Nat → Mm
  | 1 => W1
  | 2 => W2
  | 3 => W3
  | _ => W4
def f0 (n : Nat) (g : Nat) : Nat := if g < n then 2 ^ g - 1 else 2 ^ (g - n + 2) - 2
def firstT : Nat → Tr
  | 0 => .leaf 0
  | k + 1 => .join (firstT k) (.leaf ((k + 1 : Nat) : Int))
def L0 (n : Nat) : List Tr := ((List.range n).map fun k => .leaf ((k : Nat) : Int)) ++ (List.range (n - 1)).map fun k => firstT (k + 1)
def g0 (n : Nat) : Nat := if n = 1 then 0 else 2 * n - 2
theorem W0_is : ∀ n, 1 ≤ n → n ≤ 4 → IsW n (W0 n)
  | 1, _, _ => W1_is
  | 2, _, _ => W2_is
  | 3, _, _ => W3_is
  | 4, _, _ => W4_is
  | 0, h, _ => by omega
  | n + 5, _, h => by omega
theorem st_good : ∀ n, 1 ≤ n → n ≤ 4 → Good (W0 n) (f0 n) (stM n (n - 1)) ∧ g0 n < (stM n (n - 1)).P.length ∧ f0 n (g0 n) + 2 = 2 ^ n ∧ lastM n (n - 1) = (g0 n : Nat)
  | 1, _, _ => ⟨goodB_ok (L := L0 1) (by decide +kernel) (by decide +kernel) (by decide +kernel), by decide +kernel, by decide +kernel, by decide +kernel⟩
  | 2, _, _ => ⟨goodB_ok (L := L0 2) (by decide +kernel) (by decide +kernel) (by decide +kernel), by decide +kernel, by decide +kernel, by decide +kernel⟩
  | 3, _, _ => ⟨goodB_ok (L := L0 3) (by decide +kernel) (by decide +kernel) (by decide +kernel), by decide +kernel, by decide +kernel, by decide +kernel⟩
  | 4, _, _ => ⟨goodB_ok (L := L0 4) (by decide +kernel) (by decide +kernel) (by decide +kernel), by decide +kernel, by decide +kernel, by decide +kernel⟩
  | 0, h, _ => by omega
  | n + 5, _, h => by omega
structure Ran (n : Nat) (x : Mm) (φ : Nat → Nat) : Prop where
  good : Good (W0 n) φ x
  full : FullC x
  fullT : x.full = true
  g0lt : g0 n < x.P.length
  g0is : φ (g0 n) + 2 = 2 ^ n
theorem ran (n : Nat) (h1 : 1 ≤ n) (h4 : n ≤ 4) (picks : List Int) : ((stM n (n - 1)).run picks).2.2 = 0 ∧ ∃ φ, Ran n ((stM n (n - 1)).run picks).1 φ := by
  obtain ⟨k1, k2, k3, _⟩ := st_good n h1 h4
  have hr := run_good (W0_is n h1 h4) 320001 (stM n (n - 1)) [] picks (f0 n) k1 List.nodup_nil (fun j hj => by cases hj) (by simp)
  rw [run_cut, if_pos k1.may]
  obtain ⟨r1, r2, r3, φ, r4, r5⟩ := hr
  refine ⟨r1, φ, r5, fullC_of (may_f r5.may) r3, full_true r5.may (by have := r5.short; omega) (by have := r5.short; omega) r3, Nat.lt_of_lt_of_le k2 r2, by rw [r4 _ k2]; exact k3⟩
theorem Ran.all {n : Nat} (hn : 1 ≤ n ∧ n ≤ 4) {x : Mm} {φ : Nat → Nat} (h : Ran n x φ) {g : Nat} (hg : g < x.P.length) {t : Tr} : mkT x 4 (ro x g) t ↔ t ∈ allT 4 ((φ g : Nat) + 1) := by
  have hf := may_f h.good.may
  have hw := W0_is n hn.1 hn.2
  rw [allT_mem]
  constructor
  · intro hk
    exact ⟨mkT_may hf hk, h.good.set hw hg hk⟩
  · rintro ⟨hm, hs⟩
    obtain ⟨u, hu⟩ := h.good.tree hw _ g (Nat.lt_succ_self _) hg
    exact full_set h.full hu (mkT_may hf hu) hm ((h.good.set hw hg hu).trans hs.symm)
theorem treesM_nodup (m : Mm) (g : Int) : (treesM m g).Nodup := by
  unfold treesM
  split
  · exact (List.mergeSort_perm _ _).nodup_iff.2 (allTs_nodup.filter _)
  · exact List.nodup_nil
theorem allT_nodup' : ∀ a : Fin 16, ((allT 4 (a.val : Int)).map (cdT 4)).Nodup := by decide +kernel
theorem allT_nodup {s : Nat} (h : s < 16) : (allT 4 (s : Int)).Nodup :=
  (List.pairwise_map.1 (allT_nodup' ⟨s, h⟩)).imp fun h e => h (congrArg _ e)
theorem Ran.trees {n : Nat} (hn : 1 ≤ n ∧ n ≤ 4) {x : Mm} {φ : Nat → Nat} (h : Ran n x φ) : (treesM x (g0 n : Nat)).length = (allT 4 ((2 ^ n - 1 : Nat) : Int)).length ∧ ∀ t ∈ allT 4 ((2 ^ n - 1 : Nat) : Int), t ∈ treesM x (g0 n : Nat) := by
  have hp : 2 ^ n - 1 < 16 := by
    have : 2 ^ n ≤ 2 ^ 4 := Nat.pow_le_pow_right (by omega) hn.2
    omega
  have e : ((φ (g0 n) : Nat) : Int) + 1 = ((2 ^ n - 1 : Nat) : Int) := by
    have := h.g0is
    omega
  have hiff : ∀ t, t ∈ treesM x (g0 n : Nat) ↔ t ∈ allT 4 ((2 ^ n - 1 : Nat) : Int) := fun t => by
    have ha := h.all hn h.g0lt (t := t)
    rw [e] at ha
    rw [treesM_mem, ← ha, Int.toNat_natCast]
    exact ⟨fun hh => hh.2.2, fun hh => ⟨⟨h.good.may, by omega, by have := h.g0lt; omega⟩, mkT_may (may_f h.good.may) hh, hh⟩⟩
  refine ⟨?_, fun t ht => (hiff t).2 ht⟩
  exact ((List.perm_ext_iff_of_nodup (treesM_nodup _ _) (allT_nodup hp)).2 hiff).length_eq
end
end Go.Sim.Try
namespace Go.Sim.Try
open Go Go.Sim
open Classical in
theorem rel_le {A B : List Nat} {R : Nat → Nat → Prop} (hA : A.Nodup) (h : ∀ a ∈ A, ∃ b ∈ B, R a b) (hi : ∀ a ∈ A, ∀ a' ∈ A, ∀ b, R a b → R a' b → a = a') : A.length ≤ B.length := by
  have hg : ∃ g : Nat → Nat, ∀ a ∈ A, g a ∈ B ∧ R a (g a) := by
    refine ⟨fun a => if h : ∃ b ∈ B, R a b then Classical.choose h else 0, fun a ha => ?_⟩
    have h1 := h a ha
    dsimp only
    rw [dif_pos h1]
    exact Classical.choose_spec h1
  obtain ⟨g, hg⟩ := hg
  have hn : (A.map g).Nodup := by
    rw [List.nodup_iff_pairwise_ne, List.pairwise_map]
    refine (List.Pairwise.and_mem.1 hA).imp fun {a b} ⟨ha, hb, hne⟩ he => hne ?_
    exact hi a ha b hb (g b) (he ▸ (hg a ha).2) (hg b hb).2
  have := nodup_sub hn (m := B) fun b hb => by
    obtain ⟨a, ha, rfl⟩ := List.mem_map.1 hb
    exact (hg a ha).1
  rwa [List.length_map] at this
theorem sum_one {R : List Nat} (hR : R.Nodup) {k : Nat} : (R.map fun g => if k = g then 1 else 0).sum = if k ∈ R then 1 else 0 := by
  induction R with
  | nil => rfl
  | cons g R ih =>
    have hR' := List.nodup_cons.1 hR
    rw [List.map_cons, List.sum_cons, ih hR'.2]
    by_cases hk : k = g
    · subst hk
      rw [if_pos rfl, if_neg hR'.1, if_pos (List.mem_cons_self)]
    · rw [if_neg hk, Nat.zero_add]
      by_cases hm : k ∈ R
      · rw [if_pos hm, if_pos (List.mem_cons_of_mem _ hm)]
      · rw [if_neg hm, if_neg (fun h => (List.mem_cons.1 h).elim hk hm)]
theorem sum_add (f g : Nat → Nat) : ∀ R : List Nat, (R.map fun x => f x + g x).sum = (R.map f).sum + (R.map g).sum
  | [] => rfl
  | x :: R => by simp only [List.map_cons, List.sum_cons, sum_add f g R]; omega
theorem sum_part {R : List Nat} (hR : R.Nodup) (key : Nat → Nat) : ∀ F : List Nat, (∀ i ∈ F, key i ∈ R) → (R.map fun g => (F.filter fun i => decide (key i = g)).length).sum = F.length
  | [], _ => by
    simp only [List.filter_nil, List.length_nil]
    clear hR
    induction R with
    | nil => rfl
    | cons g R ih => rw [List.map_cons, List.sum_cons, ih (fun i hi => by cases hi)]
  | i :: F, h => by
    have e : (fun g => ((i :: F).filter fun i => decide (key i = g)).length) = fun g => (if key i = g then 1 else 0) + (F.filter fun i => decide (key i = g)).length := by
      funext g
      rw [List.filter_cons]
      by_cases hk : key i = g
      · rw [if_pos (by rw [decide_eq_true hk]), if_pos hk, List.length_cons]; omega
      · rw [if_neg (by rw [decide_eq_false hk]; decide), if_neg hk]; omega
    rw [e, sum_add, sum_one hR, if_pos (h i (.head _)), sum_part hR key F fun j hj => h j (.tail _ hj), List.length_cons]
    omega
def rootL (m : Mm) : List Nat := (List.range m.P.length).filter fun (g : Nat) => decide (m.find (g : Int) = (g : Int))
def firstL (m : Mm) : List Nat := (List.range m.N.length).filter fun i => decide (m.at1 i = i)
theorem find_ro {m : Mm} (hf : m.form = true) {g : Nat} (hg : g < m.P.length) : m.find (g : Int) = (ro m g : Nat) := findS_at (form_P hf) hg
theorem mem_rootL {m : Mm} (hf : m.form = true) {g : Nat} : g ∈ rootL m ↔ g < m.P.length ∧ ro m g = g := by
  unfold rootL
  rw [List.mem_filter, List.mem_range, decide_eq_true_eq]
  refine and_congr_right fun hg => ?_
  rw [find_ro hf hg]
  exact ⟨fun h => by exact_mod_cast h, fun h => by exact_mod_cast h⟩
theorem mem_firstL {m : Mm} {i : Nat} : i ∈ firstL m ↔ i < m.N.length ∧ m.at1 i = i := by
  unfold firstL
  rw [List.mem_filter, List.mem_range, decide_eq_true_eq]
theorem of_sum {m : Mm} (hm : m.may = true) : ((rootL m).map fun g => (m.of (g : Nat)).length).sum = (firstL m).length := by
  have hf := may_f hm
  have hR : (rootL m).Nodup := List.nodup_range.filter _
  rw [← sum_part hR (fun i => ro m (gi m i)) (firstL m) fun i hi => by
    have hi' := (mem_firstL.1 hi).1
    have hg := gi_lt hf hi'
    exact (mem_rootL hf).2 ⟨ro_lt hf hg, ro_idem hf hg⟩]
  refine congrArg List.sum (List.map_congr_left fun g hg => ?_)
  obtain ⟨hgl, hgr⟩ := (mem_rootL hf).1 hg
  have hfd := find_ro hf hgl
  rw [of_cut, hm, hfd, hgr, if_pos (by simp), List.length_map, firstL, List.filter_filter]
  refine congrArg List.length (List.filter_congr fun i hi => ?_)
  rw [List.mem_range] at hi
  have hG := form_G hf hi
  have e : m.G.getD i 0 = ((gi m i : Nat) : Int) := by unfold gi; omega
  rw [e, find_ro hf (gi_lt hf hi)]
  congr 1
  exact decide_eq_decide.2 ⟨fun h => by exact_mod_cast h, fun h => by exact_mod_cast h⟩
theorem some_tree : ∀ s : Fin 16, 1 ≤ s.val → allT 4 (s.val : Int) ≠ [] := by
  have : ∀ s : Fin 16, (decide (1 ≤ s.val) && (allT 4 (s.val : Int)).isEmpty) = false := by decide +kernel
  intro s hs he
  have h := this s
  rw [he, decide_eq_true hs] at h
  cases h
theorem tree_of {s : Nat} (h1 : 1 ≤ s) (h2 : s < 16) : ∃ t : Tr, t.may = true ∧ (setT 4 t).1 = (s : Int) := by
  obtain ⟨t, ht⟩ := List.exists_mem_of_ne_nil _ (some_tree ⟨s, h2⟩ h1)
  exact ⟨t, ((allT_mem 4 _ t).1 ht).1, ((allT_mem 4 _ t).1 ht).2⟩
theorem rest_of : ∀ (n : Fin 5) (s : Fin 16), s.val < 2 ^ n.val → band .i64 (s.val : Int) ((2 ^ n.val - 1 - s.val : Nat) : Int) = 0 := by decide +kernel
variable {n : Nat} {x : Mm} {φ : Nat → Nat}
theorem Ran.phi_ro (hn : 1 ≤ n ∧ n ≤ 4) (h : Ran n x φ) {g : Nat} (hg : g < x.P.length) : φ (ro x g) = φ g := by
  have hf := may_f h.good.may
  have hw := W0_is n hn.1 hn.2
  have hr := ro_lt hf hg
  have := h.good.hom.root _ _ hr hg (ro_idem hf hg)
  rwa [roots_ok hw.root (h.good.hom.lt _ hr), roots_ok hw.root (h.good.hom.lt _ hg)] at this
theorem pow16 (hn : n ≤ 4) : 2 ^ n ≤ 16 := by
  have : 2 ^ n ≤ 2 ^ 4 := Nat.pow_le_pow_right (by omega) hn
  exact this
theorem Ran.phi_lt (hn : 1 ≤ n ∧ n ≤ 4) (h : Ran n x φ) {g : Nat} (hg : g < x.P.length) : φ g + 1 < 2 ^ n := by
  have := h.good.hom.lt _ hg
  have := (W0_is n hn.1 hn.2).plen
  omega
theorem Ran.phi_inj (hn : 1 ≤ n ∧ n ≤ 4) (h : Ran n x φ) {g k : Nat} (hg : g < x.P.length) (hk : k < x.P.length) (he : φ g = φ k) : ro x g = ro x k := by
  have hp := pow16 hn.2
  have hl := h.phi_lt hn hg
  obtain ⟨t, h1, h2⟩ := tree_of (s := φ g + 1) (by omega) (by omega)
  have ha : t ∈ allT 4 ((φ g : Nat) + 1) := (allT_mem 4 _ t).2 ⟨h1, by rw [h2]; push_cast; rfl⟩
  have hb := ha
  rw [he] at hb
  exact mk_one ((may_iff x).1 h.good.may).2 ((h.all hn hg).2 ha) ((h.all hn hk).2 hb)
theorem Ran.onto (hn : 1 ≤ n ∧ n ≤ 4) (h : Ran n x φ) {s : Nat} (hs : s + 1 < 2 ^ n) : ∃ g, g < x.P.length ∧ φ g = s := by
  have hp := pow16 hn.2
  have hf := may_f h.good.may
  have hw := W0_is n hn.1 hn.2
  have hg0 := h.g0is
  by_cases hl : s + 2 = 2 ^ n
  · exact ⟨g0 n, h.g0lt, by omega⟩
  · obtain ⟨u, u1, u2⟩ := tree_of (s := s + 1) (by omega) (by omega)
    obtain ⟨v, v1, v2⟩ := tree_of (s := 2 ^ n - 1 - (s + 1)) (by omega) (by omega)
    have hb := rest_of ⟨n, by omega⟩ ⟨s + 1, by omega⟩ hs
    dsimp only at hb
    rw [← u2, ← v2] at hb
    obtain ⟨j1, j2⟩ := may_join u1 v1 hb
    have hk := (h.all hn h.g0lt (t := .join u v)).2 ((allT_mem 4 _ _).2 ⟨j1, by rw [j2, u2, v2]; omega⟩)
    obtain ⟨i, hi, hj, _, hu, _, _⟩ := join_out hk
    obtain ⟨ha, _⟩ := jn_lt hf hi hj
    have := h.good.set hw ha hu
    exact ⟨_, ha, by rw [u2] at this; omega⟩
theorem Ran.groups (hn : 1 ≤ n ∧ n ≤ 4) (h : Ran n x φ) : (rootL x).length = 2 ^ n - 1 := by
  have hf := may_f h.good.may
  have hR : (rootL x).Nodup := List.nodup_range.filter _
  have h1 := rel_le (A := rootL x) (B := List.range (2 ^ n - 1)) (R := fun g s => φ g = s) hR (fun g hg => by
    have hg' := ((mem_rootL hf).1 hg).1
    have := h.phi_lt hn hg'
    exact ⟨φ g, List.mem_range.2 (by omega), rfl⟩) (fun a ha b hb s e1 e2 => by
    obtain ⟨a1, a2⟩ := (mem_rootL hf).1 ha
    obtain ⟨b1, b2⟩ := (mem_rootL hf).1 hb
    have := h.phi_inj hn a1 b1 (e1.trans e2.symm)
    rwa [a2, b2] at this)
  have h2 := rel_le (A := List.range (2 ^ n - 1)) (B := rootL x) (R := fun s g => φ g = s) List.nodup_range (fun s hs => by
    obtain ⟨g, hg, he⟩ := h.onto hn (s := s) (by have := List.mem_range.1 hs; omega)
    exact ⟨ro x g, (mem_rootL hf).2 ⟨ro_lt hf hg, ro_idem hf hg⟩, by rw [h.phi_ro hn hg, he]⟩) (fun a _ b _ s e1 e2 => e1.symm.trans e2)
  rw [List.length_range] at h1 h2
  omega
theorem first_of {m : Mm} (hf : m.form = true) {i k : Nat} (hi : i < m.N.length) (hk : k < m.N.length) (hs : sameC m (nd m i) (nd m k)) : m.at1 i = m.at1 k := by
  show idxN _ _ = idxN _ _
  rw [cs_at hi, cs_at hk, (canon_eq hf (form_N hf hi) (form_N hf hk)).2 hs]
theorem leaf_out {m : Mm} {d g : Nat} {o : Int} (h : mkT m d g (.leaf o)) : ∃ i, i < m.N.length ∧ (nd m i).jn = false ∧ (nd m i).occ = o := by
  cases d with
  | zero => exact h.elim
  | succ d =>
    obtain ⟨i, hi, _, h2⟩ := h
    unfold stepM at h2
    split at h2
    · obtain ⟨u, v, _, _, he, _⟩ := h2
      exact (join_leaf he.symm).elim
    · rename_i hj
      exact ⟨i, hi, Bool.eq_false_iff.2 hj, (leaf_inj h2).symm⟩
theorem Ran.nodes (hn : 1 ≤ n ∧ n ≤ 4) (h : Ran n x φ) : (firstL x).length = (W0 n).N.length := by
  have hf := may_f h.good.may
  have hw := W0_is n hn.1 hn.2
  have hwf := may_f hw.may
  have hp := pow16 hn.2
  have hF : (firstL x).Nodup := List.nodup_range.filter _
  have hroot : ∀ {a b : Nat}, a < x.P.length → b < x.P.length → ro (W0 n) (φ a) = ro (W0 n) (φ b) → ro x a = ro x b := fun ha hb he => by
    rw [roots_ok hw.root (h.good.hom.lt _ ha), roots_ok hw.root (h.good.hom.lt _ hb)] at he
    exact h.phi_inj hn ha hb he
  have h1 := rel_le (A := firstL x) (B := List.range (W0 n).N.length) (R := fun i k => sameC (W0 n) (nd (W0 n) k) (mapN φ (nd x i))) hF (fun i hi => by
    obtain ⟨k, hk, hs, _⟩ := h.good.hom.has i (mem_firstL.1 hi).1
    exact ⟨k, List.mem_range.2 hk, hs⟩) (fun a ha b hb k e1 e2 => by
    obtain ⟨a1, a2⟩ := mem_firstL.1 ha
    obtain ⟨b1, b2⟩ := mem_firstL.1 hb
    have he := e1.symm.trans e2
    rw [← a2, ← b2]
    refine first_of hf a1 b1 ⟨he.1, he.2.1, fun hj => ?_⟩
    obtain ⟨p1, p2⟩ := jn_lt hf a1 hj
    obtain ⟨q1, q2⟩ := jn_lt hf b1 (he.1.symm.trans hj)
    obtain ⟨c1, c2⟩ := he.2.2 hj
    exact ⟨hroot p1 q1 c1, hroot p2 q2 c2⟩)
  have h2 := rel_le (A := List.range (W0 n).N.length) (B := firstL x) (R := fun k i => sameC (W0 n) (nd (W0 n) k) (mapN φ (nd x i))) List.nodup_range (fun k hk => by
    rw [List.mem_range] at hk
    have hgk := gi_lt hwf hk
    have hrk : ro (W0 n) (gi (W0 n) k) = gi (W0 n) k := roots_ok hw.root hgk
    have hpl := hw.plen
    obtain ⟨g, hg, he⟩ := h.onto hn (s := gi (W0 n) k) (by omega)
    have key : ∃ i, i < x.N.length ∧ sameC (W0 n) (nd (W0 n) k) (mapN φ (nd x i)) := by
      cases hj : (nd (W0 n) k).jn with
      | false =>
        have hs := nodes_leaf hw.nodes hk hj
        obtain ⟨_, _, o1, o2⟩ := node_leaf (form_N hwf hk) hj
        rw [hrk, ← he] at hs
        have hm : (Tr.leaf (nd (W0 n) k).occ).may = true := by
          rw [Tr.may, Tr.leaf, setT_nil, decide_eq_true o1, decide_eq_true o2]; rfl
        obtain ⟨i, hi, hij, hio⟩ := leaf_out ((h.all hn hg).2 ((allT_mem 4 _ _).2 ⟨hm, hs⟩))
        exact ⟨i, hi, hj.trans hij.symm, fun _ => hio.symm, fun hx => by rw [hj] at hx; cases hx⟩
      | true =>
        obtain ⟨n1, n2⟩ := nodes_join hw.nodes hk hj
        obtain ⟨ja, jb⟩ := jn_lt hwf hk hj
        have ra := roots_ok hw.root ja
        have rb := roots_ok hw.root jb
        rw [ra, rb] at n1 n2
        rw [hrk, ← he] at n1
        obtain ⟨u, u1, u2⟩ := tree_of (s := (nd (W0 n) k).a.toNat + 1) (by omega) (by omega)
        obtain ⟨v, v1, v2⟩ := tree_of (s := (nd (W0 n) k).b.toNat + 1) (by omega) (by omega)
        have hb : band .i64 (setT 4 u).1 (setT 4 v).1 = 0 := by rw [u2, v2]; push_cast; exact n2
        obtain ⟨j1, j2⟩ := may_join u1 v1 hb
        obtain ⟨i, hi, hij, _, hu, hv, _⟩ := join_out ((h.all hn hg).2 ((allT_mem 4 _ (.join u v)).2 ⟨j1, by rw [j2, u2, v2]; omega⟩))
        obtain ⟨ia, ib⟩ := jn_lt hf hi hij
        have sa := h.good.set hw ia hu
        have sb := h.good.set hw ib hv
        rw [u2] at sa
        rw [v2] at sb
        have ea : φ (nd x i).a.toNat = (nd (W0 n) k).a.toNat := by omega
        have eb : φ (nd x i).b.toNat = (nd (W0 n) k).b.toNat := by omega
        refine ⟨i, hi, hj.trans hij.symm, fun hx => (by rw [hj] at hx; cases hx), fun _ => ⟨?_, ?_⟩⟩
        · show ro _ _ = ro _ (φ (nd x i).a.toNat)
          rw [ea]
        · show ro _ _ = ro _ (φ (nd x i).b.toNat)
          rw [eb]
    obtain ⟨i, hi, hs⟩ := key
    obtain ⟨a1, a2⟩ := at1_same hf hi
    refine ⟨x.at1 i, mem_firstL.2 ⟨a1, first_of hf a1 hi a2⟩, hs.trans ?_⟩
    refine ⟨a2.1.symm, fun hx => (a2.2.1 (a2.1.trans hx)).symm, fun hx => ?_⟩
    have hx' : (nd x i).jn = true := hx
    obtain ⟨p1, p2⟩ := jn_lt hf hi hx'
    obtain ⟨q1, q2⟩ := jn_lt hf a1 (a2.1.trans hx')
    obtain ⟨c1, c2⟩ := a2.2.2 (a2.1.trans hx')
    exact ⟨h.good.hom.root _ _ p1 q1 c1.symm, h.good.hom.root _ _ p2 q2 c2.symm⟩) (fun a ha b hb i e1 e2 => once_ok hw.once (List.mem_range.1 ha) (List.mem_range.1 hb) (e1.trans e2.symm))
  rw [List.length_range] at h1 h2
  omega
end Go.Sim.Try
namespace Go.Sim.Try
open Go Go.Sim
attribute [local push_cast] aops_cons aops_nil aopG_none aopG_some aopP_eq aopE_eq aopC_eq aopE?_eq aopC?_eq aopB_eq aopB?_eq aopN_eq aopN?_eq anxt anext amrange alast amapNil abr anilq gopP_eq gopL_eq ahead_cons ahead_nil ahdG_none ahdG_some ahdP_eq ahdN_eq ahdC_eq ahdN?_eq ahdS_eq ahdS?_eq astoreN ahdC?_eq ghdP_eq ghdC_eq ghdC?_eq ghdZ_f ghdZ_t ahdI_eq ahdI?_eq ghdN?_eq aim_nil aim_cons isIn_nil isIn_none isIn_cons aimm aheP_eq aheA_eq aheC_eq aheC?_eq aheI?_eq aheA?_eq gheP_eq gheC_eq gheC?_eq gheZ_eq aheG_none aheG_some aheff_cons aheff_nil aapp gro_rsl gro_lit gro_esl opt_some opt_none no_eq acondT_true acondT_false acondT_lit abytes bytesU aw_skip aw_region aw_regionD aw_seq aw_cond aw_block aw_loop aw_exit aw_label aw_ret thn_normal thn_exit thn_ret inb_normal inb_exit inb_ret qret_ret qret_normal gcond apure aeff anew acallee ares aresT aresL aresC ares1 qfin_eq ev ofV evL gokL tget tput_some tput_none initT abin aint aun aload afaddr aiaddr afield aindex aextract apick pickv_lit Bool.or_false Bool.false_or Bool.or_true Bool.true_or imp_self aslice chunk roomB abound aconv abuild afill splice alen aminmax abuiltin anil apart Value.oneCell' astore aappend srcEs abuildSlice amakeSlice amapPut aclear aentry aestore alookup aput afind mget keyV sameV_int Option.isSome_some Option.isSome_none cond_true cond_false asets isEq plus_obj plus_nxt plus_add plus_set plus_del IntKind.bits Option.map_some Option.map_none Option.bind_some Option.bind_none Option.join_some Option.getD_some Option.getD_none Option.toList List.getElem?_toArray List.getElem?_cons_zero List.getElem?_cons_succ List.getElem?_nil List.length_cons List.length_nil List.length_map List.head?_cons List.cons_append List.nil_append List.append_nil List.map_cons List.map_nil List.getD_cons_zero List.getD_cons_succ List.replicate_succ List.replicate_zero List.set_cons_zero List.set_cons_succ List.take_succ_cons List.take_zero List.drop_succ_cons List.drop_zero List.all_cons List.all_nil Nat.zero_add if_true if_false true_and and_true false_and and_false true_implies implies_true forall_const Bool.and_true Bool.true_and Bool.false_and Bool.and_false Bool.true_beq Bool.false_beq Bool.not_not beq_tt beq_ff Int.toNat_natCast decide_true decide_false Bool.not_true Bool.not_false Bool.true_eq_false Bool.false_eq_true false_implies exists_prop eq_self bne_self_eq_false beq_self_eq_true decide_eq_true_eq decide_eq_false_iff_not Bool.not_eq_true' Bool.not_eq_false' AV.int AV.bool AV.nilS ne_eq not_false_eq_true not_true_eq_false exists_eq_left exists_eq_left' Nat.lt_irrefl core_lit grd_lit acells_lit one_lit core_agg grd_agg acells_agg one_agg core_tup grd_tup acells_tup one_tup core_sl grd_sl acells_sl one_sl core_esl grd_esl acells_esl one_esl core_rsl grd_rsl acells_rsl one_rsl core_ptr grd_ptr acells_ptr one_ptr core_iptr grd_iptr acells_iptr one_iptr core_clo grd_clo acells_clo one_clo core_mp grd_mp acells_mp one_mp core_any grd_any acells_any one_any core_gv grd_gv fit_agg fit_lit fit_sl fit_esl fit_rsl fit_ptr fit_iptr fit_clo fit_mp retq_ret retq_normal set_nxt set_set plus_obj_set plus_set_set app_get0 app_get app_set0 app_set List.append_assoc List.length_append List.length_set Nat.lt_add_one Nat.add_lt_add_iff_right Nat.lt_add_right_iff_pos Nat.add_lt_add_iff_left List.mem_cons List.not_mem_nil or_false forall_eq forall_eq_or_imp lt_s0 lt_s1 lt_s2 lt_s3 lt_s4 lt_s5 lt_s6 lt_s7 lt_s8 pickv_t pickv_f or_nand or_nand2 imp_and_l SealT SealOs sealO_cells sl_lit sl_any sl_agg sl_tup sl_sl sl_rsl slO sl_esl sl_nil sl_eslesl sl_eslnil sl_rslrsl sl_eslrsl sl_nilrsl sl_ptr sl_iptr sl_ptri slP sl_clo sl_mp sl_gv sll_nil sll_cons slll_nil slll_cons shut_eq shutO Option.join_none Fn.func.injEq and_self sealL_self sealLL_self seal_self PureL PureLL Pure Nat.le_refl Nat.zero_le AV.lit.injEq Value.int.injEq Value.bool.injEq false_or or_true true_or Int.natCast_zero Int.ofNat_zero Int.cast_ofNat_Int Int.natCast_add Int.natCast_one Option.some.injEq piL_is sop_nil sop_cons sop_none sop_some sopO_some sop_new shut_pi shutL_nil shutL_cons exQ_exit exQ_ret exQ_normal Go.Sim.Try.ty_load1 Go.Sim.Try.ty_zero1 Go.Sim.Try.ty_load2 Go.Sim.Try.ty_zero2 Go.Sim.Try.ty_und2 Go.Sim.Try.ty_load3 Go.Sim.Try.ty_zero3 Go.Sim.Try.ty_und3 Go.Sim.Try.ty_load4 Go.Sim.Try.ty_zero4 Go.Sim.Try.ty_und4 Go.Sim.Try.ty_load5 Go.Sim.Try.ty_zero5 Go.Sim.Try.ty_und5 Go.Sim.Try.ty_load9 Go.Sim.Try.ty_zero9 Go.Sim.Try.ty_und9 Go.Sim.Try.ty_load21 Go.Sim.Try.ty_zero21 Go.Sim.Try.ty_und21 Go.Sim.Try.ty_load22 Go.Sim.Try.ty_zero22 Go.Sim.Try.ty_el22 Go.Sim.Try.ty_zeroE22 Go.Sim.Try.ty_load23 Go.Sim.Try.ty_zero23 Go.Sim.Try.ty_el23 Go.Sim.Try.ty_zeroE23 Go.Sim.Try.ty_load25 Go.Sim.Try.ty_zero25 Go.Sim.Try.ty_fld25_0 Go.Sim.Try.ty_part25_0 Go.Sim.Try.ty_fld25_1 Go.Sim.Try.ty_part25_1 Go.Sim.Try.ty_fld25_2 Go.Sim.Try.ty_part25_2 Go.Sim.Try.ty_struct25 Go.Sim.Try.ty_load29 Go.Sim.Try.ty_zero29 Go.Sim.Try.ty_el29 Go.Sim.Try.ty_zeroE29 Go.Sim.Try.ty_load34 Go.Sim.Try.ty_zero34 Go.Sim.Try.ty_und34 Go.Sim.Try.ty_load41 Go.Sim.Try.ty_zero41 Go.Sim.Try.ty_fld41_0 Go.Sim.Try.ty_part41_0 Go.Sim.Try.ty_fld41_1 Go.Sim.Try.ty_part41_1 Go.Sim.Try.ty_fld41_2 Go.Sim.Try.ty_part41_2 Go.Sim.Try.ty_struct41 Go.Sim.Try.ty_load47 Go.Sim.Try.ty_zero47 Go.Sim.Try.ty_el47 Go.Sim.Try.ty_zeroE47 Go.Sim.Try.ty_load55 Go.Sim.Try.ty_zero55 Go.Sim.Try.ty_fld55_0 Go.Sim.Try.ty_part55_0 Go.Sim.Try.ty_fld55_1 Go.Sim.Try.ty_part55_1 Go.Sim.Try.ty_fld55_2 Go.Sim.Try.ty_part55_2 Go.Sim.Try.ty_fld55_3 Go.Sim.Try.ty_part55_3 Go.Sim.Try.ty_struct55 Go.Sim.Try.ty_load56 Go.Sim.Try.ty_zero56 Go.Sim.Try.ty_load58 Go.Sim.Try.ty_zero58 Go.Sim.Try.ty_fld58_0 Go.Sim.Try.ty_part58_0 Go.Sim.Try.ty_fld58_1 Go.Sim.Try.ty_part58_1 Go.Sim.Try.ty_struct58 Go.Sim.Try.ty_load60 Go.Sim.Try.ty_zero60 Go.Sim.Try.ty_load67 Go.Sim.Try.ty_zero67 Go.Sim.Try.ty_el67 Go.Sim.Try.ty_zeroE67 Go.Sim.Try.ty_load68 Go.Sim.Try.ty_zero68 Go.Sim.Try.ty_und68 Go.Sim.Try.ty_vzero58 Go.Sim.Try.ty_load72 Go.Sim.Try.ty_zero72 Go.Sim.Try.ty_el72 Go.Sim.Try.ty_zeroE72 Go.Sim.Try.ty_load79 Go.Sim.Try.ty_zero79 Go.Sim.Try.ty_load80 Go.Sim.Try.ty_zero80 Go.Sim.Try.ty_und80 Go.Sim.Try.ty_vzero4 Go.Sim.Try.ty_load82 Go.Sim.Try.ty_zero82 Go.Sim.Try.ty_fld82_0 Go.Sim.Try.ty_part82_0 Go.Sim.Try.ty_fld82_1 Go.Sim.Try.ty_part82_1 Go.Sim.Try.ty_fld82_2 Go.Sim.Try.ty_part82_2 Go.Sim.Try.ty_struct82 Go.Sim.Try.ty_load86 Go.Sim.Try.ty_zero86 Go.Sim.Try.ty_und86 Go.Sim.Try.ty_vzero3 Go.Sim.Try.ty_load87 Go.Sim.Try.ty_zero87 Go.Sim.Try.ty_arr87 Go.Sim.Try.ty_part87_0 Go.Sim.Try.ty_part87_1 Go.Sim.Try.ty_struct87 Go.Sim.Try.ty_load98 Go.Sim.Try.ty_zero98 Go.Sim.Try.ty_und98 Go.Sim.Try.ty_load100 Go.Sim.Try.ty_zero100 Go.Sim.Try.ty_und100 Go.Sim.Try.ty_el100 Go.Sim.Try.ty_zeroE100 Go.Sim.Try.ty_load104 Go.Sim.Try.ty_zero104 Go.Sim.Try.ty_load109 Go.Sim.Try.ty_zero109 Go.Sim.Try.ty_load112 Go.Sim.Try.ty_zero112 Go.Sim.Try.ty_und112 Go.Sim.Try.ty_load119 Go.Sim.Try.ty_zero119 Go.Sim.Try.ty_und119 Go.Sim.Try.ty_load121 Go.Sim.Try.ty_zero121 Go.Sim.Try.ty_und121 Go.Sim.Try.ty_load129 Go.Sim.Try.ty_zero129 Go.Sim.Try.ty_und129 Go.Sim.Try.ty_load133 Go.Sim.Try.ty_zero133
section
attribute [local push_cast] encT_mk encT_take encT_len encT_one encTs_pure encT_pure encIs_pure encNs_pure encN_eq encM_eq encJ_eq encJs_pure plus_obj0 plus_set0 piL_is00 piL_is0 piL_isk encIs_one encNs_four
def rootU (m : Mm) (i : Nat) : List Nat := (List.range i).filter fun (g : Nat) => decide (m.find (g : Int) = (g : Int))
def noU (m : Mm) (i : Nat) : Nat := ((rootU m i).map fun g => (m.of (g : Nat)).length).sum
theorem rootU_succ (m : Mm) (i : Nat) : rootU m (i + 1) = if m.find (i : Int) = (i : Int) then rootU m i ++ [i] else rootU m i := by
  rw [rootU, List.range_succ, List.filter_append, List.filter_cons]
  by_cases h : m.find (i : Int) = (i : Int)
  · rw [if_pos (by rw [decide_eq_true h]), if_pos h]; rfl
  · rw [if_neg (by rw [decide_eq_false h]; decide), if_neg h]; simp [rootU]
theorem noU_succ (m : Mm) (i : Nat) : noU m (i + 1) = if m.find (i : Int) = (i : Int) then noU m i + (m.of (i : Nat)).length else noU m i := by
  unfold noU
  rw [rootU_succ]
  split
  · rw [List.map_append, List.sum_append]; simp
  · rfl
theorem of_le (m : Mm) (g : Int) : (m.of g).length ≤ m.N.length := by
  rw [of_cut]
  split
  · rw [List.length_map]
    exact Nat.le_trans (List.length_filter_le _ _) (by simp)
  · simp
theorem noU_le (m : Mm) : ∀ i, noU m i ≤ i * m.N.length ∧ (rootU m i).length ≤ i
  | 0 => by simp [noU, rootU]
  | i + 1 => by
    have h1 := noU_le m i
    have h2 := of_le m (i : Nat)
    rw [noU_succ, rootU_succ, Nat.succ_mul]
    split
    · rw [List.length_append, List.length_singleton]; omega
    · omega
set_option maxHeartbeats 4000000 in
theorem Sizes_ok (m : Mm) (hm : m.Small) : Quiet Go.Proofs.Try.prog 19 [encM m] (.tup [.int (rootU m m.P.length).length, .int (noU m m.P.length)]) := by
  refine quiet_of (rs := #[.tmp 2, .tmp 3]) Go.Proofs.Try.func19 rfl rfl rfl mixed rfl rfl fun H hs => ?_
  push_cast -implicitDefEqProofs [eq_self, iff_self, List.length_map]
  refine loop_at hs (σ := Nat) (fun i => i ≤ m.P.length) (fun i => m.P.length - i)
    (fun i => [(6, .int i), (5, .int (noU m i)), (4, .int (rootU m i).length), (1, .ptr (H.nxt + 0) 3 0 0)])
    (fun i => [some (.cells 3 [[.sl (m.N.map encN), .sl (m.G.map encI), .sl (m.P.map encI)]] 0)]) [some 0] 0 (by omega) rfl ?_ ?_ ?_
  · (try push_cast -implicitDefEqProofs [eq_self, iff_self, show noU m 0 = 0 from rfl, show (rootU m 0).length = 0 from rfl])
  · (try push_cast -implicitDefEqProofs [eq_self, iff_self])
  intro i hi
  by_cases hil : i < m.P.length
  · have hi' : ((i : Int) < (m.P.length : Int)) = True := by simp; omega
    have hF := FindM_ok m hm (i : Int)
    have hO := Of_ok m hm (i : Int)
    have h1 := rootU_succ m i
    have h2 := noU_succ m i
    have hle := noU_le m i
    have hof := of_le m (i : Int)
    have hmul : i * m.N.length ≤ 1000000 * 1000000 := Nat.mul_le_mul (by have := hm.2.2; omega) hm.1
    have hi3 := hm.2.2
    have hi4 := hm.1
    generalize m.find (i : Int) = f at *
    push_cast -implicitDefEqProofs [eq_self, iff_self, hi', List.length_map]
    refine callq hF ?_
    by_cases he : f = (i : Int)
    · have he' : (f = (i : Int)) = True := eq_true he
      rw [if_pos he] at h1 h2
      have e1 : ((rootU m (i + 1)).length : Int) = (rootU m i).length + 1 := by rw [h1, List.length_append, List.length_singleton]; push_cast
      have e2 : (noU m (i + 1) : Int) = noU m i + (m.of (i : Int)).length := by rw [h2]; push_cast
      generalize m.of (i : Int) = L at *
      generalize noU m i = a at *
      generalize (rootU m i).length = b at *
      push_cast -implicitDefEqProofs [eq_self, iff_self, he', List.length_map]
      refine callq hO ?_
      push_cast -implicitDefEqProofs [eq_self, iff_self, List.length_map]
      rw [wrap64 (n := (b : Int) + 1) (by omega) (by omega), wrap64 (n := (a : Int) + _) (by omega) (by omega), wrap64 (n := (i : Int) + 1) (by omega) (by omega)]
      refine next_at [some 0] (i + 1) (by omega) (by omega) rfl ?_ ?_
      · (try push_cast -implicitDefEqProofs [eq_self, iff_self, e1, e2])
      · (try push_cast -implicitDefEqProofs [eq_self, iff_self])
    · have he' : (f = (i : Int)) = False := eq_false he
      rw [if_neg he] at h1 h2
      push_cast -implicitDefEqProofs [eq_self, iff_self, he', List.length_map]
      rw [wrap64 (n := (i : Int) + 1) (by omega) (by omega)]
      refine next_at [some 0] (i + 1) (by omega) (by omega) rfl ?_ ?_
      · (try push_cast -implicitDefEqProofs [eq_self, iff_self, h1, h2])
      · (try push_cast -implicitDefEqProofs [eq_self, iff_self])
  · obtain rfl : i = m.P.length := by omega
    have hi' : ((m.P.length : Int) < (m.P.length : Int)) = False := by simp
    push_cast -implicitDefEqProofs [eq_self, iff_self, hi', List.length_map]
theorem W_nodes : ∀ k, 1 ≤ k → k ≤ 4 → (W0 k).N.length = [0, 1, 4, 15, 54].getD k 0
  | 1, _, _ => by decide +kernel
  | 2, _, _ => by decide +kernel
  | 3, _, _ => by decide +kernel
  | 4, _, _ => by decide +kernel
  | 0, h, _ => by omega
  | k + 5, _, h => by omega
theorem sizes_ran {k : Nat} (hk : 1 ≤ k ∧ k ≤ 4) {x : Mm} {φ : Nat → Nat} (h : Ran k x φ) : Quiet Go.Proofs.Try.prog 19 [encM x] (.tup [.int ((2 ^ k - 1 : Nat) : Int), .int ((W0 k).N.length : Nat)]) := by
  have h1 := Sizes_ok x (small_of h.good.may)
  have e1 : (rootU x x.P.length).length = 2 ^ k - 1 := h.groups hk
  have e2 : noU x x.P.length = (W0 k).N.length := (of_sum h.good.may).trans (h.nodes hk)
  rwa [e1, e2] at h1
set_option maxHeartbeats 4000000 in
theorem growOrder_ok (n : Int) (a b : List Int) (ha : a.length ≤ 140737488355328) (hb : b.length ≤ 140737488355328) : Quiet Go.Proofs.Try.prog 4 [.int n, .sl (a.map encI), .sl (b.map encI)] (.bool true) := by
  have hS := Start_ok n
  refine quiet_of (rs := #[.tmp 6]) Go.Proofs.Try.func4 rfl rfl rfl mixed rfl rfl fun H hs => ?_
  push_cast -implicitDefEqProofs [eq_self, iff_self]
  refine callq Awake_ok ?_
  push_cast -implicitDefEqProofs [eq_self, iff_self]
  refine callq hS ?_
  by_cases hn : 1 ≤ n ∧ n ≤ 4
  · by_cases hpa : 4000 < a.length
    · have hpa' : decide ((4000 : Int) < (a.length : Int)) = true := decide_eq_true (by omega)
      have hst : (start n).2.2 = true := by rw [start, if_pos hn]
      generalize start n = q at *
      obtain ⟨m, g, b⟩ := q
      dsimp only at hst
      subst hst
      push_cast -implicitDefEqProofs [eq_self, iff_self, hpa', List.length_map]
    have hpa' : decide ((4000 : Int) < (a.length : Int)) = false := decide_eq_false (by omega)
    by_cases hpb : 4000 < b.length
    · have hpb' : decide ((4000 : Int) < (b.length : Int)) = true := decide_eq_true (by omega)
      have hst : (start n).2.2 = true := by rw [start, if_pos hn]
      generalize start n = q at *
      obtain ⟨m, g, b⟩ := q
      dsimp only at hst
      subst hst
      push_cast -implicitDefEqProofs [eq_self, iff_self, hpa', hpb', List.length_map]
    have hpb' : decide ((4000 : Int) < (b.length : Int)) = false := decide_eq_false (by omega)
    obtain ⟨k, rfl⟩ : ∃ k : Nat, n = k := ⟨n.toNat, by omega⟩
    have hk1 : 1 ≤ k := by omega
    have hk4 : k ≤ 4 := by omega
    have hst : start (k : Int) = (stM k (k - 1), lastM k (k - 1), true) := by rw [start, if_pos hn]; rfl
    obtain ⟨hgood, _, _, _⟩ := st_good k hk1 hk4
    obtain ⟨hca, φ, hra⟩ := ran k hk1 hk4 a
    obtain ⟨hcb, ψ, hrb⟩ := ran k hk1 hk4 b
    have hRa := Run_ok (stM k (k - 1)) (small_of hgood.may) a (by omega)
    have hRb := Run_ok (stM k (k - 1)) (small_of hgood.may) b (by omega)
    have hSa := sizes_ran ⟨hk1, hk4⟩ hra
    have hSb := sizes_ran ⟨hk1, hk4⟩ hrb
    have hW := W_nodes k hk1 hk4
    rw [hst]
    clear hst hra hrb hgood
    generalize ((stM k (k - 1)).run a) = q at *
    obtain ⟨x, c, e⟩ := q
    generalize ((stM k (k - 1)).run b) = q at *
    obtain ⟨y, d, f⟩ := q
    dsimp only at *
    subst hca hcb
    generalize stM k (k - 1) = m at *
    generalize lastM k (k - 1) = g at *
    push_cast -implicitDefEqProofs [eq_self, iff_self, hpa', hpb', List.length_map]
    refine callq hRa ?_
    push_cast -implicitDefEqProofs [eq_self, iff_self]
    refine callq hRb ?_
    push_cast -implicitDefEqProofs [eq_self, iff_self]
    refine callq hSa ?_
    push_cast -implicitDefEqProofs [eq_self, iff_self]
    refine callq hSb ?_
    rw [hW]
    rcases (by omega : k = 1 ∨ k = 2 ∨ k = 3 ∨ k = 4) with rfl | rfl | rfl | rfl
    all_goals
      push_cast -implicitDefEqProofs [eq_self, iff_self, List.getD_cons_zero, List.getD_cons_succ, Nat.reducePow, Nat.reduceSub, Int.reduceToNat, Int.reduceLE]
  · have hst : start n = (⟨[], [], []⟩, -1, false) := by rw [start, if_neg hn]
    rw [hst]
    push_cast -implicitDefEqProofs [eq_self, iff_self, List.length_map]
theorem growOrder_law (us : List AV) (h : ToldAll Go.Proofs.Try.prog Go.Proofs.Try.f4.params.toList us) : Quiet Go.Proofs.Try.prog 4 us (.bool true) := by
  have e1 : Go.Proofs.Try.f4.params.toList = [3, 23, 23] := by kernel_rfl
  rw [e1] at h
  obtain ⟨n, u1, rfl, _, h1⟩ := told_I h
  obtain ⟨l, u2, rfl, hl, h2⟩ := told_Is h1
  obtain ⟨l', u3, rfl, hl', h3⟩ := told_Is h2
  obtain rfl := told_nil h3
  exact growOrder_ok n l l' hl hl'
end
end Go.Sim.Try
