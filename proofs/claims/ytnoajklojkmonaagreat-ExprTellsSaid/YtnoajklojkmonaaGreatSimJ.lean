/- Code over abstract states: sequences, branches, loops, calls; and the contract of a function out of its body. Conditions: none. -/
import Derived.Test.YtnoajklojkmonaaGreatSimI
set_option linter.unusedVariables false
set_option linter.unusedSimpArgs false
namespace Go.Sim

variable {P : Program} {ρ : Nat → Option Nat} {H : AH} {w : World}

/-! ### The tail of a region -/
def aone (P : Program) (ops : Array Oper) (i : Nat) (C : Tm → AH → Prop) (T : Tm) (H : AH) : Prop :=
  match ops[i]? with
  | some o => aops P ops [o] C T H
  | none => C T H
def aany (P : Program) (ops : Array Oper) (K : Tm → AH → Prop) : Nat → Array Bool → Tm → AH → Prop
  | 0, listed, T, H => Region.ready .any ops listed = [] ∧ K T H
  | f + 1, listed, T, H => (Region.ready .any ops listed = [] → K T H) ∧ ∀ i ∈ Region.ready .any ops listed, aone P ops i (aany P ops K f (listed.setIfInBounds i true)) T H

theorem operWp_then {o : Oper} {a : Act} {K : Act → World → Prop} {K2 : Act → World → Prop} {Q : Exit → Act → World → Prop} (h : o.wp P a w K (Exit.then K2 Q)) : o.wp P a w K Q := by
  unfold Oper.wp at *
  generalize (execOp a.eval o).run P w = r at *
  cases r with
  | ok n w' =>
    cases n <;> simp only [Oper.upon] at h ⊢ <;>
      first
        | exact h
        | (refine Calls.mono h fun e w'' he => ?_; cases e <;> exact he)
  | halt x w' => cases x <;> simp only [Oper.upon] at h ⊢ <;> exact h

theorem conc_single {ρ0 : Nat → Option Nat} {H0 : AH} {w0 : World} {N : Nat} {K K' : Tm → AH → Prop} {a : Act} (h : Conc ρ0 H0 w0 N K a w) (hk : ∀ T H, K T H → K' T H) : Conc ρ0 H0 w0 N K' a w :=
  let ⟨T, H, ρ, h1, h2⟩ := h
  ⟨T, H, ρ, hk T H h1, h2⟩

theorem aany_ok {ρ0 : Nat → Option Nat} {H0 : AH} {w0 : World} {N : Nat} {ops : Array Oper} {K : Tm → AH → Prop} {Q : Exit → Act → World → Prop} (hQ : ∀ a w, Conc ρ0 H0 w0 N K a w → Q .normal a w) (hd : ∀ o ∈ ops.toList, ∀ d, o.dst = some d → d < N) :
    ∀ (f : Nat) (listed : Array Bool) (a : Act) (w : World), Conc ρ0 H0 w0 N (aany P ops K f listed) a w → wpAny P .any ops Q f listed a w
  | 0, listed, a, w, h => by
    obtain ⟨T, H, ρ, ⟨h1, h2⟩, h3⟩ := h
    exact ⟨h1, hQ a w ⟨T, H, ρ, h2, h3⟩⟩
  | f + 1, listed, a, w, h => by
    obtain ⟨T, H, ρ, ⟨h1, h2⟩, h3⟩ := h
    refine ⟨fun hr => hQ a w ⟨T, H, ρ, h1 hr, h3⟩, fun i hi => ?_⟩
    have h4 := h2 i hi
    unfold aone at h4
    unfold wpOp
    split at h4
    · rename_i o ho
      simp only [ho]
      have hmem : o ∈ ops.toList := by rw [← Array.getElem?_toList] at ho; exact List.mem_of_getElem? ho
      have := aops_ok (P := P) (ops := ops) (Q := Exit.then (wpAny P .any ops Q f (listed.setIfInBounds i true)) Q) (ρ0 := ρ0) (H0 := H0) (w0 := w0) (N := N) (fun a w hc => aany_ok hQ hd f _ a w hc) [o] (fun o' ho' d hd' => by
        simp at ho'
        subst ho'
        exact hd o' hmem d hd') a w ⟨T, H, ρ, h4, h3⟩
      simp only [wpList] at this
      split
      · rename_i hw
        rw [if_pos hw] at this
        rcases this with h | h
        · exact .inl (operWp_then h)
        · exact .inr h
      · rename_i hw
        rw [if_neg hw] at this
        exact this
    · rename_i ho
      simp only [ho]
      exact aany_ok hQ hd f _ a w ⟨T, H, ρ, h4, h3⟩

/-- Each waits for all ahead of it: they come in their order. -/
def chainOk (ops : Array Oper) (n : Nat) : Bool :=
  (List.range ops.size).all fun j => decide (j < n) || ((List.range j).all (fun i => waits ops j i) && (match ops[j]? with | some o => o.after.toList.all fun e => !Region.binds .any e || decide (e.on < j) | none => true))

theorem ready_chain {ops : Array Oper} {n k : Nat} (hc : chainOk ops n = true) (hn : n ≤ k) (hk : k < ops.size) : Region.ready .any ops (tailStart k ops.size) = [k] := by
  have hget : ∀ j b, (tailStart k ops.size).getD j b = if j < ops.size then decide (j < k) else b := by
    intro j b
    rw [Array.getD_eq_getD_getElem?]
    by_cases hj : j < ops.size
    · simp [tailStart, hj]
    · simp [tailStart, hj]
  have hall : ∀ j ∈ Region.ready .any ops (tailStart k ops.size), j = k := by
    intro j hj
    rw [mem_ready] at hj
    obtain ⟨h0, o, ho, hall⟩ := hj
    have hjs : j < ops.size := (Array.getElem?_eq_some_iff.1 ho).1
    rw [hget, if_pos hjs] at h0
    have hkj : k ≤ j := by simpa using h0
    rcases Nat.lt_or_ge k j with h | h
    · have := List.all_eq_true.1 hc j (List.mem_range.2 hjs)
      rw [show decide (j < n) = false by simp; omega] at this
      simp only [Bool.false_or, Bool.and_eq_true] at this
      have hw := List.all_eq_true.1 this.1 k (List.mem_range.2 h)
      obtain ⟨o', ho', e, he, hb, heq⟩ := waits_spec hw
      rw [ho] at ho'
      injection ho' with ho'
      subst ho'
      have := hall e he hb
      rw [heq, hget, if_pos hk] at this
      simp at this
    · omega
  have hmem : k ∈ Region.ready .any ops (tailStart k ops.size) := by
    rw [mem_ready]
    refine ⟨by rw [hget, if_pos hk]; simp, ops[k], Array.getElem?_eq_getElem hk, fun e he hb => ?_⟩
    have := List.all_eq_true.1 hc k (List.mem_range.2 hk)
    rw [show decide (k < n) = false by simp; omega] at this
    simp only [Bool.false_or, Bool.and_eq_true, Array.getElem?_eq_getElem hk] at this
    have h2 := List.all_eq_true.1 this.2 e (by simpa using he)
    have h3 : e.on < k := by simpa [hb] using h2
    rw [hget, if_pos (by omega)]
    simpa using h3
  have hnd : (Region.ready .any ops (tailStart k ops.size)).Nodup := List.Nodup.sublist List.filter_sublist List.nodup_range
  cases hl : Region.ready .any ops (tailStart k ops.size) with
  | nil => rw [hl] at hmem; cases hmem
  | cons x l =>
    rw [hl] at hall hnd
    have hx := hall x (by simp)
    subst hx
    cases l with
    | nil => rfl
    | cons y l =>
      have hy := hall y (by simp)
      subst hy
      simp at hnd

theorem tailStart_set {k m : Nat} (hk : k < m) : (tailStart k m).setIfInBounds k true = tailStart (k + 1) m := by
  apply Array.ext
  · simp [tailStart]
  · intro j h1 h2
    simp only [tailStart, Array.size_setIfInBounds, Array.size_map, Array.size_range] at h1
    rw [Array.getElem_setIfInBounds]
    · simp only [tailStart, Array.getElem_map, Array.getElem_range]
      by_cases e : k = j
      · subst e; simp
      · rw [if_neg e]
        have : (j < k) ↔ (j < k + 1) := by omega
        simp [this]
    · simpa [tailStart] using h1

theorem ready_done {ops : Array Oper} : Region.ready .any ops (tailStart ops.size ops.size) = [] := by
  rw [List.eq_nil_iff_forall_not_mem]
  intro j hj
  rw [mem_ready] at hj
  obtain ⟨h0, o, ho, _⟩ := hj
  have hjs : j < ops.size := (Array.getElem?_eq_some_iff.1 ho).1
  rw [Array.getD_eq_getD_getElem?] at h0
  simp [tailStart, hjs] at h0

theorem aops_one {ops : Array Oper} {o : Oper} {l : List Oper} {K : Tm → AH → Prop} {T : Tm} {H : AH} (h : aops P ops (o :: l) K T H) : aops P ops [o] (aops P ops l K) T H := by
  simp only [aops] at h ⊢
  exact h

theorem aany_chain {ops : Array Oper} {n : Nat} {K : Tm → AH → Prop} (hc : chainOk ops n = true) : ∀ (f k : Nat) (T : Tm) (H : AH), n ≤ k → f + k = ops.size → aops P ops (ops.toList.drop k) K T H → aany P ops K f (tailStart k ops.size) T H
  | 0, k, T, H, hn, hf, h => by
    obtain rfl : k = ops.size := by omega
    refine ⟨ready_done, ?_⟩
    rw [List.drop_of_length_le (by simp)] at h
    exact h
  | f + 1, k, T, H, hn, hf, h => by
    have hk : k < ops.size := by omega
    have hr := ready_chain hc hn hk
    refine ⟨fun h0 => (by rw [hr] at h0; cases h0), fun i hi => ?_⟩
    rw [hr] at hi
    obtain rfl : i = k := by simpa using hi
    have ho : ops[i]? = some ops[i] := Array.getElem?_eq_getElem hk
    simp only [aone, ho]
    have hd : ops.toList.drop i = ops[i] :: ops.toList.drop (i + 1) := by
      rw [List.drop_eq_getElem_cons (by simpa using hk)]
      rfl
    rw [hd] at h
    have h1 := aops_one h
    have mono : ∀ {K1 K2 : Tm → AH → Prop} {T : Tm} {H : AH}, (∀ T H, K1 T H → K2 T H) → aops P ops [ops[i]] K1 T H → aops P ops [ops[i]] K2 T H := by
      intro K1 K2 T H hk h
      simp only [aops] at h ⊢
      split at h
      · exact h
      · split at h
        · exact ⟨h.1, hk _ _ h.2⟩
        · split at h
          · exact ⟨h.1, hk _ _ h.2⟩
          · split at h
            · exact ⟨h.1, h.2.mono fun r H' hr => hk _ _ hr⟩
            · exact h
      · split at h
        · exact ⟨h.1, hk _ _ h.2⟩
        · exact GLeaf.mono hk h
    refine mono (fun T H h => ?_) h1
    rw [tailStart_set hk]
    exact aany_chain hc f (i + 1) T H (by omega) (by omega) h

/-- A region that draws its order. -/
def AReg (P : Program) (ops : Array Oper) (K : Tm → AH → Prop) (T : Tm) (H : AH) : Prop :=
  ∃ n, headOk ops n = true ∧ ahead P ops H (ops.toList.take n) (aany P ops K (ops.size - n) (tailStart n ops.size)) T H

/-- The head in any order, the tail in its own. -/
theorem areg_chain {ops : Array Oper} {K : Tm → AH → Prop} {T : Tm} {H : AH} (n : Nat) (h1 : headOk ops n = true) (h2 : chainOk ops n = true) (h : ahead P ops H (ops.toList.take n) (aops P ops (ops.toList.drop n) K) T H) : AReg P ops K T H := by
  refine ⟨n, h1, ?_⟩
  have mono : ∀ (l : List Oper) (T : Tm) (H1 : AH), ahead P ops H l (aops P ops (ops.toList.drop n) K) T H1 → ahead P ops H l (aany P ops K (ops.size - n) (tailStart n ops.size)) T H1 := by
    intro l
    induction l with
    | nil => intro T H1 h; exact aany_chain h2 _ n T H1 (Nat.le_refl _) (by have := (headOk_spec h1).le; omega) h
    | cons o l ih =>
      intro T H1 h
      simp only [ahead] at h ⊢
      split at h
      · exact h
      · split at h
        · exact ⟨h.1, ih _ _ h.2⟩
        · split at h
          · exact ⟨h.1, ih _ _ h.2⟩
          · split at h
            · exact ⟨h.1, ih _ _ h.2⟩
            · split at h
              · obtain ⟨k1, r, k2, k3⟩ := h
                exact ⟨k1, r, k2, ih _ _ k3⟩
              · exact h
      · split at h
        · exact ⟨h.1, ih _ _ h.2⟩
        · split at h
          · obtain ⟨k1, r, k2, k3⟩ := h
            exact ⟨k1, r, k2, ih _ _ k3⟩
          · exact ⟨h.1, ih _ _ h.2⟩
  exact mono _ _ _ h

/-! ### Code -/
def okOps (N : Nat) (ops : Array Oper) : Bool := ops.toList.all fun o => match o.dst with | some d => decide (d < N) | none => true
def okCode (N : Nat) : Code → Bool
  | .region _ ops _ => okOps N ops
  | .seq a b => okCode N a && okCode N b
  | .cond _ a b => okCode N a && okCode N b
  | .block _ c => okCode N c
  | .loop c => okCode N c
  | .scope c => okCode N c
  | .rangeFunc _ ps a b => ps.toList.all (fun p => decide (p < N)) && okCode N a && okCode N b
  | _ => true

theorem okOps_spec {N : Nat} {ops : Array Oper} (h : okOps N ops = true) : ∀ o ∈ ops.toList, ∀ d, o.dst = some d → d < N := by
  intro o ho d hd
  have := List.all_eq_true.1 h o ho
  rw [hd] at this
  simpa using this

def thn (C : Tm → AH → Prop) (Q : Exit → Tm → AH → Prop) : Exit → Tm → AH → Prop
  | .normal, T, H => C T H
  | e, T, H => Q e T H
def inb (id : Nat) (Q : Exit → Tm → AH → Prop) : Exit → Tm → AH → Prop
  | .exit id', T, H => if id' = id then Q .normal T H else Q (.exit id') T H
  | e, T, H => Q e T H

/-- A state told otherwise: as it is; less of it; or a nil slice as an empty row of a new object. -/
def Wk (n0 : Nat) (R : Tm → AH → Prop) (T : Tm) (H : AH) : Prop := R T H ∨ (∃ π T' H', Weak π n0 T H T' H' ∧ R T' H') ∨ ∃ z d, tget T d = .nilS ∧ R ((d, .rsl H.nxt z 0 0) :: T) (H.add (.cells z [] 0))

theorem Wk.mono {n0 : Nat} {R R' : Tm → AH → Prop} (hr : ∀ T H, R T H → R' T H) {T : Tm} {H : AH} (h : Wk n0 R T H) : Wk n0 R' T H := by
  rcases h with h | ⟨π, T', H', h1, h2⟩ | ⟨z, d, h1, h2⟩
  · exact .inl (hr _ _ h)
  · exact .inr (.inl ⟨π, T', H', h1, hr _ _ h2⟩)
  · exact .inr (.inr ⟨z, d, h1, hr _ _ h2⟩)

/-- Where a loop is left the state may be told otherwise. -/
def QW (n0 : Nat) (Q : Exit → Tm → AH → Prop) (e : Exit) (T : Tm) (H : AH) : Prop := Wk n0 (Q e) T H

def ALoop (n0 : Nat) (body : (Exit → Tm → AH → Prop) → Tm → AH → Prop) (Q : Exit → Tm → AH → Prop) (T : Tm) (H : AH) : Prop :=
  ∃ (I : Nat → Tm → AH → Prop) (n : Nat), Wk n0 (I n) T H ∧ ∀ n T H, I n T H → body (thn (fun T' H' => ∃ n', n' < n ∧ Wk n0 (I n') T' H') (QW n0 Q)) T H

/-- What is shown of runs themselves. -/
def ASem (P : Program) (n0 : Nat) (c : Code) (Q : Exit → Tm → AH → Prop) (T : Tm) (H : AH) : Prop :=
  ∀ (ρ0 : Nat → Option Nat) (H0 : AH) (w0 : World) (N : Nat) (Qc : Exit → Act → World → Prop), H0.nxt = n0 → okCode N c = true → (∀ e a w, Conc ρ0 H0 w0 N (Q e) a w → Qc e a w) →
    ∀ a w, Conc ρ0 H0 w0 N (fun T' H' => T' = T ∧ H' = H) a w → c.wp P Qc a w

def acond (v : AV) (A B : Prop) : Prop :=
  match v with
  | .lit (.bool b) => (b = true → A) ∧ (b = false → B)
  | _ => False

def aw (P : Program) (n0 : Nat) : Code → (Exit → Tm → AH → Prop) → Tm → AH → Prop
  | .skip, Q, T, H => Q .normal T H
  | .region _ ops draw, Q, T, H => if draw then Wk n0 (AReg P ops (Q .normal)) T H else aops P ops ops.toList (Q .normal) T H
  | .seq a b, Q, T, H => aw P n0 a (thn (aw P n0 b Q) Q) T H
  | .cond c x y, Q, T, H => acond (ev T c) (aw P n0 x Q T H) (aw P n0 y Q T H)
  | .block id c, Q, T, H => aw P n0 c (inb id Q) T H
  | .loop c, Q, T, H => ALoop n0 (aw P n0 c) Q T H
  | .exit id, Q, T, H => Q (.exit id) T H
  | .goto l, Q, T, H => Q (.goto l) T H
  | .label _, Q, T, H => Q .normal T H
  | .ret, Q, T, H => Q .ret T H
  | .scope c, Q, T, H => ASem P n0 (.scope c) Q T H
  | .rangeFunc f ps x y, Q, T, H => ASem P n0 (.rangeFunc f ps x y) Q T H
  | .refuse _, _, _, _ => False

theorem conc_wk {ρ0 : Nat → Option Nat} {H0 : AH} {w0 : World} {N : Nat} {R : Tm → AH → Prop} {a : Act} (h : Conc ρ0 H0 w0 N (Wk H0.nxt R) a w) : Conc ρ0 H0 w0 N R a w := by
  obtain ⟨T, H, ρ, hR | ⟨π, T', H', hk, hR⟩ | ⟨z, d, hd, hR⟩, h1, h2, h3, h4⟩ := h
  · exact ⟨T, H, ρ, hR, h1, h2, h3, h4⟩
  · exact ⟨T', H', _, hR, repT_seal h2 hk h1, holds_weak h2 hk, ext_weak h3 hk, h4⟩
  · refine ⟨_, _, ρ, hR, fun t => ?_, h2.ghost z, h3.trans (Ext.ghost h2 _), h4⟩
    simp only [tget]
    split
    · rename_i e
      subst e
      have := h1 d
      rw [hd] at this
      simp only [Rep] at this ⊢
      exact .inr ⟨trivial, Nat.lt_succ_self _, none, this⟩
    · exact Rep.ext (Ext.ghost h2 _) _ _ (h1 t)

theorem aw_ok {n0 : Nat} (hm : P.follows .mixedOrders = true) : ∀ (c : Code) (ρ0 : Nat → Option Nat) (H0 : AH) (w0 : World) (N : Nat), H0.nxt = n0 → okCode N c = true → ∀ (Q : Exit → Tm → AH → Prop) (Qc : Exit → Act → World → Prop),
    (∀ e a w, Conc ρ0 H0 w0 N (Q e) a w → Qc e a w) → ∀ a w, Conc ρ0 H0 w0 N (aw P n0 c Q) a w → c.wp P Qc a w := by
  intro c
  induction c with
  | skip => intro ρ0 H0 w0 N _ _ Q Qc hQ a w h; exact wp_skip (hQ _ a w h)
  | label l => intro ρ0 H0 w0 N _ _ Q Qc hQ a w h; exact wp_label (hQ _ a w h)
  | exit id => intro ρ0 H0 w0 N _ _ Q Qc hQ a w h; exact wp_exit (hQ _ a w h)
  | goto l => intro ρ0 H0 w0 N _ _ Q Qc hQ a w h; exact wp_goto (hQ _ a w h)
  | ret => intro ρ0 H0 w0 N _ _ Q Qc hQ a w h; exact wp_ret (hQ _ a w h)
  | refuse s => intro ρ0 H0 w0 N _ _ Q Qc hQ a w ⟨T, H, ρ, h, _⟩; exact h.elim
  | scope c _ =>
    intro ρ0 H0 w0 N hn hok Q Qc hQ a w ⟨T, H, ρ, h, h'⟩
    exact h ρ0 H0 w0 N Qc hn hok hQ a w ⟨T, H, ρ, ⟨rfl, rfl⟩, h'⟩
  | rangeFunc f ps x y _ _ =>
    intro ρ0 H0 w0 N hn hok Q Qc hQ a w ⟨T, H, ρ, h, h'⟩
    exact h ρ0 H0 w0 N Qc hn hok hQ a w ⟨T, H, ρ, ⟨rfl, rfl⟩, h'⟩
  | seq x y ihx ihy =>
    intro ρ0 H0 w0 N hn hok Q Qc hQ a w h
    simp only [okCode, Bool.and_eq_true] at hok
    refine wp_seq (ihx ρ0 H0 w0 N hn hok.1 (thn (aw P n0 y Q) Q) _ (fun e a' w' hc => ?_) a w h)
    cases e with
    | normal => exact ihy ρ0 H0 w0 N hn hok.2 Q Qc hQ a' w' hc
    | exit id => exact hQ _ a' w' hc
    | goto l => exact hQ _ a' w' hc
    | ret => exact hQ _ a' w' hc
    | panic ch => exact hQ _ a' w' hc
    | outgrown => exact hQ _ a' w' hc
  | cond c x y ihx ihy =>
    intro ρ0 H0 w0 N hn hok Q Qc hQ a w ⟨T, H, ρ, h, h1, h2, h3⟩
    simp only [okCode, Bool.and_eq_true] at hok
    simp only [aw] at h
    unfold acond at h
    split at h
    · rename_i b hb
      have hr := rep_ev h1 c
      rw [hb] at hr
      simp only [Rep] at hr
      cases b with
      | true => exact wp_cond_true hr (ihx ρ0 H0 w0 N hn hok.1 Q Qc hQ a w ⟨T, H, ρ, h.1 rfl, h1, h2, h3⟩)
      | false => exact wp_cond_false hr (ihy ρ0 H0 w0 N hn hok.2 Q Qc hQ a w ⟨T, H, ρ, h.2 rfl, h1, h2, h3⟩)
    · exact h.elim
  | block id c ih =>
    intro ρ0 H0 w0 N hn hok Q Qc hQ a w h
    refine wp_block (ih ρ0 H0 w0 N hn hok (inb id Q) _ (fun e a' w' hc => ?_) a w h)
    cases e with
    | normal => exact hQ _ a' w' hc
    | exit id' =>
      simp only [Exit.inBlock]
      by_cases e : id' = id
      · rw [if_pos e]
        exact hQ _ a' w' (conc_single hc fun T H h => by simpa [inb, e] using h)
      · rw [if_neg e]
        exact hQ _ a' w' (conc_single hc fun T H h => by simpa [inb, e] using h)
    | goto l => exact hQ _ a' w' hc
    | ret => exact hQ _ a' w' hc
    | panic ch => exact hQ _ a' w' hc
    | outgrown => exact hQ _ a' w' hc
  | loop c ih =>
    intro ρ0 H0 w0 N hn hok Q Qc hQ a w ⟨T, H, ρ, ⟨I, n, h1, h2⟩, h3⟩
    subst hn
    refine wp_loop_ghost (fun n a w => Conc ρ0 H0 w0 N (I n) a w) n (conc_wk ⟨T, H, ρ, h1, h3⟩) fun n a w hI => ?_
    obtain ⟨T, H, ρ, hI, h4⟩ := hI
    refine ih ρ0 H0 w0 N rfl hok _ _ (fun e a' w' hc => ?_) a w ⟨T, H, ρ, h2 n T H hI, h4⟩
    cases e with
    | normal =>
      obtain ⟨T', H', ρ', ⟨n', hlt, hw⟩, h5⟩ := hc
      exact ⟨n', hlt, conc_wk ⟨T', H', ρ', hw, h5⟩⟩
    | exit id => exact hQ _ a' w' (conc_wk hc)
    | goto l => exact hQ _ a' w' (conc_wk hc)
    | ret => exact hQ _ a' w' (conc_wk hc)
    | panic ch => exact hQ _ a' w' (conc_wk hc)
    | outgrown => exact hQ _ a' w' (conc_wk hc)
  | region id ops draw =>
    intro ρ0 H0 w0 N hn hok Q Qc hQ a w hc
    have hd := okOps_spec hok
    cases draw with
    | false =>
      obtain ⟨T, H, ρ, h, h1, h2, h3, h4, h5⟩ := hc
      simp only [aw, Bool.false_eq_true, if_false] at h
      refine wp_region ?_
      have e := wpOps_eq_wpList (P := P) (Q := Qc) (ops := ops) ops.toList 0 (fun j => by rw [Nat.zero_add, Array.getElem?_toList])
      rw [Array.length_toList] at e
      rw [List.range_eq_range', e]
      exact aops_ok (hQ .normal) _ hd a w ⟨T, H, ρ, h, h1, h2, h3, h4, h5⟩
    | true =>
      subst hn
      have hc' : Conc ρ0 H0 w0 N (AReg P ops (Q .normal)) a w := conc_wk (conc_single hc fun T H h => by simpa only [aw, if_true] using h)
      obtain ⟨T, H, ρ, h, h1, h2, h3, h4, h5⟩ := hc'
      obtain ⟨n, hk, hh⟩ := h
      have hdr : (w.drew).heap = w.heap := rfl
      refine wp_region_any hm ?_
      refine ahead_ok (ρ0 := ρ0) (Hb := H0) (w0 := w0) (N := N) (headOk_spec hk) hd hh (fun a w hc => aany_ok (hQ .normal) hd _ _ a w hc) (ρs := ρ) (w := w.drew) ?_ ?_ ?_ h4 h5
      · exact h1.ext (Ext.heap h2 rfl rfl rfl rfl)
      · exact h2.heap rfl rfl rfl rfl
      · exact h3.trans (Ext.heap h2 rfl rfl rfl rfl)

/-! ### A function out of its body -/
def initT : Nat → List AV → Tm
  | _, [] => []
  | k, v :: vs => (k, v) :: initT (k + 1) vs

def ares1 (P : Program) (H : AH) (T : Tm) : ResultVar → Option (Prop × AV)
  | .tmp t => some (True, tget T t)
  | .cell a t => aload P t H (tget T a)
def aresC (p : Option (Prop × AV)) (q : Option (Prop × List AV)) : Option (Prop × List AV) :=
  match p, q with
  | some (φ, v), some (ψ, vs) => some (φ ∧ ψ, v :: vs)
  | _, _ => none
def aresL (P : Program) (H : AH) (T : Tm) : List ResultVar → Option (Prop × List AV)
  | [] => some (True, [])
  | r :: rs => aresC (ares1 P H T r) (aresL P H T rs)
def aresT : Option (Prop × List AV) → Option (Prop × AV)
  | some (φ, [v]) => some (φ, v)
  | some (φ, vs) => some (φ, .tup vs)
  | none => none
/-- The results. -/
def ares (P : Program) (H : AH) (rs : List ResultVar) (T : Tm) : Option (Prop × AV) := aresT (aresL P H T rs)

def RetOk (P : Program) (n0 : Nat) (rs : List ResultVar) (K : AV → AH → Prop) (T : Tm) (H : AH) : Prop :=
  match ares P H rs T with
  | some (φ, r) => φ ∧ (K r H ∨ ∃ r' H', K r' H' ∧ Weak some n0 [(0, r)] H [(0, r')] H')
  | none => False

def retQ (P : Program) (n0 : Nat) (rs : List ResultVar) (K : AV → AH → Prop) : Exit → Tm → AH → Prop
  | .normal, T, H => RetOk P n0 rs K T H
  | .ret, T, H => RetOk P n0 rs K T H
  | _, _, _ => False

theorem tget_init : ∀ (k : Nat) (vs : List AV) (t : Nat), tget (initT k vs) t = if t < k then .any else (vs[t - k]?).getD .any
  | k, [], t => by simp [initT, tget]
  | k, v :: vs, t => by
    simp only [initT, tget]
    by_cases e : k = t
    · subst e; simp
    · rw [if_neg e, tget_init (k + 1) vs t]
      by_cases h : t < k
      · rw [if_pos h, if_pos (by omega)]
      · rw [if_neg h, if_neg (by omega), show t - k = (t - (k + 1)) + 1 by omega]
        simp

def resF (tmps : Array Value) : ResultVar → Sem Value
  | .tmp t => pure (tmps.getD t undef)
  | .cell a t => do loadVar t (← asAddr (tmps.getD a undef))
theorem results_eq (fn : Func) (tmps : Array Value) : results fn tmps = (do let vs ← fn.results.mapM (resF tmps); pure (if h : vs.size = 1 then vs[0] else .tuple vs)) := by
  unfold results
  congr 1

theorem aresL_ok (hh : Holds ρ H w) {T : Tm} {tmps : Array Value} (hT : RepT ρ H w T tmps) : ∀ {l : List ResultVar} {φ : Prop} {vs : List AV}, aresL P H T l = some (φ, vs) → φ →
    ∃ xs, (l.mapM (resF tmps)).run P w = .ok xs w ∧ RepL ρ H w vs xs
  | [], φ, vs, h, _ => by
    simp only [aresL, Option.some.injEq, Prod.mk.injEq] at h
    obtain ⟨_, rfl⟩ := h
    exact ⟨[], by simp, by simp only [RepL]⟩
  | r :: l, φ, vs, h, hφ => by
    simp only [aresL, aresC] at h
    split at h
    · rename_i φ1 v ψ us h1 h2
      simp only [Option.some.injEq, Prod.mk.injEq] at h
      obtain ⟨rfl, rfl⟩ := h
      obtain ⟨xs, h3, h4⟩ := aresL_ok hh hT h2 hφ.2
      have key : ∃ x, (resF tmps r).run P w = .ok x w ∧ Rep ρ H w v x := by
        cases r with
        | tmp t =>
          simp only [ares1, Option.some.injEq, Prod.mk.injEq] at h1
          obtain ⟨_, rfl⟩ := h1
          exact ⟨tmps.getD t undef, by simp only [resF, Sem.run_pure], hT t⟩
        | cell a t =>
          simp only [ares1] at h1
          have hr := hT a
          obtain ⟨y, hy, hry⟩ := aload_ok hh h1 hφ.1 hr
          have hp : ∃ A, tmps.getD a undef = .pointer (some A) := by
            generalize tget T a = u at h1 hr
            unfold aload at h1
            split at h1
            · simp only [Rep] at hr
              obtain ⟨b, _, he⟩ := hr
              exact ⟨_, he⟩
            · simp only [Rep] at hr
              obtain ⟨A, _, he, _⟩ := hr
              exact ⟨_, he⟩
            · cases h1
          obtain ⟨A, hA⟩ := hp
          rw [hA] at hy
          refine ⟨y, ?_, hry⟩
          simp only [Instr.loadAt, Instr.sureAddr, Sem.run_bind, Sem.run_pure, Result.andThen_ok] at hy
          simp only [resF, hA, asAddr, Sem.run_bind, Sem.run_pure, Result.andThen_ok]
          exact hy
      obtain ⟨x, h5, h6⟩ := key
      refine ⟨x :: xs, ?_, ?_⟩
      · simp only [List.mapM_cons, Sem.run_bind, Sem.run_pure, Result.andThen_ok, h3, h5]
      · simp only [RepL]
        exact ⟨_, _, rfl, h6, h4⟩
    · cases h

theorem ares_ok (hh : Holds ρ H w) {rs : Array ResultVar} {fn : Func} (hrs : fn.results = rs) {T : Tm} {tmps : Array Value} {φ : Prop} {r : AV} (h : ares P H rs.toList T = some (φ, r)) (hφ : φ) (hT : RepT ρ H w T tmps) :
    ∃ x, (results fn tmps).run P w = .ok x w ∧ Rep ρ H w r x := by
  have hres : ∀ xs, (rs.toList.mapM (resF tmps)).run P w = .ok xs w →
      (results fn tmps).run P w = .ok (if h : xs.toArray.size = 1 then xs.toArray[0] else .tuple xs.toArray) w := by
    intro xs hx
    rw [results_eq, hrs, Array.mapM_eq_mapM_toList]
    simp only [Sem.run_bind, Sem.run_map]
    rw [hx]
    simp only [Result.andThen_ok, Sem.run_pure]
  unfold ares aresT at h
  split at h
  · rename_i ψ v he
    simp only [Option.some.injEq, Prod.mk.injEq] at h
    obtain ⟨rfl, rfl⟩ := h
    obtain ⟨xs, h1, h2⟩ := aresL_ok hh hT he hφ
    simp only [RepL] at h2
    obtain ⟨x, ys, rfl, h3, rfl⟩ := h2
    exact ⟨x, by have := hres _ h1; simpa using this, h3⟩
  · rename_i ψ vs hne he
    simp only [Option.some.injEq, Prod.mk.injEq] at h
    obtain ⟨rfl, rfl⟩ := h
    obtain ⟨xs, h1, h2⟩ := aresL_ok hh hT he hφ
    refine ⟨_, hres xs h1, ?_⟩
    rw [dif_neg ?_]
    · simp only [Rep]
      exact ⟨xs, rfl, h2⟩
    · intro h3
      have h4 : vs.length = 1 := by rw [← h2.length]; simpa using h3
      match vs, h4 with
      | [v], _ => exact hne v rfl
  · cases h

theorem acalls_of_aw {f : FuncId} {fn : Func} {c : Code} {rs : Array ResultVar} {args : List AV} {K : AV → AH → Prop} (hf : P.funcs[f]? = some fn) (hb : fn.body = some c) (hrs : fn.results = rs) (hcall : callable P f = true) (hm : P.follows .mixedOrders = true)
    (hok : okCode fn.ntmps c = true) (hargs : args.length ≤ fn.ntmps) (h : aw P H.nxt c (retQ P H.nxt rs.toList K) (initT 0 args) H) : ACalls P f args H K := by
  refine ⟨hcall, fun ρ w xs hh hr => ?_⟩
  refine calls_of_wp hf hb ?_
  refine aw_ok hm c ρ H w fn.ntmps rfl hok _ _ (fun e a w' hc => ?_) _ w ⟨initT 0 args, H, ρ, h, ?_, hh, Ext.refl hh, rfl, ?_⟩
  · have fin : Conc ρ H w fn.ntmps (RetOk P H.nxt rs.toList K) a w' → a.defers = [] ∧ ∃ v, (results fn a.tmps).run P w' = .ok v w' ∧ ∃ r H' ρ' x, K r H' ∧ Ending.returned v = .returned x ∧ Holds ρ' H' w' ∧ Ext ρ H w ρ' H' w' ∧ Rep ρ' H' w' r x := by
      rintro ⟨T, H1, ρ1, h1, h2, h3, h4, h5, h6⟩
      unfold RetOk at h1
      split at h1
      · rename_i φ r hr
        obtain ⟨hφ, h1⟩ := h1
        obtain ⟨x, hx, hrx⟩ := ares_ok (P := P) h3 hrs hr hφ h2
        rcases h1 with hK | ⟨r', H', hK, hk⟩
        · exact ⟨h5, x, hx, _, _, _, x, hK, rfl, h3, h4, hrx⟩
        refine ⟨h5, x, hx, r', H', _, x, hK, rfl, holds_weak h3 hk, ext_weak h4 hk, ?_⟩
        have := repT_seal (tmps := #[x]) h3 hk (fun t => by
          simp only [tget]
          split
          · rename_i e; subst e; exact hrx
          · simp only [Rep])
        have h0 := this 0
        simpa [tget] using h0
      · exact h1.elim
    cases e with
    | normal => exact fin hc
    | ret => exact fin hc
    | exit id => obtain ⟨_, _, _, h1, _⟩ := hc; exact h1.elim
    | goto l => obtain ⟨_, _, _, h1, _⟩ := hc; exact h1.elim
    | panic ch => obtain ⟨_, _, _, h1, _⟩ := hc; exact h1.elim
    | outgrown => obtain ⟨_, _, _, h1, _⟩ := hc; exact h1.elim
  · intro t
    rw [tget_init]
    simp only [Nat.not_lt_zero, if_false, Nat.sub_zero]
    cases hv : args[t]? with
    | none => simp only [Option.getD_none, Rep]
    | some v =>
      obtain ⟨x, hx, hrx⟩ := hr.get hv
      have : (xs.toArray ++ Array.replicate (fn.ntmps - xs.toArray.size) undef).getD t undef = x := by
        rw [Array.getD_eq_getD_getElem?, Array.getElem?_append_left (by simpa using (List.getElem?_eq_some_iff.1 hx).1)]
        simp [hx]
      rw [this]
      exact hrx
  · simp only [Array.size_append, List.size_toArray, Array.size_replicate, hr.length]
    omega

end Go.Sim
