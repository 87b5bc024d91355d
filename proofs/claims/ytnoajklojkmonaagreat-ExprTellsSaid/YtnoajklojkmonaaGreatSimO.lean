/- Own objects told by other numbers. Conditions: none. -/
import Derived.Test.YtnoajklojkmonaaGreatSimM
set_option linter.unusedVariables false
set_option linter.unusedSimpArgs false
namespace Go.Sim
variable {P : Program} {ρ : Nat → Option Nat} {H : AH} {w : World}

mutual
theorem seal_low {π : Nat → Option Nat} {H H' : AH} {n : Nat} (hπ : ∀ i, i < n → π i = some i) (hn : n ≤ H'.nxt) : ∀ v : AV, Scoped n v → Seal π H H' v v
  | .lit v, _ => by simp only [Seal]
  | .agg cs, h => by simp only [Seal]; exact sealL_low hπ hn cs h
  | .tup cs, h => by simp only [Seal]; exact sealL_low hπ hn cs h
  | .sl es, h => by simp only [Seal]; exact sealLL_low hπ hn es h
  | .esl, _ => by simp only [Seal]; exact .inl trivial
  | .rsl i z o k, h => by simp only [Scoped] at h; simp only [Seal]; exact .inl ⟨_, hπ i h, rfl, by omega⟩
  | .ptr i z e c, h => by simp only [Scoped] at h; simp only [Seal]; exact ⟨_, hπ i h, rfl, by omega⟩
  | .iptr cs, h => by simp only [Seal]; exact sealL_low hπ hn cs h
  | .clo f a b, h => by simp only [Seal]; exact ⟨trivial, sealL_low hπ hn a h.1, sealL_low hπ hn b h.2⟩
  | .mp i, h => by simp only [Scoped] at h; simp only [Seal]; exact ⟨_, hπ i h, rfl, by omega⟩
  | .gv g v, h => by simp only [Scoped] at h; simp only [Seal]; exact ⟨trivial, fun hg => seal_low hπ hn v (h hg)⟩
  | .any, _ => by simp only [Seal]
theorem sealL_low {π : Nat → Option Nat} {H H' : AH} {n : Nat} (hπ : ∀ i, i < n → π i = some i) (hn : n ≤ H'.nxt) : ∀ vs : List AV, ScopedL n vs → SealL π H H' vs vs
  | [], _ => by simp only [SealL]
  | v :: vs, h => by simp only [SealL]; exact ⟨seal_low hπ hn v h.1, sealL_low hπ hn vs h.2⟩
theorem sealLL_low {π : Nat → Option Nat} {H H' : AH} {n : Nat} (hπ : ∀ i, i < n → π i = some i) (hn : n ≤ H'.nxt) : ∀ vs : List (List AV), ScopedLL n vs → SealLL π H H' vs vs
  | [], _ => by simp only [SealLL]
  | v :: vs, h => by simp only [SealLL]; exact ⟨sealL_low hπ hn v h.1, sealLL_low hπ hn vs h.2⟩
end
theorem sealO_low {π : Nat → Option Nat} {H H' : AH} {n : Nat} (hπ : ∀ i, i < n → π i = some i) (hn : n ≤ H'.nxt) {o : AObj} (h : ScopedO n o) : SealO π H H' o o := by
  cases o with
  | cells z es fz => exact ⟨es, fz, rfl, sealLL_low hπ hn es h.1, h.2.1, Nat.le_refl _, h.2.2⟩
  | amap kvs => exact ⟨kvs, rfl, rfl, sealL_low hπ hn _ h⟩

/-- Own objects told by other numbers: the k-th one is the one that was the 'ps[k]'-th, or a row that is not there and empty. -/
def piL (n0 : Nat) (ps : List (Option Nat)) : Nat → Option Nat := fun i => if i < n0 then some i else ((ps[i - n0]?).join).map (n0 + ·)
theorem piL_low {n0 i : Nat} {ps : List (Option Nat)} (h : i < n0) : piL n0 ps i = some i := by unfold piL; rw [if_pos h]
theorem piL_own (n0 k : Nat) (ps : List (Option Nat)) : piL n0 ps (n0 + k) = ((ps[k]?).join).map (n0 + ·) := by
  unfold piL
  rw [if_neg (by omega), show n0 + k - n0 = k by omega]
theorem piL_is (n0 k i : Nat) (ps : List (Option Nat)) : (piL n0 ps (n0 + k) = some (n0 + i)) = ((ps[k]?).join = some i) := by
  rw [piL_own]
  cases (ps[k]?).join with
  | none => simp
  | some m => simp
def okPs : List (Option Nat) → Bool
  | [] => true
  | none :: ps => okPs ps
  | some m :: ps => !(ps.contains (some m)) && okPs ps
theorem okPs_inj : ∀ {ps : List (Option Nat)}, okPs ps = true → ∀ (i j m : Nat), ps[i]? = some (some m) → ps[j]? = some (some m) → i = j
  | [], _, i, j, m, h, _ => by simp at h
  | p :: ps, ho, i, j, m, hi, hj => by
    have ho' : okPs ps = true := by cases p <;> simp only [okPs, Bool.and_eq_true] at ho <;> first | exact ho | exact ho.2
    have hno : ∀ k : Nat, p = some m → ps[k]? = some (some m) → False := fun k hp hk => by
      subst hp
      simp only [okPs, Bool.and_eq_true, Bool.not_eq_true'] at ho
      have : ps.contains (some m) = true := by rw [List.contains_iff_mem]; exact List.mem_of_getElem? hk
      rw [this] at ho
      cases ho.1
    cases i with
    | zero =>
      cases j with
      | zero => rfl
      | succ j => simp at hi hj; exact (hno j hi hj).elim
    | succ i =>
      cases j with
      | zero => simp at hi hj; exact (hno i hj hi).elim
      | succ j => simp at hi hj; rw [okPs_inj ho' i j m hi hj]
/-- What the k-th own object was. -/
def SealOp (π : Nat → Option Nat) (H H' : AH) (l : List (Option AObj)) : Option Nat → Option AObj → Prop
  | _, none => True
  | some m, some o' => match (l[m]?).join with | some o => SealO π H H' o o' | none => False
  | none, some o' => ∃ z, o' = .cells z [] 0
def SealOsP (π : Nat → Option Nat) (H H' : AH) (l : List (Option AObj)) : List (Option Nat) → List (Option AObj) → Prop
  | _, [] => True
  | p :: ps, o' :: l' => SealOp π H H' l p o' ∧ SealOsP π H H' l ps l'
  | [], _ :: _ => False
theorem sealOsP_get {π : Nat → Option Nat} {H H' : AH} {l : List (Option AObj)} : ∀ {ps : List (Option Nat)} {l' : List (Option AObj)}, SealOsP π H H' l ps l' → ∀ (k : Nat) (o' : AObj), l'[k]? = some (some o') →
    (∃ m o, ps[k]? = some (some m) ∧ l[m]? = some (some o) ∧ SealO π H H' o o') ∨ (ps[k]? = some none ∧ ∃ z, o' = .cells z [] 0)
  | _, [], _, k, o', h => by simp at h
  | [], _ :: _, h, _, _, _ => by simp only [SealOsP] at h
  | p :: ps, x :: l', h, k, o', hk => by
    simp only [SealOsP] at h
    cases k with
    | zero =>
      simp at hk
      subst hk
      have h1 := h.1
      cases p with
      | none => simp only [SealOp] at h1; exact .inr ⟨rfl, h1⟩
      | some m =>
        simp only [SealOp] at h1
        split at h1
        · rename_i o ho
          exact .inl ⟨m, o, rfl, by rw [Option.join_eq_some_iff] at ho; exact ho, h1⟩
        · exact h1.elim
    | succ k => simpa using sealOsP_get h.2 k o' (by simpa using hk)
theorem weak_plusP (hs : HSc H) {T T' : Tm} {l l' : List (Option AObj)} (ps : List (Option Nat)) (hps : okPs ps = true) (ht : SealT (piL H.nxt ps) (H.plus l) (H.plus l') T T') (ho : SealOsP (piL H.nxt ps) (H.plus l) (H.plus l') l ps l') :
    Weak (piL H.nxt ps) H.nxt T (H.plus l) T' (H.plus l') where
  low := Nat.le_add_right _ _
  fix := fun i h => piL_low h
  inj := fun i j k h1 h2 => by
    unfold piL at h1 h2
    split at h1 <;> split at h2
    · injection h1 with h1; injection h2 with h2; omega
    · obtain ⟨m, _, hm⟩ := Option.map_eq_some_iff.1 h2
      injection h1 with h1
      omega
    · obtain ⟨m, _, hm⟩ := Option.map_eq_some_iff.1 h1
      injection h2 with h2
      omega
    · obtain ⟨m, h3, hm⟩ := Option.map_eq_some_iff.1 h1
      obtain ⟨m', h4, hm'⟩ := Option.map_eq_some_iff.1 h2
      obtain rfl : m = m' := by omega
      have := okPs_inj hps _ _ m (by rw [Option.join_eq_some_iff] at h3; exact h3) (by rw [Option.join_eq_some_iff] at h4; exact h4)
      omega
  tm := ht
  lt := fun i o h => by
    simp only [AH.plus] at h ⊢
    split at h
    · omega
    · rcases Nat.lt_or_ge (i - H.nxt) l'.length with h1 | h1
      · omega
      · rw [List.getElem?_eq_none h1] at h; cases h
  ob := fun i o h => by
    by_cases hi : i < H.nxt
    · have hlow : H.obj i = some o := by simpa only [AH.plus, if_pos hi] using h
      refine .inl ⟨i, o, piL_low hi, by simpa only [AH.plus, if_pos hi] using hlow, ?_⟩
      exact sealO_low (n := H.nxt) (fun j hj => piL_low hj) (Nat.le_add_right _ _) (hs i o hlow).2
    · obtain ⟨k, rfl⟩ : ∃ k, i = H.nxt + k := ⟨i - H.nxt, by omega⟩
      rw [plus_obj, Option.join_eq_some_iff] at h
      rcases sealOsP_get ho k o h with ⟨m, o0, h1, h2, h3⟩ | ⟨h1, h2⟩
      · exact .inl ⟨H.nxt + m, o0, by rw [piL_own, h1]; rfl, by rw [plus_obj, h2]; rfl, h3⟩
      · exact .inr ⟨by rw [piL_own, h1]; rfl, h2⟩

/-- Rounds told by states; own objects may be told by other numbers at the start, and behind each round. -/
def NextP {σ : Type} (H : AH) (inv : σ → Prop) (μ : σ → Nat) (Tf : σ → Tm) (Hf : σ → List (Option AObj)) (s : σ) (T' : Tm) (H' : AH) : Prop :=
  ∃ l', H' = H.plus l' ∧ ∃ s' ps, inv s' ∧ μ s' < μ s ∧ okPs ps = true ∧ SealT (piL H.nxt ps) (H.plus l') (H.plus (Hf s')) T' (Tf s') ∧ SealOsP (piL H.nxt ps) (H.plus l') (H.plus (Hf s')) l' ps (Hf s')

theorem next_at {σ : Type} {H : AH} {inv : σ → Prop} {μ : σ → Nat} {Tf : σ → Tm} {Hf : σ → List (Option AObj)} {s : σ} {T' : Tm} {l' : List (Option AObj)} (ps : List (Option Nat)) (s' : σ) (h1 : inv s') (h2 : μ s' < μ s) (hps : okPs ps = true)
    (h3 : SealT (piL H.nxt ps) (H.plus l') (H.plus (Hf s')) T' (Tf s')) (h4 : SealOsP (piL H.nxt ps) (H.plus l') (H.plus (Hf s')) l' ps (Hf s')) : NextP H inv μ Tf Hf s T' (H.plus l') := ⟨_, rfl, s', ps, h1, h2, hps, h3, h4⟩

theorem loop_at (hs : HSc H) {σ : Type} (inv : σ → Prop) (μ : σ → Nat) (Tf : σ → Tm) (Hf : σ → List (Option AObj)) (ps : List (Option Nat)) (s0 : σ) {c : Code} {Q : Exit → Tm → AH → Prop} {T : Tm} {l : List (Option AObj)}
    (h0 : inv s0) (hps : okPs ps = true) (ht : SealT (piL H.nxt ps) (H.plus l) (H.plus (Hf s0)) T (Tf s0)) (ho : SealOsP (piL H.nxt ps) (H.plus l) (H.plus (Hf s0)) l ps (Hf s0))
    (hb : ∀ s, inv s → aw P H.nxt c (thn (NextP H inv μ Tf Hf s) Q) (Tf s) (H.plus (Hf s))) : ALoop H.nxt (aw P H.nxt c) Q T (H.plus l) := by
  refine ⟨fun n T' H' => ∃ s, inv s ∧ μ s = n ∧ T' = Tf s ∧ H' = H.plus (Hf s), μ s0, .inr (.inl ⟨_, _, _, weak_plusP hs ps hps ht ho, s0, h0, rfl, rfl, rfl⟩), ?_⟩
  rintro n T' H' ⟨s, h1, rfl, rfl, rfl⟩
  refine aw_mono _ _ _ _ _ (fun e T' H' he => ?_) (hb s h1)
  cases e with
  | normal =>
    obtain ⟨l', rfl, s', ps', h2, h3, h6, h4, h5⟩ := he
    exact ⟨μ s', h3, .inr (.inl ⟨_, _, _, weak_plusP hs ps' h6 h4 h5, s', h2, rfl, rfl, rfl⟩)⟩
  | exit id => exact .inl he
  | goto l => exact .inl he
  | ret => exact .inl he
  | panic ch => exact .inl he
  | outgrown => exact .inl he

/-- How a loop is left: the state is told otherwise. -/
def ExitP {σ : Type} (H : AH) (fin : σ → Prop) (Te : σ → Tm) (He : σ → List (Option AObj)) (T' : Tm) (H' : AH) : Prop :=
  ∃ l', H' = H.plus l' ∧ ∃ s' ps, fin s' ∧ okPs ps = true ∧ SealT (piL H.nxt ps) (H.plus l') (H.plus (He s')) T' (Te s') ∧ SealOsP (piL H.nxt ps) (H.plus l') (H.plus (He s')) l' ps (He s')
theorem exit_at {σ : Type} {H : AH} {fin : σ → Prop} {Te : σ → Tm} {He : σ → List (Option AObj)} {T' : Tm} {l' : List (Option AObj)} (ps : List (Option Nat)) (s' : σ) (h1 : fin s') (hps : okPs ps = true)
    (h3 : SealT (piL H.nxt ps) (H.plus l') (H.plus (He s')) T' (Te s')) (h4 : SealOsP (piL H.nxt ps) (H.plus l') (H.plus (He s')) l' ps (He s')) : ExitP H fin Te He T' (H.plus l') := ⟨_, rfl, s', ps, h1, hps, h3, h4⟩
def exQ (id : Nat) (X : Tm → AH → Prop) (Q : Exit → Tm → AH → Prop) : Exit → Tm → AH → Prop
  | .exit id', T, H => if id' = id then X T H else Q (.exit id') T H
  | e, T, H => Q e T H
theorem exQ_exit {id i : Nat} {X : Tm → AH → Prop} {Q : Exit → Tm → AH → Prop} {T : Tm} {H : AH} : exQ id X Q (.exit i) T H = if i = id then X T H else Q (.exit i) T H := rfl
theorem exQ_ret {id : Nat} {X : Tm → AH → Prop} {Q : Exit → Tm → AH → Prop} {T : Tm} {H : AH} : exQ id X Q .ret T H = Q .ret T H := rfl
theorem exQ_normal {id : Nat} {X : Tm → AH → Prop} {Q : Exit → Tm → AH → Prop} {T : Tm} {H : AH} : exQ id X Q .normal T H = Q .normal T H := rfl

/-- A loop that is left by the exit 'id' in a state that is told anew. -/
theorem loop_ex (hs : HSc H) {σ τ : Type} (inv : σ → Prop) (μ : σ → Nat) (Tf : σ → Tm) (Hf : σ → List (Option AObj)) (ps : List (Option Nat)) (s0 : σ) (id : Nat) (fin : τ → Prop) (Te : τ → Tm) (He : τ → List (Option AObj))
    {c : Code} {Q : Exit → Tm → AH → Prop} {T : Tm} {l : List (Option AObj)}
    (h0 : inv s0) (hps : okPs ps = true) (ht : SealT (piL H.nxt ps) (H.plus l) (H.plus (Hf s0)) T (Tf s0)) (ho : SealOsP (piL H.nxt ps) (H.plus l) (H.plus (Hf s0)) l ps (Hf s0))
    (hb : ∀ s, inv s → aw P H.nxt c (thn (NextP H inv μ Tf Hf s) (exQ id (ExitP H fin Te He) Q)) (Tf s) (H.plus (Hf s)))
    (he : ∀ s, fin s → Q (.exit id) (Te s) (H.plus (He s))) : ALoop H.nxt (aw P H.nxt c) Q T (H.plus l) := by
  refine ⟨fun n T' H' => ∃ s, inv s ∧ μ s = n ∧ T' = Tf s ∧ H' = H.plus (Hf s), μ s0, .inr (.inl ⟨_, _, _, weak_plusP hs ps hps ht ho, s0, h0, rfl, rfl, rfl⟩), ?_⟩
  rintro n T' H' ⟨s, h1, rfl, rfl, rfl⟩
  refine aw_mono _ _ _ _ _ (fun e T' H' h => ?_) (hb s h1)
  cases e with
  | normal =>
    obtain ⟨l', rfl, s', ps', h2, h3, h6, h4, h5⟩ := h
    exact ⟨μ s', h3, .inr (.inl ⟨_, _, _, weak_plusP hs ps' h6 h4 h5, s', h2, rfl, rfl, rfl⟩)⟩
  | exit id' =>
    simp only [thn, exQ] at h
    split at h
    · rename_i e
      subst e
      obtain ⟨l', rfl, s', ps', h2, h6, h4, h5⟩ := h
      exact .inr (.inl ⟨_, _, _, weak_plusP hs ps' h6 h4 h5, he s' h2⟩)
    · exact .inl h
  | goto l => exact .inl h
  | ret => exact .inl h
  | panic ch => exact .inl h
  | outgrown => exact .inl h

/-- What an object that is told by another number, or no more, is shut up to. -/
def shutL (H' : AH) (n0 k n : Nat) : List (Option Nat) → Nat → Prop
  | [], _ => True
  | p :: ps, m => (p = some k → shutO (H'.obj (n0 + m)) n) ∧ shutL H' n0 k n ps (m + 1)
theorem shutL_get {H' : AH} {n0 k n : Nat} : ∀ {ps : List (Option Nat)} {m : Nat}, shutL H' n0 k n ps m → ∀ j : Nat, ps[j]? = some (some k) → shutO (H'.obj (n0 + (m + j))) n
  | [], _, _, j, h => by simp at h
  | p :: ps, m, h, j, hj => by
    simp only [shutL] at h
    cases j with
    | zero => simp at hj; exact h.1 hj
    | succ j =>
      have := shutL_get h.2 j (by simpa using hj)
      rwa [show m + 1 + j = m + (j + 1) by omega] at this
theorem shut_piL {n0 k n : Nat} {ps : List (Option Nat)} {H1 H2 : AH} (h : shutL H2 n0 k n ps 0) : Shut (piL n0 ps) H1 H2 (n0 + k) n := by
  intro j hj
  unfold piL at hj
  split at hj
  · injection hj with hj
    omega
  · rename_i hge
    obtain ⟨m, h1, h2⟩ := Option.map_eq_some_iff.1 hj
    obtain rfl : m = k := by omega
    rw [Option.join_eq_some_iff] at h1
    have := shutL_get h _ h1
    rw [show n0 + (0 + (j - n0)) = j by omega] at this
    unfold shutO at this
    split at this
    · rename_i ho; exact .inl ho
    · rename_i z es fz ho; exact .inr ⟨z, es, fz, ho, this⟩
    · exact this.elim

theorem shutL_mk {H' : AH} {n0 k n : Nat} : ∀ {ps : List (Option Nat)} {m : Nat}, (∀ j : Nat, ps[j]? = some (some k) → shutO (H'.obj (n0 + (m + j))) n) → shutL H' n0 k n ps m
  | [], _, _ => by simp only [shutL]
  | p :: ps, m, h => by
    simp only [shutL]
    refine ⟨fun hp => by simpa using h 0 (by simp [hp]), shutL_mk fun j hj => ?_⟩
    have := h (j + 1) (by simpa using hj)
    rwa [show m + (j + 1) = m + 1 + j by omega] at this
theorem shut_pi {n0 k n : Nat} {ps : List (Option Nat)} {H1 H2 : AH} : Shut (piL n0 ps) H1 H2 (n0 + k) n = shutL H2 n0 k n ps 0 := by
  refine propext ⟨fun h => shutL_mk fun j hj => ?_, shut_piL⟩
  rw [Nat.zero_add]
  have := h (n0 + j) (by rw [piL_own, hj]; rfl)
  unfold shutO
  rcases this with h | ⟨z, es, fz, h, hn⟩
  · rw [h]; trivial
  · rw [h]; exact hn
theorem shutL_nil {H' : AH} {n0 k n m : Nat} : shutL H' n0 k n [] m = True := by simp only [shutL]
theorem shutL_cons {H' : AH} {n0 k n m : Nat} {p : Option Nat} {ps : List (Option Nat)} : shutL H' n0 k n (p :: ps) m = ((p = some k → shutO (H'.obj (n0 + m)) n) ∧ shutL H' n0 k n ps (m + 1)) := by simp only [shutL]

/- 'SealOsP' and 'SealOp', a case at a time. -/
section
variable {H H' : AH} {π : Nat → Option Nat} {l l' : List (Option AObj)}
theorem sop_nil {ps : List (Option Nat)} : SealOsP π H H' l ps [] = True := by cases ps <;> simp only [SealOsP]
theorem sop_cons {p : Option Nat} {ps : List (Option Nat)} {o : Option AObj} : SealOsP π H H' l (p :: ps) (o :: l') = (SealOp π H H' l p o ∧ SealOsP π H H' l ps l') := by simp only [SealOsP]
theorem sop_none {p : Option Nat} : SealOp π H H' l p none = True := by cases p <;> simp only [SealOp]
def sopO (π : Nat → Option Nat) (H H' : AH) (o' : AObj) : Option AObj → Prop
  | some o => SealO π H H' o o'
  | none => False
theorem sop_some {m : Nat} {o' : AObj} : SealOp π H H' l (some m) (some o') = sopO π H H' o' (l[m]?).join := by
  simp only [SealOp, sopO]
theorem sopO_some {o o' : AObj} : sopO π H H' o' (some o) = SealO π H H' o o' := rfl
theorem sop_new {z : Nat} : SealOp π H H' l none (some (.cells z [] 0)) = True := by simp [SealOp]
end
/-- A guarded operation, by its guard. -/
theorem gcases {c : Bool} {d : Option Nat} {C : Tm → AH → Prop} {T : Tm} {cal : Option (Prop × FuncId × List AV)} {eff : Option (Prop × AV × AH)} (h1 : c = true → GLeaf P true d C T H cal eff) (h0 : c = false → GLeaf P false d C T H cal eff) : GLeaf P c d C T H cal eff := by
  cases c
  · exact h0 rfl
  · exact h1 rfl
theorem or_nand (p y : Bool) : (p || !p && y) = (p || y) := by cases p <;> rfl
theorem or_nand2 (p y : Bool) : (!p || p && y) = (!p || y) := by cases p <;> rfl
theorem imp_and_l {p q : Prop} : (p → p ∧ q) = (p → q) := propext ⟨fun h hp => (h hp).2, fun h hp => ⟨hp, h hp⟩⟩
theorem pickv_t (b : Bool) : pickv true (.lit (.bool b)) .any = .lit (.bool b) := rfl
theorem pickv_f (b : Bool) : pickv false .any (.lit (.bool b)) = .lit (.bool b) := rfl
end Go.Sim
