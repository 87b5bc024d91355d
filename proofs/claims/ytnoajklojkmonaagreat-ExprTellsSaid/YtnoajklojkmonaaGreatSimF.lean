/- What a state may be told less of: slots forgotten, objects dropped, slices of a call's own told as lists. Conditions: none. -/
import Derived.Test.YtnoajklojkmonaaGreatSimE
set_option linter.unusedVariables false
set_option linter.unusedSimpArgs false
namespace Go.Sim

variable {P : Program} {ρ : Nat → Option Nat} {H : AH} {w : World} {π : Nat → Option Nat}

/- 'Pure v': it speaks of no object. -/
mutual
def Pure : AV → Prop
  | .lit _ => True
  | .agg cs => PureL cs
  | .tup vs => PureL vs
  | .sl es => PureLL es
  | .esl => True
  | .rsl .. => False
  | .ptr .. => False
  | .iptr cs => PureL cs
  | .clo _ f c => PureL f ∧ PureL c
  | .mp _ => False
  | .gv _ v => Pure v
  | .any => True
def PureL : List AV → Prop
  | [] => True
  | v :: vs => Pure v ∧ PureL vs
def PureLL : List (List AV) → Prop
  | [] => True
  | v :: vs => PureL v ∧ PureLL vs
end

theorem pureL_iff : ∀ {l : List AV}, PureL l ↔ ∀ v ∈ l, Pure v
  | [] => by simp [PureL]
  | v :: l => by simp [PureL, pureL_iff (l := l)]
theorem pureLL_iff : ∀ {l : List (List AV)}, PureLL l ↔ ∀ v ∈ l, PureL v
  | [] => by simp [PureLL]
  | v :: l => by simp [PureLL, pureLL_iff (l := l)]

/-- The first n elements of an object are told once for all. -/
def Shut (π : Nat → Option Nat) (H H' : AH) (i n : Nat) : Prop := ∀ j, π j = some i → H'.obj j = none ∨ ∃ z es fz, H'.obj j = some (.cells z es fz) ∧ n ≤ fz

/- 'Seal π H H' v u': what v told in H, u tells in H'. -/
mutual
def Seal (π : Nat → Option Nat) (H H' : AH) (v : AV) : AV → Prop
  | .any => True
  | .lit x => v = .lit x
  | .agg cs => match v with | .agg ds => SealL π H H' ds cs | _ => False
  | .tup cs => match v with | .tup ds => SealL π H H' ds cs | _ => False
  | .sl es => match v with
    | .sl ds => SealLL π H H' ds es
    | .rsl i z o n => ∃ ds fz, H.obj i = some (.cells z ds fz) ∧ o + n ≤ ds.length ∧ SealLL π H H' ((ds.drop o).take n) es ∧ Shut π H H' i (o + n)
    | .esl => es = []
    | .lit (.slice none 0 0) => es = []
    | _ => False
  | .esl => v = .esl ∨ v = .lit (.slice none 0 0)
  | .rsl i z o n => (∃ k, π i = some k ∧ v = .rsl k z o n ∧ i < H'.nxt) ∨ (n = 0 ∧ i < H'.nxt ∧ (v = .esl ∨ v = .lit (.slice none 0 0)))
  | .ptr i z e c => ∃ k, π i = some k ∧ v = .ptr k z e c ∧ i < H'.nxt
  | .iptr cs => match v with
    | .iptr ds => SealL π H H' ds cs
    | .ptr i z e c => ∃ ds fz, H.obj i = some (.cells z ds fz) ∧ e < ds.length ∧ SealL π H H' ((ds.getD e []).drop c) cs ∧ Shut π H H' i (e + 1)
    | _ => False
  | .clo f a b => match v with | .clo f' a' b' => f' = f ∧ SealL π H H' a' a ∧ SealL π H H' b' b | _ => False
  | .mp i => ∃ k, π i = some k ∧ v = .mp k ∧ i < H'.nxt
  | .gv g u => match v with | .gv g' u' => g' = g ∧ (g = true → Seal π H H' u' u) | _ => False
def SealL (π : Nat → Option Nat) (H H' : AH) (vs : List AV) : List AV → Prop
  | [] => vs = []
  | u :: us => match vs with | v :: vs => Seal π H H' v u ∧ SealL π H H' vs us | [] => False
def SealLL (π : Nat → Option Nat) (H H' : AH) (vs : List (List AV)) : List (List AV) → Prop
  | [] => vs = []
  | u :: us => match vs with | v :: vs => SealL π H H' v u ∧ SealLL π H H' vs us | [] => False
end

mutual
theorem seal_pure {π : Nat → Option Nat} (H H' : AH) : ∀ v : AV, Pure v → Seal π H H' v v
  | .lit v, _ => by simp only [Seal]
  | .agg cs, h => by simp only [Seal]; exact sealL_pure H H' cs h
  | .tup cs, h => by simp only [Seal]; exact sealL_pure H H' cs h
  | .sl es, h => by simp only [Seal]; exact sealLL_pure H H' es h
  | .esl, _ => by simp [Seal]
  | .rsl .., h => by simp only [Pure] at h
  | .ptr .., h => by simp only [Pure] at h
  | .iptr cs, h => by simp only [Seal]; exact sealL_pure H H' cs h
  | .clo f a b, h => by simp only [Seal]; exact ⟨trivial, sealL_pure H H' a h.1, sealL_pure H H' b h.2⟩
  | .mp i, h => by simp only [Pure] at h
  | .gv g v, h => by simp only [Seal]; exact ⟨trivial, fun _ => seal_pure H H' v h⟩
  | .any, _ => by simp only [Seal]
theorem sealL_pure {π : Nat → Option Nat} (H H' : AH) : ∀ vs : List AV, PureL vs → SealL π H H' vs vs
  | [], _ => by simp only [SealL]
  | v :: vs, h => by simp only [SealL]; exact ⟨seal_pure H H' v h.1, sealL_pure H H' vs h.2⟩
theorem sealLL_pure {π : Nat → Option Nat} (H H' : AH) : ∀ vs : List (List AV), PureLL vs → SealLL π H H' vs vs
  | [], _ => by simp only [SealLL]
  | v :: vs, h => by simp only [SealLL]; exact ⟨sealL_pure H H' v h.1, sealLL_pure H H' vs h.2⟩
end

def SealO (π : Nat → Option Nat) (H H' : AH) : AObj → AObj → Prop
  | .cells z ds fz, o => ∃ es fz', o = .cells z es fz' ∧ SealLL π H H' ds es ∧ (∀ e ∈ es, e.length = z) ∧ fz ≤ fz' ∧ fz' ≤ es.length
  | .amap kvs, o => ∃ kvs', o = .amap kvs' ∧ kvs'.map (·.1) = kvs.map (·.1) ∧ SealL π H H' (kvs.map (·.2)) (kvs'.map (·.2))

def SealT (π : Nat → Option Nat) (H H' : AH) (T : Tm) : Tm → Prop
  | [] => True
  | (t, v) :: T' => Seal π H H' (tget T t) v ∧ SealT π H H' T T'

/-- What is told of (T, H) is told of (T', H'), too; the object i of H' is the object 'π i' of H, or a row that is not there and empty. -/
structure Weak (π : Nat → Option Nat) (n0 : Nat) (T : Tm) (H : AH) (T' : Tm) (H' : AH) : Prop where
  low : n0 ≤ H'.nxt
  fix : ∀ i, i < n0 → π i = some i
  inj : ∀ i j k, π i = some k → π j = some k → i = j
  tm : SealT π H H' T T'
  lt : ∀ i o, H'.obj i = some o → i < H'.nxt
  ob : ∀ i o, H'.obj i = some o → (∃ k o0, π i = some k ∧ H.obj k = some o0 ∧ SealO π H H' o0 o) ∨ (π i = none ∧ ∃ z, o = .cells z [] 0)

def cutρ (π : Nat → Option Nat) (ρ : Nat → Option Nat) (n : Nat) : Nat → Option Nat := fun i => if i < n then (π i).bind ρ else none

theorem cutρ_some {n i b : Nat} (h : cutρ π ρ n i = some b) : i < n ∧ ∃ k, π i = some k ∧ ρ k = some b := by
  unfold cutρ at h
  split at h
  · rename_i hi
    obtain ⟨k, h1, h2⟩ := Option.bind_eq_some_iff.1 h
    exact ⟨hi, k, h1, h2⟩
  · cases h
theorem cutρ_lt {n i k : Nat} (h : i < n) (hk : π i = some k) : cutρ π ρ n i = ρ k := by unfold cutρ; rw [if_pos h, hk]; rfl

theorem imm_weak {n0 : Nat} {T T' : Tm} {H' : AH} (hk : Weak π n0 T H T' H') {a : Addr} (h : Imm ρ H a) : Imm (cutρ π ρ H'.nxt) H' a := by
  intro i z es fz ho hρ
  obtain ⟨h1, k, hπ, h2⟩ := cutρ_some hρ
  rcases hk.ob i _ ho with ⟨k', o0, hπ', h3, h4⟩ | ⟨hπ', _⟩
  case inr => rw [hπ'] at hπ; cases hπ
  rw [hπ'] at hπ
  injection hπ with hπ
  subst hπ
  cases o0 with
  | cells z0 ds fz0 =>
    obtain ⟨es', fz', he, _, _, h5, _⟩ := h4
    injection he with e1 e2 e3
    subst e1 e2 e3
    exact Nat.lt_of_lt_of_le (h _ _ _ _ h3 h2) (Nat.mul_le_mul_right _ h5)
  | amap kvs => obtain ⟨_, he, _⟩ := h4; cases he

theorem cellsAt_weak {n0 : Nat} {T T' : Tm} {H' : AH} (hk : Weak π n0 T H T' H') {a : Addr} {xs : List Value} (h : CellsAt ρ H w a xs) : CellsAt (cutρ π ρ H'.nxt) H' w a xs :=
  fun j v hv => ⟨(h j v hv).1, imm_weak hk (h j v hv).2⟩

section
theorem sealL_length {H H' : AH} : ∀ {us vs : List AV}, SealL π H H' vs us → us.length = vs.length
  | [], vs, h => by simp only [SealL] at h; subst h; rfl
  | u :: us, vs, h => by
    simp only [SealL] at h
    split at h
    · simp [sealL_length h.2]
    · exact h.elim
theorem sealLL_length {H H' : AH} : ∀ {us vs : List (List AV)}, SealLL π H H' vs us → us.length = vs.length
  | [], vs, h => by simp only [SealLL] at h; subst h; rfl
  | u :: us, vs, h => by
    simp only [SealLL] at h
    split at h
    · simp [sealLL_length h.2]
    · exact h.elim
theorem sealLL_lengths {H H' : AH} {z : Nat} : ∀ {us vs : List (List AV)}, SealLL π H H' vs us → (∀ e ∈ vs, e.length = z) → ∀ e ∈ us, e.length = z
  | [], vs, h, _ => by simp
  | u :: us, vs, h, hz => by
    simp only [SealLL] at h
    split at h
    · intro e he
      rcases List.mem_cons.1 he with rfl | he
      · rw [sealL_length h.1]; exact hz _ (by simp)
      · exact sealLL_lengths h.2 (fun e h => hz e (by simp [h])) e he
    · exact h.elim

end

mutual
theorem rep_seal {n0 : Nat} {T T' : Tm} {H' : AH} (hh : Holds ρ H w) (hk : Weak π n0 T H T' H') : ∀ (u v : AV) (x : Value), Seal π H H' v u → Rep ρ H w v x → Rep (cutρ π ρ H'.nxt) H' w u x
  | .any, v, x, _, _ => by simp only [Rep]
  | .lit y, v, x, h, hr => by
    simp only [Seal] at h
    subst h
    simpa only [Rep] using hr
  | .agg cs, v, x, h, hr => by
    simp only [Seal] at h
    split at h
    · simp only [Rep] at hr ⊢
      obtain ⟨xs, rfl, hr⟩ := hr
      exact ⟨xs, rfl, repL_seal hh hk cs _ xs h hr⟩
    · exact h.elim
  | .tup cs, v, x, h, hr => by
    simp only [Seal] at h
    split at h
    · simp only [Rep] at hr ⊢
      obtain ⟨xs, rfl, hr⟩ := hr
      exact ⟨xs, rfl, repL_seal hh hk cs _ xs h hr⟩
    · exact h.elim
  | .sl es, v, x, h, hr => by
    simp only [Seal] at h
    split at h
    · rename_i ds
      simp only [Rep] at hr ⊢
      obtain ⟨A, cap, rfl, h1, h2, h3⟩ := hr
      have hl := sealLL_length h
      refine ⟨A, cap, by rw [hl], by omega, h2, fun hne => ?_⟩
      obtain ⟨a, z, xss, rfl, h4, h5, h6⟩ := h3 (by intro e; subst e; exact hne (List.eq_nil_of_length_eq_zero hl))
      exact ⟨a, z, xss, rfl, sealLL_lengths h h4, repLL_seal hh hk es _ xss h h5, fun j xs hj => cellsAt_weak hk (h6 j xs hj)⟩
    · rename_i i z o n
      obtain ⟨ds, fz, ho, hle, hs, hshut⟩ := h
      have hl := sealLL_length hs
      have hdl : ((ds.drop o).take n).length = n := by simp; omega
      rw [hdl] at hl
      simp only [Rep] at hr ⊢
      rcases hr with ⟨b, cap, ccs, t, fr, hb, rfl, h3, h4, h5, h6⟩ | ⟨rfl, hjn, A, rfl⟩
      · refine ⟨_, cap, by rw [hl], by omega, h4, fun hne => ?_⟩
        rcases hh.obj i _ ho with ⟨b', ccs', t', xss, k1, k2, k3, k4, k5, k6, k7⟩ | ⟨k1, _⟩
        · rw [hb] at k1
          injection k1 with k1
          subst k1
          refine ⟨_, z, (xss.drop o).take n, rfl, sealLL_lengths hs fun e he => k3 e (List.mem_of_mem_drop (List.mem_of_mem_take he)), repLL_seal hh hk es _ _ hs ((k4.drop o).take n), fun j xs hj k v hv => ?_⟩
          rw [List.getElem?_take] at hj
          split at hj
          · rename_i hjn
            rw [List.getElem?_drop] at hj
            have hc := k7 _ _ _ _ hj hv
            have hkz : k < z := by
              have := (List.getElem?_eq_some_iff.1 hv).1
              rw [k4.elem_length k3 xs (List.mem_of_getElem? hj)] at this
              exact this
            rw [add_flat, add_flat]
            refine ⟨?_, fun i' z' es' fz' ho' hρ' => ?_⟩
            · simp only [World.cell?, k2, Option.isSome_none, Bool.false_eq_true, if_false]
              rw [← hc]
              congr 1
              rw [Nat.add_mul]
            · obtain ⟨q1, m, hπ, q2⟩ := cutρ_some hρ'
              rcases hk.ob i' _ ho' with ⟨m', o0, hπ', q3, q4⟩ | ⟨hπ', _⟩
              case inr => rw [hπ'] at hπ; cases hπ
              rw [hπ'] at hπ
              injection hπ with hπ
              subst hπ
              have hii : m' = i := hh.inj m' i b _ _ q3 ho q2 hb
              subst hii
              rcases hshut i' hπ' with hs' | ⟨z2, es2, fz2, hs', hle'⟩
              · rw [ho'] at hs'; cases hs'
              · rw [ho'] at hs'
                injection hs' with hs'
                injection hs' with e1 e2 e3
                subst e1 e2 e3
                rw [ho] at q3
                injection q3 with q3
                subst q3
                obtain ⟨_, _, he, _⟩ := q4
                injection he with e1 _ _
                subst e1
                simp only []
                have h7 : (o + j + 1) * z' ≤ fz' * z' := Nat.mul_le_mul_right _ (by omega)
                rw [Nat.succ_mul, Nat.add_mul] at h7
                omega
          · cases hj
        · rw [hb] at k1; cases k1
      · have : es = [] := List.eq_nil_of_length_eq_zero (by omega)
        subst this
        exact ⟨A, 0, rfl, by simp, by simp [maxLen], fun h => absurd rfl h⟩
    · subst h
      simp only [Rep] at hr ⊢
      obtain ⟨A, rfl⟩ := hr
      exact ⟨A, 0, by simp, by simp, by simp [maxLen], fun h => absurd rfl h⟩
    · subst h
      simp only [Rep] at hr ⊢
      subst hr
      exact ⟨none, 0, by simp, by simp, by simp [maxLen], fun h => absurd rfl h⟩
    · exact h.elim
  | .esl, v, x, h, hr => by
    simp only [Seal] at h
    rcases h with rfl | rfl
    · simpa only [Rep] using hr
    · simp only [Rep] at hr ⊢
      subst hr
      exact ⟨none, rfl⟩
  | .rsl i z o n, v, x, h, hr => by
    simp only [Seal] at h
    rcases h with ⟨m, hπ, rfl, hi⟩ | ⟨rfl, hi, rfl | rfl⟩
    · simp only [Rep] at hr ⊢
      rcases hr with ⟨b, cap, ccs, t, fr, hb, rfl, h3⟩ | h
      · exact .inl ⟨b, cap, ccs, t, fr, by rw [cutρ_lt hi hπ]; exact hb, rfl, h3⟩
      · exact .inr ⟨h.1, hi, h.2.2⟩
    · simp only [Rep] at hr ⊢
      exact .inr ⟨trivial, hi, hr⟩
    · simp only [Rep] at hr ⊢
      exact .inr ⟨trivial, hi, none, hr⟩
  | .ptr i z e c, v, x, h, hr => by
    simp only [Seal] at h
    obtain ⟨m, hπ, rfl, hi⟩ := h
    simp only [Rep] at hr ⊢
    obtain ⟨b, hb, rfl⟩ := hr
    exact ⟨b, by rw [cutρ_lt hi hπ]; exact hb, rfl⟩
  | .iptr cs, v, x, h, hr => by
    simp only [Seal] at h
    split at h
    · simp only [Rep] at hr ⊢
      obtain ⟨a, xs, rfl, h1, h2⟩ := hr
      exact ⟨a, xs, rfl, repL_seal hh hk cs _ xs h h1, cellsAt_weak hk h2⟩
    · rename_i i z e c
      obtain ⟨ds, fz, ho, he, hs, hshut⟩ := h
      simp only [Rep] at hr ⊢
      obtain ⟨b, hb, rfl⟩ := hr
      have he' : ds[e]? = some ds[e] := List.getElem?_eq_getElem he
      obtain ⟨xs, hrx, hz, hc⟩ := hh.elem ho hb he'
      have hg : ds.getD e [] = ds[e] := by simp [List.getD_eq_getElem?_getD, he']
      rw [hg] at hs
      refine ⟨_, xs.drop c, rfl, repL_seal hh hk cs _ _ hs (hrx.drop c), fun k v hv => ?_⟩
      rw [List.getElem?_drop] at hv
      have hcz : c + k < z := by
        have := (List.getElem?_eq_some_iff.1 hv).1
        rw [hrx.length, hz] at this
        exact this
      rw [add_flat]
      refine ⟨by rw [Nat.add_assoc]; exact (hc _ _ hv).1, fun i' z' es' fz' ho' hρ' => ?_⟩
      obtain ⟨q1, m, hπ, q2⟩ := cutρ_some hρ'
      rcases hk.ob i' _ ho' with ⟨m', o0, hπ', q3, q4⟩ | ⟨hπ', _⟩
      case inr => rw [hπ'] at hπ; cases hπ
      rw [hπ'] at hπ
      injection hπ with hπ
      subst hπ
      have hii : m' = i := hh.inj m' i b _ _ q3 ho q2 hb
      subst hii
      rcases hshut i' hπ' with hs' | ⟨z2, es2, fz2, hs', hle'⟩
      · rw [ho'] at hs'; cases hs'
      · rw [ho'] at hs'
        injection hs' with hs'
        injection hs' with e1 e2 e3
        subst e1 e2 e3
        rw [ho] at q3
        injection q3 with q3
        subst q3
        obtain ⟨_, _, he2, _⟩ := q4
        injection he2 with e1 _ _
        subst e1
        simp only []
        have h7 : (e + 1) * z' ≤ fz' * z' := Nat.mul_le_mul_right _ hle'
        rw [Nat.succ_mul] at h7
        omega
    · exact h.elim
  | .clo f a b, v, x, h, hr => by
    simp only [Seal] at h
    split at h
    · obtain ⟨rfl, h1, h2⟩ := h
      simp only [Rep] at hr ⊢
      obtain ⟨fs, ks, rfl, h3, h4⟩ := hr
      exact ⟨fs, ks, rfl, repL_seal hh hk a _ fs h1 h3, repL_seal hh hk b _ ks h2 h4⟩
    · exact h.elim
  | .mp i, v, x, h, hr => by
    simp only [Seal] at h
    obtain ⟨m, hπ, rfl, hi⟩ := h
    simp only [Rep] at hr ⊢
    obtain ⟨b, hb, rfl⟩ := hr
    exact ⟨b, by rw [cutρ_lt hi hπ]; exact hb, rfl⟩
  | .gv g u, v, x, h, hr => by
    simp only [Seal] at h
    split at h
    · obtain ⟨rfl, h⟩ := h
      simp only [Rep] at hr ⊢
      exact ⟨fun hg => rep_seal hh hk u _ x (h hg) (hr.1 hg), hr.2⟩
    · exact h.elim
theorem repL_seal {n0 : Nat} {T T' : Tm} {H' : AH} (hh : Holds ρ H w) (hk : Weak π n0 T H T' H') : ∀ (us vs : List AV) (xs : List Value), SealL π H H' vs us → RepL ρ H w vs xs → RepL (cutρ π ρ H'.nxt) H' w us xs
  | [], vs, xs, h, hr => by
    simp only [SealL] at h
    subst h
    simpa only [RepL] using hr
  | u :: us, vs, xs, h, hr => by
    simp only [SealL] at h
    split at h
    · simp only [RepL] at hr ⊢
      obtain ⟨y, ys, rfl, h1, h2⟩ := hr
      exact ⟨y, ys, rfl, rep_seal hh hk u _ y h.1 h1, repL_seal hh hk us _ ys h.2 h2⟩
    · exact h.elim
theorem repLL_seal {n0 : Nat} {T T' : Tm} {H' : AH} (hh : Holds ρ H w) (hk : Weak π n0 T H T' H') : ∀ (us vs : List (List AV)) (xs : List (List Value)), SealLL π H H' vs us → RepLL ρ H w vs xs → RepLL (cutρ π ρ H'.nxt) H' w us xs
  | [], vs, xs, h, hr => by
    simp only [SealLL] at h
    subst h
    simpa only [RepLL] using hr
  | u :: us, vs, xs, h, hr => by
    simp only [SealLL] at h
    split at h
    · simp only [RepLL] at hr ⊢
      obtain ⟨y, ys, rfl, h1, h2⟩ := hr
      exact ⟨y, ys, rfl, repL_seal hh hk u _ y h.1 h1, repLL_seal hh hk us _ ys h.2 h2⟩
    · exact h.elim
end

theorem repT_seal {n0 : Nat} {T T' : Tm} {H' : AH} {tmps : Array Value} (hh : Holds ρ H w) (hk : Weak π n0 T H T' H') (hr : RepT ρ H w T tmps) : RepT (cutρ π ρ H'.nxt) H' w T' tmps := by
  have key : ∀ (U : Tm), SealT π H H' T U → RepT (cutρ π ρ H'.nxt) H' w U tmps := by
    intro U
    induction U with
    | nil => intro _ t; simp only [tget, Rep]
    | cons p U ih =>
      obtain ⟨i, v⟩ := p
      intro hU t
      simp only [SealT] at hU
      simp only [tget]
      split
      · rename_i e
        subst e
        exact rep_seal hh hk v _ _ hU.1 (hr i)
      · exact ih hU.2 t
  exact key T' hk.tm

theorem holds_weak {n0 : Nat} {T T' : Tm} {H' : AH} (hh : Holds ρ H w) (hk : Weak π n0 T H T' H') : Holds (cutρ π ρ H'.nxt) H' w where
  obj := fun i o ho => by
    have hi := hk.lt i o ho
    rcases hk.ob i o ho with ⟨m, o0, hπ, h1, h2⟩ | ⟨hπ, z, rfl⟩
    case inr => exact .inr ⟨by unfold cutρ; rw [if_pos hi, hπ]; rfl, rfl, rfl⟩
    cases o0 with
    | cells z ds fz =>
      obtain ⟨es, fz', rfl, h3, h4, h5, h6⟩ := h2
      have hl := sealLL_length h3
      rcases hh.obj m _ h1 with ⟨b, ccs, t, xss, k1, k2, k3, k4, k5, k6, k7⟩ | ⟨k1, k2, k3⟩
      · exact .inl ⟨b, ccs, t, xss, by rw [cutρ_lt hi hπ]; exact k1, k2, h4, repLL_seal hh hk es _ xss h3 k4, h6, by rw [hl]; exact k6, k7⟩
      · subst k2
        have : es = [] := List.eq_nil_of_length_eq_zero (by rw [hl]; rfl)
        subst this
        exact .inr ⟨by rw [cutρ_lt hi hπ]; exact k1, rfl, by simpa using h6⟩
    | amap kvs =>
      obtain ⟨kvs', rfl, h3, h4⟩ := h2
      obtain ⟨b, es, clock, k1, k2, k3, k4, k5⟩ := hh.obj m _ h1
      exact ⟨b, es, clock, by rw [cutρ_lt hi hπ]; exact k1, k2, k3, repL_seal hh hk _ _ _ h4 k4, by rw [h3]; exact k5⟩
  inj := fun i j b oi oj hi hj hbi hbj => by
    obtain ⟨_, ki, p1, h1⟩ := cutρ_some hbi
    obtain ⟨_, kj, p2, h2⟩ := cutρ_some hbj
    rcases hk.ob i oi hi with ⟨k1, o1, p3, h3, _⟩ | ⟨p3, _⟩
    case inr => rw [p3] at p1; cases p1
    rcases hk.ob j oj hj with ⟨k2, o2, p4, h4, _⟩ | ⟨p4, _⟩
    case inr => rw [p4] at p2; cases p2
    rw [p3] at p1
    injection p1 with p1
    subst p1
    rw [p4] at p2
    injection p2 with p2
    subst p2
    have e := hh.inj k1 k2 b o1 o2 h3 h4 h1 h2
    subst e
    exact hk.inj _ _ _ p3 p4
  lt := hk.lt
  bound := fun i b hi => by
    obtain ⟨h1, k, _, h2⟩ := cutρ_some hi
    exact ⟨h1, (hh.bound k b h2).2⟩

theorem ext_weak {T T' : Tm} {H' : AH} {ρ0 : Nat → Option Nat} {H0 : AH} {w0 : World} (he : Ext ρ0 H0 w0 ρ H w) (hk : Weak π H0.nxt T H T' H') : Ext ρ0 H0 w0 (cutρ π ρ H'.nxt) H' w where
  old := he.old
  agree := fun i b hi => by
    rw [cutρ_lt (Nat.lt_of_lt_of_le (he.old i b hi) hk.low) (hk.fix i (he.old i b hi))]
    exact he.agree i b hi
  new := fun i b hi => by
    obtain ⟨_, k, hπ, h1⟩ := cutρ_some hi
    rcases Nat.lt_or_ge i H0.nxt with hlt | hge
    · have := hk.fix i hlt
      rw [hπ] at this
      injection this with this
      subst this
      exact he.new _ b h1
    · rcases he.new k b h1 with h2 | h2
      · have h3 := he.old k b h2
        have := hk.inj i k k hπ (hk.fix k h3)
        omega
      · exact .inr ⟨hge, h2.2⟩
  live := fun i o ho hi => by
    rcases hk.ob i o ho with ⟨k, o0, hπ, h1, _⟩ | ⟨hπ, _⟩
    · have := hk.fix i hi
      rw [hπ] at this
      injection this with this
      subst this
      exact he.live _ o0 h1 hi
    · rw [hk.fix i hi] at hπ
      cases hπ
  nxt := hk.low
  imm := fun a v hc hi => let ⟨h1, h2⟩ := he.imm a v hc hi; ⟨h1, imm_weak hk h2⟩
  size := he.size
  rest := he.rest
  shape := he.shape
  os := he.os
  tape := he.tape
  output := he.output

end Go.Sim
