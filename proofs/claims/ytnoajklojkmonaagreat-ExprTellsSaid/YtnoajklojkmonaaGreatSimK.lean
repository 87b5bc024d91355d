/- Scopes, heaps over a start, and the rules by which code's goals are closed. Conditions: none. -/
import Derived.Test.YtnoajklojkmonaaGreatSimJ
set_option linter.unusedVariables false
set_option linter.unusedSimpArgs false
namespace Go.Sim

variable {P : Program} {ρ : Nat → Option Nat} {H : AH} {w : World}

/-! ### Scope -/
mutual
def Scoped (n : Nat) : AV → Prop
  | .lit _ => True
  | .agg cs => ScopedL n cs
  | .tup vs => ScopedL n vs
  | .sl es => ScopedLL n es
  | .esl => True
  | .rsl i _ _ _ => i < n
  | .ptr i _ _ _ => i < n
  | .iptr cs => ScopedL n cs
  | .clo _ f c => ScopedL n f ∧ ScopedL n c
  | .mp i => i < n
  | .gv g v => g = true → Scoped n v
  | .any => True
def ScopedL (n : Nat) : List AV → Prop
  | [] => True
  | v :: vs => Scoped n v ∧ ScopedL n vs
def ScopedLL (n : Nat) : List (List AV) → Prop
  | [] => True
  | v :: vs => ScopedL n v ∧ ScopedLL n vs
end

mutual
theorem scoped_of_rep (hh : Holds ρ H w) : ∀ (v : AV) (x : Value), Rep ρ H w v x → Scoped H.nxt v
  | .lit _, _, _ => by simp only [Scoped]
  | .agg cs, x, h => by
    simp only [Rep] at h
    obtain ⟨xs, _, h⟩ := h
    simp only [Scoped]
    exact scopedL_of_rep hh cs xs h
  | .tup cs, x, h => by
    simp only [Rep] at h
    obtain ⟨xs, _, h⟩ := h
    simp only [Scoped]
    exact scopedL_of_rep hh cs xs h
  | .sl es, x, h => by
    simp only [Rep] at h
    obtain ⟨_, _, _, _, _, h⟩ := h
    simp only [Scoped]
    cases es with
    | nil => simp only [ScopedLL]
    | cons e es =>
      obtain ⟨_, _, xss, _, _, h, _⟩ := h (by simp)
      exact scopedLL_of_rep hh _ xss h
  | .esl, _, _ => by simp only [Scoped]
  | .rsl i z o n, x, h => by
    simp only [Rep] at h
    simp only [Scoped]
    rcases h with ⟨b, _, _, _, _, hb, _⟩ | ⟨_, h, _⟩
    · exact (hh.bound _ _ hb).1
    · exact h
  | .ptr i z e c, x, h => by
    simp only [Rep] at h
    obtain ⟨b, hb, _⟩ := h
    simp only [Scoped]
    exact (hh.bound _ _ hb).1
  | .iptr cs, x, h => by
    simp only [Rep] at h
    obtain ⟨_, xs, _, h, _⟩ := h
    simp only [Scoped]
    exact scopedL_of_rep hh cs xs h
  | .clo fn f c, x, h => by
    simp only [Rep] at h
    obtain ⟨fs, ks, _, h1, h2⟩ := h
    simp only [Scoped]
    exact ⟨scopedL_of_rep hh f fs h1, scopedL_of_rep hh c ks h2⟩
  | .mp i, x, h => by
    simp only [Rep] at h
    obtain ⟨b, hb, _⟩ := h
    simp only [Scoped]
    exact (hh.bound _ _ hb).1
  | .gv g v, x, h => by
    simp only [Rep] at h
    simp only [Scoped]
    exact fun hg => scoped_of_rep hh v x (h.1 hg)
  | .any, _, _ => by simp only [Scoped]
theorem scopedL_of_rep (hh : Holds ρ H w) : ∀ (vs : List AV) (xs : List Value), RepL ρ H w vs xs → ScopedL H.nxt vs
  | [], _, _ => by simp only [ScopedL]
  | v :: vs, xs, h => by
    simp only [RepL] at h
    obtain ⟨y, ys, _, h1, h2⟩ := h
    simp only [ScopedL]
    exact ⟨scoped_of_rep hh v y h1, scopedL_of_rep hh vs ys h2⟩
theorem scopedLL_of_rep (hh : Holds ρ H w) : ∀ (vs : List (List AV)) (xs : List (List Value)), RepLL ρ H w vs xs → ScopedLL H.nxt vs
  | [], _, _ => by simp only [ScopedLL]
  | v :: vs, xs, h => by
    simp only [RepLL] at h
    obtain ⟨y, ys, _, h1, h2⟩ := h
    simp only [ScopedLL]
    exact ⟨scopedL_of_rep hh v y h1, scopedLL_of_rep hh vs ys h2⟩
end

mutual
theorem seal_scoped {H H' : AH} {n : Nat} (hn : n ≤ H'.nxt) : ∀ v : AV, Scoped n v → Seal some H H' v v
  | .lit v, _ => by simp only [Seal]
  | .agg cs, h => by simp only [Seal]; exact sealL_scoped hn cs h
  | .tup cs, h => by simp only [Seal]; exact sealL_scoped hn cs h
  | .sl es, h => by simp only [Seal]; exact sealLL_scoped hn es h
  | .esl, _ => by simp only [Seal]; exact .inl trivial
  | .rsl i z o k, h => by simp only [Scoped] at h; simp only [Seal]; exact .inl ⟨_, rfl, rfl, by omega⟩
  | .ptr i z e c, h => by simp only [Scoped] at h; simp only [Seal]; exact ⟨_, rfl, rfl, by omega⟩
  | .iptr cs, h => by simp only [Seal]; exact sealL_scoped hn cs h
  | .clo f a b, h => by simp only [Seal]; exact ⟨trivial, sealL_scoped hn a h.1, sealL_scoped hn b h.2⟩
  | .mp i, h => by simp only [Scoped] at h; simp only [Seal]; exact ⟨_, rfl, rfl, by omega⟩
  | .gv g v, h => by simp only [Scoped] at h; simp only [Seal]; exact ⟨trivial, fun hg => seal_scoped hn v (h hg)⟩
  | .any, _ => by simp only [Seal]
theorem sealL_scoped {H H' : AH} {n : Nat} (hn : n ≤ H'.nxt) : ∀ vs : List AV, ScopedL n vs → SealL some H H' vs vs
  | [], _ => by simp only [SealL]
  | v :: vs, h => by simp only [SealL]; exact ⟨seal_scoped hn v h.1, sealL_scoped hn vs h.2⟩
theorem sealLL_scoped {H H' : AH} {n : Nat} (hn : n ≤ H'.nxt) : ∀ vs : List (List AV), ScopedLL n vs → SealLL some H H' vs vs
  | [], _ => by simp only [SealLL]
  | v :: vs, h => by simp only [SealLL]; exact ⟨sealL_scoped hn v h.1, sealLL_scoped hn vs h.2⟩
end

mutual
theorem scoped_pure (n : Nat) : ∀ v : AV, Pure v → Scoped n v
  | .lit v, _ => by simp only [Scoped]
  | .agg cs, h => by simp only [Scoped]; exact scopedL_pure n cs h
  | .tup cs, h => by simp only [Scoped]; exact scopedL_pure n cs h
  | .sl es, h => by simp only [Scoped]; exact scopedLL_pure n es h
  | .esl, _ => by simp only [Scoped]
  | .rsl i z o k, h => by simp only [Pure] at h
  | .ptr i z e c, h => by simp only [Pure] at h
  | .iptr cs, h => by simp only [Scoped]; exact scopedL_pure n cs h
  | .clo f a b, h => by simp only [Scoped]; exact ⟨scopedL_pure n a h.1, scopedL_pure n b h.2⟩
  | .mp i, h => by simp only [Pure] at h
  | .gv g v, h => by simp only [Scoped]; exact fun _ => scoped_pure n v h
  | .any, _ => by simp only [Scoped]
theorem scopedL_pure (n : Nat) : ∀ vs : List AV, PureL vs → ScopedL n vs
  | [], _ => by simp only [ScopedL]
  | v :: vs, h => by simp only [ScopedL]; exact ⟨scoped_pure n v h.1, scopedL_pure n vs h.2⟩
theorem scopedLL_pure (n : Nat) : ∀ vs : List (List AV), PureLL vs → ScopedLL n vs
  | [], _ => by simp only [ScopedLL]
  | v :: vs, h => by simp only [ScopedLL]; exact ⟨scopedL_pure n v h.1, scopedLL_pure n vs h.2⟩
end

def ScopedO (n : Nat) : AObj → Prop
  | .cells z es fz => ScopedLL n es ∧ (∀ e ∈ es, e.length = z) ∧ fz ≤ es.length
  | .amap kvs => ScopedL n (kvs.map (·.2))
/-- All in a heap speaks of what it has. -/
def HSc (H : AH) : Prop := ∀ i o, H.obj i = some o → i < H.nxt ∧ ScopedO H.nxt o

theorem hsc_of_holds (hh : Holds ρ H w) : HSc H := by
  intro i o ho
  refine ⟨hh.lt i o ho, ?_⟩
  cases o with
  | cells z es fz =>
    simp only [ScopedO]
    rcases hh.obj i _ ho with ⟨b, ccs, t, xss, _, _, h1, h2, h3, _⟩ | ⟨_, rfl, rfl⟩
    · exact ⟨scopedLL_of_rep hh es xss h2, h1, h3⟩
    · exact ⟨by simp only [ScopedLL], by simp, by simp⟩
  | amap kvs =>
    obtain ⟨b, es, clock, _, _, _, h1, _⟩ := hh.obj i _ ho
    simp only [ScopedO]
    exact scopedL_of_rep hh _ _ h1

theorem sealO_scoped {H H' : AH} {n : Nat} (hn : n ≤ H'.nxt) {o : AObj} (h : ScopedO n o) : SealO some H H' o o := by
  cases o with
  | cells z es fz => exact ⟨es, fz, rfl, sealLL_scoped hn es h.1, h.2.1, Nat.le_refl _, h.2.2⟩
  | amap kvs => exact ⟨kvs, rfl, rfl, sealL_scoped hn _ h⟩

/-! ### A heap over a start -/
def AH.plus (H : AH) (l : List (Option AObj)) : AH := { obj := fun j => if j < H.nxt then H.obj j else (l[j - H.nxt]?).join, nxt := H.nxt + l.length }

theorem plus_obj (H : AH) (l : List (Option AObj)) (k : Nat) : (H.plus l).obj (H.nxt + k) = (l[k]?).join := by
  simp only [AH.plus]
  rw [if_neg (by omega), Nat.add_sub_cancel_left]
theorem plus_nxt (H : AH) (l : List (Option AObj)) : (H.plus l).nxt = H.nxt + l.length := rfl
theorem ah_ext {A B : AH} (h : ∀ j, A.obj j = B.obj j) (hn : A.nxt = B.nxt) : A = B := by
  cases A; cases B
  simp only at h hn
  have := funext h
  subst this hn
  rfl
theorem plus_nil (hs : HSc H) : H.plus [] = H := by
  refine ah_ext (fun j => ?_) rfl
  simp only [AH.plus]
  split
  · rfl
  · rename_i h
    cases ho : H.obj j with
    | none => simp
    | some o => exact absurd (hs j o ho).1 h
theorem plus_add (H : AH) (l : List (Option AObj)) (o : AObj) : (H.plus l).add o = H.plus (l ++ [some o]) := by
  refine ah_ext (fun j => ?_) (by simp [AH.plus, AH.add, Nat.add_assoc])
  show (if j = H.nxt + l.length then some o else (H.plus l).obj j) = (H.plus (l ++ [some o])).obj j
  simp only [AH.plus]
  by_cases h : j = H.nxt + l.length
  · subst h
    rw [if_pos rfl, if_neg (by omega), Nat.add_sub_cancel_left]
    simp
  · rw [if_neg h]
    split
    · rfl
    · rename_i h2
      rw [List.getElem?_append]
      split
      · rfl
      · rw [List.getElem?_eq_none (by omega), List.getElem?_eq_none (by simp; omega)]
theorem plus_set (H : AH) (l : List (Option AObj)) (k : Nat) (o : AObj) (hk : k < l.length) : (H.plus l).set (H.nxt + k) o = H.plus (l.set k (some o)) := by
  refine ah_ext (fun j => ?_) (by simp [AH.plus, AH.set])
  simp only [AH.plus, AH.set]
  by_cases h : j = H.nxt + k
  · subst h
    rw [if_pos rfl, if_neg (by omega), Nat.add_sub_cancel_left]
    simp [hk]
  · rw [if_neg h]
    split
    · rfl
    · rw [List.getElem?_set, if_neg (by omega)]
theorem plus_del (H : AH) (l : List (Option AObj)) (k : Nat) : (H.plus l).del (H.nxt + k) = H.plus (l.set k none) := by
  refine ah_ext (fun j => ?_) (by simp [AH.plus, AH.del])
  simp only [AH.plus, AH.del]
  by_cases h : j = H.nxt + k
  · subst h
    rw [if_pos rfl, if_neg (by omega), Nat.add_sub_cancel_left, List.getElem?_set]
    simp
    split <;> rfl
  · rw [if_neg h]
    split
    · rfl
    · rw [List.getElem?_set, if_neg (by omega)]

def SealOs (H H' : AH) : List (Option AObj) → List (Option AObj) → Prop
  | _, [] => True
  | _ :: l, none :: l' => SealOs H H' l l'
  | some o :: l, some o' :: l' => SealO some H H' o o' ∧ SealOs H H' l l'
  | _, _ => False

theorem sealOs_get {H H' : AH} : ∀ {l l' : List (Option AObj)}, SealOs H H' l l' → l'.length ≤ l.length ∧ ∀ (k : Nat) (o' : AObj), l'[k]? = some (some o') → ∃ o : AObj, l[k]? = some (some o) ∧ SealO some H H' o o'
  | l, [], _ => ⟨by simp, fun k o' h => by simp at h⟩
  | [], x :: l', h => by cases x <;> simp only [SealOs] at h
  | x :: l, none :: l', h => by
    have h' : SealOs H H' l l' := by cases x <;> simpa only [SealOs] using h
    obtain ⟨h1, h2⟩ := sealOs_get h'
    refine ⟨by simpa using h1, fun k o' hk => ?_⟩
    cases k with
    | zero => simp at hk
    | succ k => simpa using h2 k o' (by simpa using hk)
  | none :: l, some o' :: l', h => by simp only [SealOs] at h
  | some o :: l, some o' :: l', h => by
    simp only [SealOs] at h
    obtain ⟨h1, h2⟩ := sealOs_get h.2
    refine ⟨by simpa using h1, fun k o'' hk => ?_⟩
    cases k with
    | zero => simp at hk; subst hk; exact ⟨o, rfl, h.1⟩
    | succ k => simpa using h2 k o'' (by simpa using hk)

theorem weak_plus (hs : HSc H) {T T' : Tm} {l l' : List (Option AObj)} (ht : SealT some (H.plus l) (H.plus l') T T') (ho : SealOs (H.plus l) (H.plus l') l l') : Weak some H.nxt T (H.plus l) T' (H.plus l') where
  low := Nat.le_add_right _ _
  fix := fun _ _ => rfl
  inj := fun i j k h1 h2 => by injection h1 with h1; injection h2 with h2; omega
  tm := ht
  lt := fun i o h => by
    simp only [AH.plus] at h ⊢
    split at h
    · omega
    · rcases Nat.lt_or_ge (i - H.nxt) l'.length with h1 | h1
      · omega
      · rw [List.getElem?_eq_none h1] at h; cases h
  ob := fun i o h => by
    by_cases hi : i < H.nxt
    · have h0 := h
      simp only [AH.plus, if_pos hi] at h
      exact .inl ⟨i, o, rfl, by simp only [AH.plus, if_pos hi]; exact h, sealO_scoped (n := H.nxt) (Nat.le_add_right _ _) (hs i o h).2⟩
    · obtain ⟨k, rfl⟩ : ∃ k, i = H.nxt + k := ⟨i - H.nxt, by omega⟩
      rw [plus_obj] at h
      cases hk : l'[k]? with
      | none => rw [hk] at h; cases h
      | some y =>
        rw [hk] at h
        simp only [Option.join_some] at h
        subst h
        obtain ⟨o0, h1, h2⟩ := (sealOs_get ho).2 k o hk
        exact .inl ⟨_, o0, rfl, by rw [plus_obj, h1]; rfl, h2⟩

/-! ### The rules -/
theorem retok_plus (hs : HSc H) {rs : List ResultVar} {T : Tm} {l : List (Option AObj)} {r r' : AV} {K : AV → AH → Prop} {φ : Prop} (hr : ares P (H.plus l) rs T = some (φ, r)) (hφ : φ) (h : Seal some (H.plus l) H r r') (hk : K r' H) : RetOk P H.nxt rs K T (H.plus l) := by
  unfold RetOk
  rw [hr]
  refine ⟨hφ, .inr ⟨r', H, hk, ?_⟩⟩
  have e := plus_nil hs
  have := weak_plus (T := [(0, r)]) (T' := [(0, r')]) (l := l) (l' := []) hs (by rw [e]; simp only [SealT, tget, if_true]; exact ⟨h, trivial⟩) (by cases l <;> simp only [SealOs])
  rwa [e] at this

theorem retok_plus2 (hs : HSc H) {rs : List ResultVar} {T : Tm} {l l' : List (Option AObj)} {r r' : AV} {K : AV → AH → Prop} {φ : Prop} (hr : ares P (H.plus l) rs T = some (φ, r)) (hφ : φ) (h : Seal some (H.plus l) (H.plus l') r r') (ho : SealOs (H.plus l) (H.plus l') l l') (hk : K r' (H.plus l')) : RetOk P H.nxt rs K T (H.plus l) := by
  unfold RetOk
  rw [hr]
  exact ⟨hφ, .inr ⟨r', _, hk, weak_plus hs (by simp only [SealT, tget, if_true]; exact ⟨h, trivial⟩) ho⟩⟩

theorem callq {f : FuncId} {args : List AV} {r : AV} {d : Option Nat} {C : Tm → AH → Prop} {T : Tm} (hq : Quiet P f args r) (h : C (tput T d r) H) : ACallK P f args d C T H :=
  (hq H).mono fun r' H' ⟨h1, h2⟩ => by subst h1 h2; exact h

theorem gcallq {c : Bool} {f : FuncId} {args : List AV} (r : AV) {d : Option Nat} {C : Tm → AH → Prop} {T : Tm} (hq : c = true → Quiet P f args r) (h : C (tput T d (.gv c r)) H) : GCallK P c f args d C T H :=
  ⟨r, hq, h⟩

/-- What is handed on is shut first. -/
theorem ACalls.weak {f : FuncId} {args args' : List AV} {H' : AH} {K : AV → AH → Prop} (hk : Weak some H.nxt [] H [] H') (ha : SealL some H H' args args') (h : ACalls P f args' H' K) : ACalls P f args H K := by
  refine ⟨h.1, fun ρ w xs hh hr => ?_⟩
  refine (h.2 _ w xs (holds_weak hh hk) (repL_seal hh hk _ _ _ ha hr)).mono ?_
  rintro e w' ⟨r, H2, ρ2, x, h1, h2, h3, h4, h5⟩
  exact ⟨r, H2, ρ2, x, h1, h2, h3, (ext_weak (Ext.refl hh) hk).trans h4, h5⟩

theorem callw (H : AH) (hs : HSc H) {f : FuncId} {args : List AV} {d : Option Nat} {C : Tm → AH → Prop} {T : Tm} {l : List (Option AObj)} (args' : List AV) (r : AV) (l' : List (Option AObj)) (hl : l'.length = l.length)
    (ho : SealOs (H.plus l) (H.plus l') l l') (ha : SealL some (H.plus l) (H.plus l') args args') (hq : Quiet P f args' r) (h : C (tput T d r) (H.plus l')) : ACallK P f args d C T (H.plus l) := by
  have hk : Weak some (H.plus l).nxt [] (H.plus l) [] (H.plus l') := by
    have := weak_plus (T := []) (T' := []) hs (by simp only [SealT]) ho
    exact { this with low := (by simp only [plus_nxt, hl]; exact Nat.le_refl _), fix := fun _ _ => rfl }
  exact ACalls.weak hk ha (callq hq h)

theorem weak_freeze (hs : HSc H) {k z fz n : Nat} {es : List (List AV)} (hk : H.obj k = some (.cells z es fz)) (hf : fz ≤ n) (hn : n ≤ es.length) : Weak some H.nxt [] H [] (H.set k (.cells z es n)) where
  low := Nat.le_refl _
  fix := fun _ _ => rfl
  inj := fun i j k h1 h2 => by injection h1 with h1; injection h2 with h2; omega
  tm := by simp only [SealT]
  lt := fun i o h => by
    simp only [AH.set] at h ⊢
    split at h
    · rename_i e; subst e; exact (hs _ _ hk).1
    · exact (hs _ _ h).1
  ob := fun i o h => by
    simp only [AH.set] at h
    split at h
    · rename_i e
      subst e
      injection h with h
      subst h
      refine .inl ⟨_, _, rfl, hk, es, n, rfl, sealLL_scoped (n := H.nxt) (show H.nxt ≤ (H.set _ _).nxt from Nat.le_refl _) es (hs _ _ hk).2.1, (hs _ _ hk).2.2.1, hf, hn⟩
    · exact .inl ⟨_, o, rfl, h, sealO_scoped (n := H.nxt) (show H.nxt ≤ (H.set k (.cells z es n)).nxt from Nat.le_refl _) (hs _ _ h).2⟩

theorem ACalls.freeze {f : FuncId} {args args' : List AV} {K : AV → AH → Prop} {k z fz n : Nat} {es : List (List AV)} (hk : H.obj k = some (.cells z es fz)) (hf : fz ≤ n) (hn : n ≤ es.length) (ha : SealL some H (H.set k (.cells z es n)) args args')
    (h : ACalls P f args' (H.set k (.cells z es n)) K) : ACalls P f args H K := by
  refine ⟨h.1, fun ρ w xs hh hr => ?_⟩
  have hw := weak_freeze (hsc_of_holds hh) hk hf hn
  refine (h.2 _ w xs (holds_weak hh hw) (repL_seal hh hw _ _ _ ha hr)).mono ?_
  rintro e w' ⟨r, H2, ρ2, x, h1, h2, h3, h4, h5⟩
  exact ⟨r, H2, ρ2, x, h1, h2, h3, (ext_weak (Ext.refl hh) hw).trans h4, h5⟩

theorem weak_refl (hs : HSc H) : Weak some H.nxt [] H [] H where
  low := Nat.le_refl _
  fix := fun _ _ => rfl
  inj := fun i j k h1 h2 => by injection h1 with h1; injection h2 with h2; omega
  tm := by simp only [SealT]
  lt := fun i o h => (hs _ _ h).1
  ob := fun i o h => .inl ⟨_, o, rfl, h, sealO_scoped (n := H.nxt) (Nat.le_refl _) (hs _ _ h).2⟩
/-- A call whose arguments are told otherwise. -/
theorem calla {f : FuncId} {args : List AV} {d : Option Nat} {C : Tm → AH → Prop} {T : Tm} (args' : List AV) {r : AV} (hq : Quiet P f args' r) (ha : SealL some H H args args') (h : C (tput T d r) H) : ACallK P f args d C T H := by
  have hc : ACalls P f args' H fun r H' => C (tput T d r) H' := callq hq h
  refine ⟨hc.1, fun ρ w xs hh hr => ?_⟩
  have hw := weak_refl (hsc_of_holds hh)
  refine (hc.2 _ w xs (holds_weak hh hw) (repL_seal hh hw _ _ _ ha hr)).mono ?_
  rintro e w' ⟨r, H2, ρ2, x, h1, h2, h3, h4, h5⟩
  exact ⟨r, H2, ρ2, x, h1, h2, h3, (ext_weak (Ext.refl hh) hw).trans h4, h5⟩
/-- A call of what lies in an own row: the row is shut up to its n-th element first. -/
theorem callfz (H : AH) {f : FuncId} {args : List AV} {d : Option Nat} {C : Tm → AH → Prop} {T : Tm} {l : List (Option AObj)} (k n : Nat) {z fz : Nat} {es : List (List AV)} (args' : List AV) {r : AV} (hk : l[k]? = some (some (.cells z es fz))) (hf : fz ≤ n) (hn : n ≤ es.length)
    (hq : Quiet P f args' r) (ha : SealL some (H.plus l) (H.plus (l.set k (some (.cells z es n)))) args args') (h : C (tput T d r) (H.plus (l.set k (some (.cells z es n))))) : ACallK P f args d C T (H.plus l) := by
  have hlt : k < l.length := by
    rcases Nat.lt_or_ge k l.length with h | h
    · exact h
    · rw [List.getElem?_eq_none h] at hk; cases hk
  refine ACalls.freeze (k := H.nxt + k) (z := z) (fz := fz) (n := n) (es := es) (args' := args') (by rw [plus_obj, hk]; rfl) hf hn ?_ ?_
  · rw [plus_set _ _ _ _ hlt]; exact ha
  · rw [plus_set _ _ _ _ hlt]; exact callq hq h

/-- An own row is shut up to its n-th element ahead of a call. -/
theorem fzk (H : AH) {f : FuncId} {args : List AV} {d : Option Nat} {C : Tm → AH → Prop} {T : Tm} {l : List (Option AObj)} (k n : Nat) {z fz : Nat} {es : List (List AV)} (args' : List AV) (hk : l[k]? = some (some (.cells z es fz))) (hf : fz ≤ n) (hn : n ≤ es.length)
    (ha : SealL some (H.plus l) (H.plus (l.set k (some (.cells z es n)))) args args') (h : ACallK P f args' d C T (H.plus (l.set k (some (.cells z es n))))) : ACallK P f args d C T (H.plus l) := by
  have hlt : k < l.length := by
    rcases Nat.lt_or_ge k l.length with h | h
    · exact h
    · rw [List.getElem?_eq_none h] at hk; cases hk
  refine ACalls.freeze (k := H.nxt + k) (z := z) (fz := fz) (n := n) (es := es) (args' := args') (by rw [plus_obj, hk]; rfl) hf hn ?_ ?_
  · rw [plus_set _ _ _ _ hlt]; exact ha
  · rw [plus_set _ _ _ _ hlt]; exact h

theorem acalls_sc {f : FuncId} {fn : Func} {c : Code} {rs : Array ResultVar} {args : List AV} {K : AV → AH → Prop} (hf : P.funcs[f]? = some fn) (hb : fn.body = some c) (hrs : fn.results = rs) (hcall : callable P f = true) (hm : P.follows .mixedOrders = true)
    (hok : okCode fn.ntmps c = true) (hargs : args.length ≤ fn.ntmps) (h : HSc H → ScopedL H.nxt args → aw P H.nxt c (retQ P H.nxt rs.toList K) (initT 0 args) (H.plus [])) : ACalls P f args H K := by
  refine ⟨hcall, fun ρ w xs hh hr => ?_⟩
  have hs := hsc_of_holds hh
  have h' := h hs (scopedL_of_rep hh _ _ hr)
  rw [plus_nil hs] at h'
  exact (acalls_of_aw hf hb hrs hcall hm hok hargs h').2 ρ w xs hh hr

theorem quiet_sc {f : FuncId} {fn : Func} {c : Code} {rs : Array ResultVar} {args : List AV} {r : AV} (hf : P.funcs[f]? = some fn) (hb : fn.body = some c) (hrs : fn.results = rs) (hcall : callable P f = true) (hm : P.follows .mixedOrders = true)
    (hok : okCode fn.ntmps c = true) (hargs : args.length ≤ fn.ntmps) (h : ∀ H, HSc H → aw P H.nxt c (retQ P H.nxt rs.toList fun r' H' => r' = r ∧ H' = H) (initT 0 args) (H.plus [])) : Quiet P f args r :=
  fun H => acalls_sc hf hb hrs hcall hm hok hargs fun hs _ => h H hs

/-! ### What follows a change of the goal -/
theorem aops_mono {ops : Array Oper} {K K' : Tm → AH → Prop} (hk : ∀ T H, K T H → K' T H) : ∀ (l : List Oper) (T : Tm) (H : AH), aops P ops l K T H → aops P ops l K' T H
  | [], T, H, h => hk T H h
  | o :: l, T, H, h => by
    simp only [aops] at h ⊢
    split at h
    · exact h
    · split at h
      · exact ⟨h.1, aops_mono hk l _ _ h.2⟩
      · split at h
        · exact ⟨h.1, aops_mono hk l _ _ h.2⟩
        · split at h
          · exact ⟨h.1, h.2.mono fun r H' hr => aops_mono hk l _ _ hr⟩
          · exact h
    · split at h
      · exact ⟨h.1, aops_mono hk l _ _ h.2⟩
      · exact GLeaf.mono (aops_mono hk l) h
theorem ahead_mono {ops : Array Oper} {H0 : AH} {K K' : Tm → AH → Prop} (hk : ∀ T H, K T H → K' T H) : ∀ (l : List Oper) (T : Tm) (H : AH), ahead P ops H0 l K T H → ahead P ops H0 l K' T H
  | [], T, H, h => hk T H h
  | o :: l, T, H, h => by
    simp only [ahead] at h ⊢
    split at h
    · exact h
    · split at h
      · exact ⟨h.1, ahead_mono hk l _ _ h.2⟩
      · split at h
        · exact ⟨h.1, ahead_mono hk l _ _ h.2⟩
        · split at h
          · exact ⟨h.1, ahead_mono hk l _ _ h.2⟩
          · split at h
            · obtain ⟨k1, r, k2, k3⟩ := h
              exact ⟨k1, r, k2, ahead_mono hk l _ _ k3⟩
            · exact h
    · split at h
      · exact ⟨h.1, ahead_mono hk l _ _ h.2⟩
      · split at h
        · obtain ⟨k1, r, k2, k3⟩ := h
          exact ⟨k1, r, k2, ahead_mono hk l _ _ k3⟩
        · exact ⟨h.1, ahead_mono hk l _ _ h.2⟩
theorem aany_mono {ops : Array Oper} {K K' : Tm → AH → Prop} (hk : ∀ T H, K T H → K' T H) : ∀ (f : Nat) (ls : Array Bool) (T : Tm) (H : AH), aany P ops K f ls T H → aany P ops K' f ls T H
  | 0, ls, T, H, h => ⟨h.1, hk T H h.2⟩
  | f + 1, ls, T, H, h => by
    refine ⟨fun hr => hk T H (h.1 hr), fun i hi => ?_⟩
    have := h.2 i hi
    unfold aone at this ⊢
    split
    · rename_i o ho
      rw [ho] at this
      exact aops_mono (fun T H h => aany_mono hk f _ T H h) _ _ _ this
    · rename_i ho
      rw [ho] at this
      exact aany_mono hk f _ T H this
theorem aw_mono {n0 : Nat} : ∀ (c : Code) (Q Q' : Exit → Tm → AH → Prop) (T : Tm) (H : AH), (∀ e T H, Q e T H → Q' e T H) → aw P n0 c Q T H → aw P n0 c Q' T H := by
  intro c
  induction c with
  | skip => intro Q Q' T H hq h; exact hq _ _ _ h
  | label l => intro Q Q' T H hq h; exact hq _ _ _ h
  | exit id => intro Q Q' T H hq h; exact hq _ _ _ h
  | goto l => intro Q Q' T H hq h; exact hq _ _ _ h
  | ret => intro Q Q' T H hq h; exact hq _ _ _ h
  | refuse s => intro Q Q' T H hq h; exact h
  | scope c _ =>
    intro Q Q' T H hq h ρ0 H0 w0 N Qc hn hok hQ
    exact h ρ0 H0 w0 N Qc hn hok fun e a w hc => hQ e a w (conc_single hc fun T H h => hq e T H h)
  | rangeFunc f ps x y _ _ =>
    intro Q Q' T H hq h ρ0 H0 w0 N Qc hn hok hQ
    exact h ρ0 H0 w0 N Qc hn hok fun e a w hc => hQ e a w (conc_single hc fun T H h => hq e T H h)
  | seq x y ihx ihy =>
    intro Q Q' T H hq h
    refine ihx _ _ T H (fun e T H he => ?_) h
    cases e with
    | normal => exact ihy _ _ T H hq he
    | exit id => exact hq _ _ _ he
    | goto l => exact hq _ _ _ he
    | ret => exact hq _ _ _ he
    | panic ch => exact hq _ _ _ he
    | outgrown => exact hq _ _ _ he
  | cond c x y ihx ihy =>
    intro Q Q' T H hq h
    simp only [aw] at h ⊢
    unfold acond at h ⊢
    split at h
    · exact ⟨fun hb => ihx _ _ T H hq (h.1 hb), fun hb => ihy _ _ T H hq (h.2 hb)⟩
    · exact h
  | block id c ih =>
    intro Q Q' T H hq h
    refine ih _ _ T H (fun e T H he => ?_) h
    cases e with
    | exit id' =>
      simp only [inb] at he ⊢
      split at he
      · rename_i e; rw [if_pos e]; exact hq _ _ _ he
      · rename_i e; rw [if_neg e]; exact hq _ _ _ he
    | normal => exact hq _ _ _ he
    | goto l => exact hq _ _ _ he
    | ret => exact hq _ _ _ he
    | panic ch => exact hq _ _ _ he
    | outgrown => exact hq _ _ _ he
  | loop c ih =>
    intro Q Q' T H hq h
    obtain ⟨I, n, h1, h2⟩ := h
    refine ⟨I, n, h1, fun n T H hI => ih _ _ T H (fun e T H he => ?_) (h2 n T H hI)⟩
    cases e with
    | normal => exact he
    | exit id => exact he.mono (hq _)
    | goto l => exact he.mono (hq _)
    | ret => exact he.mono (hq _)
    | panic ch => exact he.mono (hq _)
    | outgrown => exact he.mono (hq _)
  | region id ops draw =>
    intro Q Q' T H hq h
    simp only [aw] at h ⊢
    split
    · rename_i hd
      rw [if_pos hd] at h
      have key : ∀ T H, AReg P ops (Q .normal) T H → AReg P ops (Q' .normal) T H := by
        rintro T H ⟨n, h1, h2⟩
        exact ⟨n, h1, ahead_mono (fun T H h => aany_mono (fun T H h => hq _ _ _ h) _ _ _ _ h) _ _ _ h2⟩
      rcases h with h | ⟨π, T', H', h1, h2⟩ | ⟨z, d, h1, h2⟩
      · exact .inl (key _ _ h)
      · exact .inr (.inl ⟨π, T', H', h1, key _ _ h2⟩)
      · exact .inr (.inr ⟨z, d, h1, key _ _ h2⟩)
    · rename_i hd
      rw [if_neg hd] at h
      exact aops_mono (fun T H h => hq _ _ _ h) _ _ _ h

/-- A round leaves what the next one starts from. -/
def Next {σ : Type} (H : AH) (inv : σ → Prop) (μ : σ → Nat) (Tf : σ → Tm) (Hf : σ → List (Option AObj)) (s : σ) (T' : Tm) (H' : AH) : Prop :=
  ∃ l', H' = H.plus l' ∧ ∃ s', inv s' ∧ μ s' < μ s ∧ SealT some (H.plus l') (H.plus (Hf s')) T' (Tf s') ∧ SealOs (H.plus l') (H.plus (Hf s')) l' (Hf s')

theorem next_intro {σ : Type} {H : AH} {inv : σ → Prop} {μ : σ → Nat} {Tf : σ → Tm} {Hf : σ → List (Option AObj)} {s : σ} {T' : Tm} {l' : List (Option AObj)} (s' : σ) (h1 : inv s') (h2 : μ s' < μ s)
    (h3 : SealT some (H.plus l') (H.plus (Hf s')) T' (Tf s')) (h4 : SealOs (H.plus l') (H.plus (Hf s')) l' (Hf s')) : Next H inv μ Tf Hf s T' (H.plus l') := ⟨_, rfl, s', h1, h2, h3, h4⟩

theorem loop_rule (hs : HSc H) {σ : Type} (inv : σ → Prop) (μ : σ → Nat) (Tf : σ → Tm) (Hf : σ → List (Option AObj)) (s0 : σ) {c : Code} {Q : Exit → Tm → AH → Prop} {T : Tm} {l : List (Option AObj)}
    (h0 : inv s0) (ht : SealT some (H.plus l) (H.plus (Hf s0)) T (Tf s0)) (ho : SealOs (H.plus l) (H.plus (Hf s0)) l (Hf s0))
    (hb : ∀ s, inv s → aw P H.nxt c (thn (Next H inv μ Tf Hf s) Q) (Tf s) (H.plus (Hf s))) : ALoop H.nxt (aw P H.nxt c) Q T (H.plus l) := by
  refine ⟨fun n T' H' => ∃ s, inv s ∧ μ s = n ∧ T' = Tf s ∧ H' = H.plus (Hf s), μ s0, .inr (.inl ⟨some, _, _, weak_plus hs ht ho, s0, h0, rfl, rfl, rfl⟩), ?_⟩
  rintro n T' H' ⟨s, h1, rfl, rfl, rfl⟩
  refine aw_mono _ _ _ _ _ (fun e T' H' he => ?_) (hb s h1)
  cases e with
  | normal =>
    obtain ⟨l', rfl, s', h2, h3, h4, h5⟩ := he
    exact ⟨μ s', h3, .inr (.inl ⟨some, _, _, weak_plus hs h4 h5, s', h2, rfl, rfl, rfl⟩)⟩
  | exit id => exact .inl he
  | goto l => exact .inl he
  | ret => exact .inl he
  | panic ch => exact .inl he
  | outgrown => exact .inl he


/-- A loop whose rounds are told by what is so of the state. -/
def NextD (I : Nat → Tm → AH → Prop) (n : Nat) (T' : Tm) (H' : AH) : Prop := ∃ n', n' < n ∧ I n' T' H'
theorem loop_ruleD {n0 : Nat} (I : Nat → Tm → AH → Prop) (n : Nat) {c : Code} {Q : Exit → Tm → AH → Prop} {T : Tm} (h0 : I n T H)
    (hb : ∀ n T H, I n T H → aw P n0 c (thn (NextD I n) Q) T H) : ALoop n0 (aw P n0 c) Q T H := by
  refine ⟨I, n, .inl h0, fun n T H h1 => ?_⟩
  refine aw_mono _ _ _ _ _ (fun e T' H' he => ?_) (hb n T H h1)
  cases e with
  | normal =>
    obtain ⟨n', h2, h3⟩ := he
    exact ⟨n', h2, .inl h3⟩
  | exit id => exact .inl he
  | goto l => exact .inl he
  | ret => exact .inl he
  | panic ch => exact .inl he
  | outgrown => exact .inl he

/-- The same; a slot that is nil is an empty row of a new object. -/
theorem loop_ruleG {n0 : Nat} (z d : Nat) (I : Nat → Tm → AH → Prop) (n : Nat) {c : Code} {Q : Exit → Tm → AH → Prop} {T : Tm} (hd : tget T d = .nilS) (h0 : I n ((d, .rsl H.nxt z 0 0) :: T) (H.add (.cells z [] 0)))
    (hb : ∀ n T H, I n T H → aw P n0 c (thn (NextD I n) Q) T H) : ALoop n0 (aw P n0 c) Q T H := by
  refine ⟨I, n, .inr (.inr ⟨z, d, hd, h0⟩), fun n T H h1 => ?_⟩
  refine aw_mono _ _ _ _ _ (fun e T' H' he => ?_) (hb n T H h1)
  cases e with
  | normal =>
    obtain ⟨n', h2, h3⟩ := he
    exact ⟨n', h2, .inl h3⟩
  | exit id => exact .inl he
  | goto l => exact .inl he
  | ret => exact .inl he
  | panic ch => exact .inl he
  | outgrown => exact .inl he

theorem plus_low (H : AH) (l : List (Option AObj)) {j : Nat} (h : j < H.nxt) : (H.plus l).obj j = H.obj j := by simp only [AH.plus]; rw [if_pos h]
theorem plus_setlow (H : AH) (l : List (Option AObj)) {j : Nat} (h : j < H.nxt) (o : AObj) : (H.plus l).set j o = (H.set j o).plus l := by
  refine ah_ext (fun q => ?_) rfl
  show (if q = j then some o else (if q < H.nxt then H.obj q else (l[q - H.nxt]?).join)) = (if q < H.nxt then (if q = j then some o else H.obj q) else (l[q - H.nxt]?).join)
  by_cases e : q = j
  · subst e; rw [if_pos rfl, if_pos h, if_pos rfl]
  · rw [if_neg e, if_neg e]

/-- What leaves all that was is a heap over it. -/
theorem is_plus {H H2 : AH} (h : ∀ q, q < H.nxt → H2.obj q = H.obj q) (hn : H.nxt ≤ H2.nxt) (hs : HSc H2) : ∃ l, H2 = H.plus l := by
  refine ⟨(List.range (H2.nxt - H.nxt)).map fun k => H2.obj (H.nxt + k), ah_ext (fun q => ?_) (by simp [AH.plus]; omega)⟩
  simp only [AH.plus]
  split
  · rename_i hq; exact h q hq
  · rename_i hq
    rw [List.getElem?_map]
    by_cases h2 : q - H.nxt < H2.nxt - H.nxt
    · rw [List.getElem?_range h2]
      simp only [Option.map_some, Option.join_some]
      congr 1
      omega
    · rw [List.getElem?_eq_none (by simp; omega)]
      simp only [Option.map_none, Option.join_none]
      cases ho : H2.obj q with
      | none => rfl
      | some o => have := (hs q o ho).1; omega
/-- What lies behind a state that moves on its own: 'inv s H B': the state s lies in the objects B. -/
structure St (σ : Type) where
  inv : σ → AH → (Nat → Prop) → Prop
  stable : ∀ {s H H' B}, inv s H B → (∀ q, B q → H'.obj q = H.obj q) → H.nxt ≤ H'.nxt → inv s H' B
  low : ∀ {s H B}, inv s H B → ∀ q, B q → q < H.nxt
def Moves {σ : Type} (I : St σ) (s' : σ) (H : AH) (B : Nat → Prop) (H' : AH) : Prop :=
  H.nxt ≤ H'.nxt ∧ (∀ q, q < H.nxt → ¬ B q → H'.obj q = H.obj q) ∧ ∃ B', I.inv s' H' B' ∧ ∀ q, B' q → B q ∨ H.nxt ≤ q
theorem Moves.is_plus {σ : Type} {I : St σ} {s : σ} {H H2 : AH} {B : Nat → Prop} {l : List (Option AObj)} (h : Moves I s (H.plus l) B H2) (hB : ∀ q, B q → H.nxt ≤ q) (hs : HSc H2) : ∃ l', H2 = H.plus l' := by
  obtain ⟨h1, h2, _⟩ := h
  simp only [plus_nxt] at h1 h2
  exact Sim.is_plus (fun q hq => by rw [h2 q (by omega) (fun hb => by have := hB q hb; omega), plus_low H l hq]) (by omega) hs

theorem Moves.refl {σ : Type} {I : St σ} {s : σ} {H : AH} {B : Nat → Prop} (h : I.inv s H B) : Moves I s H B H := ⟨Nat.le_refl _, fun _ _ _ => rfl, B, h, fun q hq => .inl hq⟩
theorem Moves.trans {σ : Type} {I : St σ} {s1 s2 : σ} {H1 H2 H3 : AH} {B : Nat → Prop} (h : Moves I s1 H1 B H2) (k : ∀ B', I.inv s1 H2 B' → Moves I s2 H2 B' H3) : Moves I s2 H1 B H3 := by
  obtain ⟨h1, h2, B', h3, h4⟩ := h
  obtain ⟨k1, k2, B'', k3, k4⟩ := k B' h3
  refine ⟨by omega, fun q hq hb => ?_, B'', k3, fun q hq => ?_⟩
  · rw [k2 q (by omega) (fun hB => by rcases h4 q hB with h | h; exact hb h; omega), h2 q hq hb]
  · rcases k4 q hq with h | h
    · exact h4 q h
    · right; omega
theorem Moves.via {σ : Type} {I : St σ} {s2 : σ} {H1 H2 H3 : AH} {B B' : Nat → Prop} (h1 : H1.nxt ≤ H2.nxt) (h2 : ∀ q, q < H1.nxt → ¬ B q → H2.obj q = H1.obj q) (h4 : ∀ q, B' q → B q ∨ H1.nxt ≤ q) (k : Moves I s2 H2 B' H3) : Moves I s2 H1 B H3 := by
  obtain ⟨k1, k2, B'', k3, k4⟩ := k
  refine ⟨by omega, fun q hq hb => ?_, B'', k3, fun q hq => ?_⟩
  · rw [k2 q (by omega) (fun hB => by rcases h4 q hB with h | h; exact hb h; omega), h2 q hq hb]
  · rcases k4 q hq with h | h
    · exact h4 q h
    · right; omega
/-- New objects, and others that are not the state's, do not move it. -/
theorem St.grow {σ : Type} {I : St σ} {s : σ} {H : AH} {B : Nat → Prop} (h : I.inv s H B) (l : List (Option AObj)) : I.inv s (H.plus l) B :=
  I.stable h (fun q hq => plus_low H l (I.low h q hq)) (Nat.le_add_right _ _)
theorem Moves.grow {σ : Type} {I : St σ} {s : σ} {H H' : AH} {B : Nat → Prop} {l : List (Option AObj)} (h : Moves I s (H.plus l) B H') (hB : ∀ q, B q → q < H.nxt) : Moves I s H B H' := by
  obtain ⟨h1, h2, B', h3, h4⟩ := h
  simp only [plus_nxt] at h1 h2 h4
  refine ⟨by omega, fun q hq hb => ?_, B', h3, fun q hq => ?_⟩
  · rw [h2 q (by omega) hb, plus_low H l hq]
  · rcases h4 q hq with h | h
    · exact .inl h
    · right; omega
theorem Moves.own {σ : Type} {I : St σ} {s : σ} {H H' : AH} {B : Nat → Prop} {l : List (Option AObj)} {k : Nat} (h : Moves I s (H.plus l) B H') (hB : ∀ q, B q → q < H.nxt) (hk : k < l.length) (l' : List (Option AObj)) :
    (H'.plus l').obj (H.nxt + k) = (l[k]?).join := by
  obtain ⟨h1, h2, _⟩ := h
  simp only [plus_nxt] at h1 h2
  rw [plus_low H' l' (by omega), h2 _ (by omega) (fun hb => by have := hB _ hb; omega), plus_obj]

theorem ACalls.hsc {f : FuncId} {args : List AV} {K : AV → AH → Prop} (h : ACalls P f args H K) : ACalls P f args H fun r H' => K r H' ∧ HSc H' ∧ H.nxt ≤ H'.nxt ∧ Scoped H'.nxt r := by
  refine ⟨h.1, fun ρ w xs hh hr => ?_⟩
  refine (h.2 ρ w xs hh hr).mono ?_
  rintro e w' ⟨r, H2, ρ2, x, h1, h2, h3, h4, h5⟩
  exact ⟨r, H2, ρ2, x, ⟨h1, hsc_of_holds h3, h4.nxt, scoped_of_rep h3 _ _ h5⟩, h2, h3, h4, h5⟩

end Go.Sim
