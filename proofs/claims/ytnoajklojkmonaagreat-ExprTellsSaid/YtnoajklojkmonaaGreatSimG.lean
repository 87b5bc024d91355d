/- Calls, regions and code over abstract states, and that what is shown there holds of the runs. Conditions: none. -/
import Derived.Test.YtnoajklojkmonaaGreatSimF
import Derived.Deep.LoopGhost
import Derived.Orders
set_option linter.unusedVariables false
set_option linter.unusedSimpArgs false
namespace Go.Sim

variable {P : Program} {ρ : Nat → Option Nat} {H : AH} {w : World}

def callable (P : Program) (f : FuncId) : Bool :=
  match P.funcs[f]? with
  | some fn => fn.body.isSome && !(fn.name == "runtime.NumGoroutine")
  | none => false

/-- Called with these in a world that H tells, the function returns, and K holds of what it returns, and of what the world then tells. -/
def ACalls (P : Program) (f : FuncId) (args : List AV) (H : AH) (K : AV → AH → Prop) : Prop :=
  callable P f = true ∧ ∀ (ρ : Nat → Option Nat) (w : World) (xs : List Value), Holds ρ H w → RepL ρ H w args xs →
    Calls P f xs.toArray w fun e w' => ∃ r H' ρ' x, K r H' ∧ e = .returned x ∧ Holds ρ' H' w' ∧ Ext ρ H w ρ' H' w' ∧ Rep ρ' H' w' r x

/-- It returns r, and leaves all as it was. -/
def Quiet (P : Program) (f : FuncId) (args : List AV) (r : AV) : Prop := ∀ H, ACalls P f args H fun r' H' => r' = r ∧ H' = H

theorem ACalls.mono {f : FuncId} {args : List AV} {K K' : AV → AH → Prop} (h : ACalls P f args H K) (hk : ∀ r H', K r H' → K' r H') : ACalls P f args H K' :=
  ⟨h.1, fun ρ w xs hh hr => (h.2 ρ w xs hh hr).mono fun e w' ⟨r, H', ρ', x, h1, h2⟩ => ⟨r, H', ρ', x, hk _ _ h1, h2⟩⟩

/-! ### One operation behind another -/
def aeff (P : Program) (T : Tm) (H : AH) : Op → Option (Prop × AV × AH)
  | .alloc t => (tzero P t).map fun zs => (True, .ptr H.nxt zs.length 0 0, H.add (.cells zs.length [zs.map .lit] 0))
  | .box t x => some (gokL T [x] ∧ (ev T x).core.fit = true, .ptr H.nxt (acells (ev T x).core).length 0 0, H.add (.cells (acells (ev T x).core).length [acells (ev T x).core] 0))
  | .buildSlice t n ps => (abuildSlice P t n H (ps.toList.map fun (i, x) => (i, (ev T x).core))).map fun (φ, r, H') => (gokL T (ps.toList.map (·.2)) ∧ φ, r, H')
  | .store t x v => (astore P t H (ev T x).core (ev T v).core).map fun (φ, r, H') => (gokL T [x, v] ∧ φ, r, H')
  | .call ⟨.builtin .append, args, ts⟩ =>
    match args.toList, ts.toList with
    | [x, y], [t, t'] => (aappend P t H (ev T x).core (ev T y).core).map fun (φ, r, H') => (gokL T [x, y] ∧ t' = t ∧ φ, r, H')
    | _, _ => none
  | _ => none

/-- A new object in place of what a step leaves. -/
theorem aeff_ok {T : Tm} {a : Act} {o : Oper} {φ : Prop} {r : AV} {H' : AH} (hh : Holds ρ H w) (ht : RepT ρ H w T a.tmps) (h : aeff P T H o.op = some (φ, r, H')) (hφ : φ) :
    ∃ n w' ρ' x, (execOp a.eval o).run P w = .ok n w' ∧ (n = .value x ∨ (n = .skip ∧ x = undef)) ∧ Rep ρ' H' w' r x ∧ Holds ρ' H' w' ∧ Ext ρ H w ρ' H' w' := by
  have val : ∀ {s : Sem Value}, Made P ρ H w s r H' → ∃ n w' ρ' x, (do pure (.value (← s)) : Sem Next).run P w = .ok n w' ∧ (n = .value x ∨ (n = .skip ∧ x = undef)) ∧ Rep ρ' H' w' r x ∧ Holds ρ' H' w' ∧ Ext ρ H w ρ' H' w' := by
    rintro s ⟨y, w', ρ', hy, h1, h2, h3⟩
    exact ⟨.value y, w', ρ', y, by simp only [Sem.run_bind, hy, Result.andThen_ok, Sem.run_pure], .inl rfl, h1, h2, h3⟩
  unfold aeff at h
  unfold execOp
  split at h
  · rename_i t heq
    simp only [heq]
    simp only [Option.map_eq_some_iff, Prod.mk.injEq] at h
    obtain ⟨zs, hz, rfl, rfl, rfl⟩ := h
    exact val (made_alloc hh hz)
  · rename_i t x heq
    simp only [heq]
    simp only [Option.some.injEq, Prod.mk.injEq] at h
    obtain ⟨rfl, rfl, rfl⟩ := h
    exact val (made_box hh hφ.2 (rep_evc ht hφ.1.1))
  · rename_i t n ps heq
    simp only [heq]
    simp only [Option.map_eq_some_iff, Prod.mk.injEq] at h
    obtain ⟨⟨ψ, r', H''⟩, h1, rfl, rfl, rfl⟩ := h
    have key : ∀ (j : Nat) u v, (ps.toList.map fun (i, x) => (i, (ev T x).core))[j]? = some u → (ps.map fun (i, x) => (i, a.eval x)).toList[j]? = some v → Rep ρ H w u.2 v.2 := ?_
    · have hmade := made_buildSlice (P := P) (ps := ps.map fun (i, x) => (i, a.eval x)) hh h1 hφ.2 (by simp) key
      exact val hmade
    intro j u v hu hv
    have hg : ∀ (l : List (Nat × Operand)), gokL T (l.map (·.2)) → ∀ y ∈ l, (ev T y.2).grd = true := by
      intro l
      induction l with
      | nil => intro _ y hy; cases hy
      | cons z l ih => intro hl y hy; simp only [List.map_cons, gokL] at hl; cases hy with | head => exact hl.1 | tail _ hy => exact ih hl.2 y hy
    simp only [Array.toList_map, List.getElem?_map, Option.map_eq_some_iff] at hu hv
    obtain ⟨⟨i1, x1⟩, hx1, rfl⟩ := hu
    obtain ⟨⟨i2, x2⟩, hx2, rfl⟩ := hv
    rw [hx1] at hx2
    injection hx2 with hx2
    injection hx2 with _ hx2
    subst hx2
    exact rep_evc ht (hg _ hφ.1 _ (List.mem_of_getElem? hx1))
  · rename_i t x v heq
    simp only [heq]
    simp only [Option.map_eq_some_iff, Prod.mk.injEq] at h
    obtain ⟨⟨ψ, r', H''⟩, h1, rfl, rfl, rfl⟩ := h
    obtain ⟨⟨w', ρ', hs, h2, h3⟩, hr⟩ := made_store hh h1 hφ.2 (rep_evc ht hφ.1.1) (rep_evc ht hφ.1.2.1)
    refine ⟨.skip, w', ρ', undef, by simp only [Sem.run_bind, hs, Result.andThen_ok, Sem.run_pure], .inr ⟨rfl, rfl⟩, ?_, h2, h3⟩
    have hr' : r' = .any := hr
    simp only [hr', Rep]
  · rename_i args ts heq
    split at h
    · rename_i x y t t' hx hts
      simp only [heq]
      simp only [Option.map_eq_some_iff, Prod.mk.injEq] at h
      obtain ⟨⟨ψ, r', H''⟩, h1, rfl, rfl, rfl⟩ := h
      obtain ⟨hg, rfl, hψ⟩ := hφ
      obtain rfl : args = #[x, y] := Array.ext' hx
      obtain rfl : ts = #[t', t'] := Array.ext' hts
      have := made_append (P := P) (ty := o.type) hh h1 hψ (rep_evc ht hg.1) (rep_evc ht hg.2.1)
      obtain ⟨z, w', ρ', hz, h2, h3, h4⟩ := this
      refine ⟨.value z, w', ρ', z, ?_, .inl rfl, h2, h3, h4⟩
      simp [resolve, invoke, builtin, hz]
    · cases h
  · cases h

def acallee (T : Tm) : Op → Option (Prop × FuncId × List AV)
  | .call ⟨.value f, args, _⟩ =>
    match (ev T f).core with
    | .clo (.func k) first caps => some (gokL T (f :: args.toList), k, first ++ evL T args ++ caps)
    | _ => none
  | _ => none

def ACallK (P : Program) (f : FuncId) (args : List AV) (d : Option Nat) (C : Tm → AH → Prop) (T : Tm) (H : AH) : Prop :=
  ACalls P f args H fun r H' => C (tput T d r) H'

/-- A guarded call: it is a quiet one. -/
def GCallK (P : Program) (c : Bool) (f : FuncId) (args : List AV) (d : Option Nat) (C : Tm → AH → Prop) (T : Tm) (H : AH) : Prop :=
  ∃ r, (c = true → Quiet P f args r) ∧ C (tput T d (.gv c r)) H

def gcond (ops : Array Oper) (T : Tm) (o : Oper) : Option (Option Bool) :=
  match o.guard with
  | none => some none
  | some (j, want) =>
    match (ops[j]?).bind (·.dst) with
    | none => none
    | some d =>
      match tget T d with
      | .lit (.bool b) => some (some (b == want))
      | .gv g (.lit (.bool b)) => some (some (g && (b == want)))
      | _ => none

/-- A guarded operation that is not pure: a quiet call, told apart; or what is done, where the guard is decided. -/
def GLeaf (P : Program) (c : Bool) (d : Option Nat) (C : Tm → AH → Prop) (T : Tm) (H : AH) (cal : Option (Prop × FuncId × List AV)) (eff : Option (Prop × AV × AH)) : Prop :=
  (∃ φ f args, cal = some (φ, f, args) ∧ (c = true → φ) ∧ GCallK P c f args d C T H) ∨
  (c = true ∧ ((∃ φ r H', eff = some (φ, r, H') ∧ φ ∧ C (tput T d r) H') ∨ (∃ φ f args, cal = some (φ, f, args) ∧ φ ∧ ACallK P f args d C T H))) ∨
  (c = false ∧ C (tput T d (.gv false .any)) H)

def aops (P : Program) (ops : Array Oper) : List Oper → (Tm → AH → Prop) → Tm → AH → Prop
  | [], K, T, H => K T H
  | o :: rest, K, T, H =>
    match gcond ops T o with
    | none => False
    | some none =>
      match apure P H T o.op with
      | some (φ, r) => φ ∧ aops P ops rest K (tput T o.dst r) H
      | none =>
        match aeff P T H o.op with
        | some (φ, r, H') => φ ∧ aops P ops rest K (tput T o.dst r) H'
        | none =>
          match acallee T o.op with
          | some (φ, f, args) => φ ∧ ACallK P f args o.dst (aops P ops rest K) T H
          | none => False
    | some (some c) =>
      match apure P H T o.op with
      | some (φ, r) => (c = true → φ) ∧ aops P ops rest K (tput T o.dst (.gv c r)) H
      | none => GLeaf P c o.dst (aops P ops rest K) T H (acallee T o.op) (aeff P T H o.op)

/-- What an abstract state tells of a run's state, behind a start. -/
def Conc (ρ0 : Nat → Option Nat) (H0 : AH) (w0 : World) (N : Nat) (K : Tm → AH → Prop) (a : Act) (w : World) : Prop :=
  ∃ T H ρ, K T H ∧ RepT ρ H w T a.tmps ∧ Holds ρ H w ∧ Ext ρ0 H0 w0 ρ H w ∧ a.defers = [] ∧ a.tmps.size = N

theorem size_put (a : Act) (d : Option Tmp) (v : Value) : (a.put d v).tmps.size = a.tmps.size := by cases d <;> simp [Act.put]
theorem defers_put (a : Act) (d : Option Tmp) (v : Value) : (a.put d v).defers = a.defers := by cases d <;> rfl

theorem gcond_ok {ops : Array Oper} {T : Tm} {a : Act} {o : Oper} (ht : RepT ρ H w T a.tmps) {c : Bool} (h : gcond ops T o = some (some c)) : Region.wanted o (yielded ops a.tmps) = c := by
  unfold gcond at h
  split at h
  · cases h
  · rename_i j want hg
    split at h
    · cases h
    · rename_i d hd
      have hy : ∀ b, a.tmps[d]? = some (.bool b) → yielded ops a.tmps j = some b := by
        intro b hb
        simp [yielded, hd, hb]
      have hcell : ∀ x, a.tmps.getD d undef = x → x ≠ undef → a.tmps[d]? = some x := by
        intro x hx hne
        rw [Array.getD_eq_getD_getElem?] at hx
        cases h : a.tmps[d]? with
        | none => rw [h] at hx; exact absurd hx.symm hne
        | some y => rw [h] at hx; simpa using hx
      have hbu : ∀ b, Value.bool b ≠ undef := fun b => by simp [undef]
      have hr := ht d
      split at h
      · rename_i b hb
        simp only [Option.some.injEq] at h
        subst h
        rw [hb] at hr
        simp only [Rep] at hr
        have := hy b (hcell _ hr (hbu b))
        simp [Region.wanted, hg, this]
      · rename_i g b hb
        simp only [Option.some.injEq] at h
        subst h
        rw [hb] at hr
        simp only [Rep] at hr
        cases g with
        | true =>
          have := hy b (hcell _ (hr.1 rfl) (hbu b))
          simp [Region.wanted, hg, this]
        | false =>
          have hu := hr.2 rfl
          have : yielded ops a.tmps j = none := by
            unfold yielded
            rw [hd]
            rw [Array.getD_eq_getD_getElem?] at hu
            cases h : a.tmps[d]? with
            | none => simp [h]
            | some y => rw [h] at hu; simp only [Option.getD_some] at hu; subst hu; simp [h, undef]
          simp [Region.wanted, hg, this]
      · cases h

theorem gcond_none {ops : Array Oper} {T : Tm} {o : Oper} (h : gcond ops T o = some none) (y : Nat → Option Bool) : Region.wanted o y = true := by
  unfold gcond at h
  split at h
  · rename_i hg; simp [Region.wanted, hg]
  · split at h
    · cases h
    · split at h <;> cases h

theorem acall_run {T : Tm} {a : Act} {o : Oper} {φ : Prop} {f : FuncId} {args : List AV} (ht : RepT ρ H w T a.tmps) (h : acallee T o.op = some (φ, f, args)) (hφ : φ) (hc : callable P f = true) :
    ∃ xs : List Value, (execOp a.eval o).run P w = .ok (.enter f xs.toArray) w ∧ RepL ρ H w args xs := by
  unfold acallee at h
  split at h
  · rename_i fv as ts heq
    split at h
    · rename_i k first caps hf
      simp only [Option.some.injEq, Prod.mk.injEq] at h
      obtain ⟨rfl, rfl, rfl⟩ := h
      simp only [gokL] at hφ
      have hfv := rep_evc ht hφ.1
      rw [hf] at hfv
      simp only [Rep] at hfv
      obtain ⟨fs, ks, hval, h1, h2⟩ := hfv
      have hargs := rep_evL ht hφ.2
      refine ⟨fs ++ as.toList.map a.eval ++ ks, ?_, (h1.append hargs).append h2⟩
      unfold callable at hc
      split at hc
      · rename_i fn hfn
        simp only [Bool.and_eq_true, Bool.not_eq_true', beq_eq_false_iff_ne] at hc
        have hb : fn.body.isNone = false := by cases hfb : fn.body with | none => simp [hfb] at hc | some b => rfl
        have hn : (fn.name == "runtime.NumGoroutine") = false := by simpa using hc.2
        unfold execOp
        simp only [heq, resolve, Sem.run_bind, Sem.run_pure, Result.andThen_ok, hval, Deferred.ofValue, invoke, callFunc, run_program, hfn, hn, hb, Bool.false_eq_true, if_false]
        congr 2
        apply Array.ext'
        simp
      · cases hc
    · cases h
  · cases h

theorem aops_ok {ρ0 : Nat → Option Nat} {H0 : AH} {w0 : World} {N : Nat} {ops : Array Oper} {K : Tm → AH → Prop} {Q : Exit → Act → World → Prop} (hQ : ∀ a w, Conc ρ0 H0 w0 N K a w → Q .normal a w) :
    ∀ (l : List Oper), (∀ o ∈ l, ∀ d, o.dst = some d → d < N) → ∀ a w, Conc ρ0 H0 w0 N (aops P ops l K) a w → wpList P ops Q l a w := by
  intro l
  induction l with
  | nil =>
    intro _ a w h
    exact hQ a w h
  | cons o l ih =>
    intro hd a w ⟨T, H, ρ, hK, ht, hh, he, hdf, hN⟩
    have hdo : ∀ d, o.dst = some d → d < a.tmps.size := fun d hd' => by rw [hN]; exact hd o (by simp) d hd'
    have ih' := ih fun o' ho' => hd o' (by simp [ho'])
    have next : ∀ {T' : Tm} {H' : AH} {ρ' : Nat → Option Nat} {w' : World} {x : Value} {r : AV}, aops P ops l K (tput T o.dst r) H' → Rep ρ' H' w' r x → Holds ρ' H' w' → Ext ρ H w ρ' H' w' → wpList P ops Q l (a.put o.dst x) w' := by
      intro T' H' ρ' w' x r h1 h2 h3 h4
      exact ih' _ _ ⟨_, H', ρ', h1, (ht.ext h4).put hdo h2, h3, he.trans h4, by rw [defers_put]; exact hdf, by rw [size_put]; exact hN⟩
    simp only [aops] at hK
    split at hK
    · exact hK.elim
    · rename_i hg
      have hw := gcond_none hg (yielded ops a.tmps)
      simp only [wpList, hw, if_true]
      refine .inl ?_
      split at hK
      · rename_i φ r hp
        obtain ⟨x, hx, hr⟩ := apure_ok hh ht hp hK.1
        simp only [Oper.wp, hx, Oper.upon]
        exact next (T' := T) hK.2 hr hh (Ext.refl hh)
      · split at hK
        · rename_i φ r H' hp
          obtain ⟨n, w', ρ', x, hx, hn, hr, h3, h4⟩ := aeff_ok hh ht hp hK.1
          rcases hn with rfl | ⟨rfl, rfl⟩
          · simp only [Oper.wp, hx, Oper.upon]
            exact next (T' := T) hK.2 hr h3 h4
          · simp only [Oper.wp, hx, Oper.upon]
            exact next (T' := T) hK.2 hr h3 h4
        · split at hK
          · rename_i φ f args hc
            obtain ⟨h1, h2⟩ := hK
            obtain ⟨h3, h4⟩ := h2
            obtain ⟨xs, hx, hr⟩ := acall_run ht hc h1 h3
            simp only [Oper.wp, hx, Oper.upon]
            refine (h4 ρ w xs hh hr).mono ?_
            rintro e w' ⟨r, H', ρ', x, k1, rfl, k2, k3, k4⟩
            exact next (T' := T) k1 k4 k2 k3
          · exact hK.elim
    · rename_i c hg
      have hw := gcond_ok ht hg
      cases c with
      | true =>
        simp only [wpList, hw, if_true]
        refine .inl ?_
        split at hK
        · rename_i φ r hp
          obtain ⟨x, hx, hr⟩ := apure_ok hh ht hp (hK.1 rfl)
          simp only [Oper.wp, hx, Oper.upon]
          exact next (T' := T) hK.2 (by simp only [Rep]; exact ⟨fun _ => hr, fun h => by cases h⟩) hh (Ext.refl hh)
        · rcases hK with ⟨φ, f, args, hc, h1, r, h2, h5⟩ | ⟨_, ⟨φ, r, H', hp, h1, h5⟩ | ⟨φ, f, args, hc, h1, h2⟩⟩ | ⟨h0, _⟩
          · obtain ⟨h3, h4⟩ := h2 rfl H
            obtain ⟨xs, hx, hr⟩ := acall_run ht hc (h1 rfl) h3
            simp only [Oper.wp, hx, Oper.upon]
            refine (h4 ρ w xs hh hr).mono ?_
            rintro e w' ⟨r', H', ρ', x, ⟨rfl, rfl⟩, rfl, k2, k3, k4⟩
            exact next (T' := T) h5 (by simp only [Rep]; exact ⟨fun _ => k4, fun h => by cases h⟩) k2 k3
          · obtain ⟨n, w', ρ', x, hx, hn, hr, h3, h4⟩ := aeff_ok hh ht hp h1
            rcases hn with rfl | ⟨rfl, rfl⟩
            · simp only [Oper.wp, hx, Oper.upon]
              exact next (T' := T) h5 hr h3 h4
            · simp only [Oper.wp, hx, Oper.upon]
              exact next (T' := T) h5 hr h3 h4
          · obtain ⟨h3, h4⟩ := h2
            obtain ⟨xs, hx, hr⟩ := acall_run ht hc h1 h3
            simp only [Oper.wp, hx, Oper.upon]
            refine (h4 ρ w xs hh hr).mono ?_
            rintro e w' ⟨r, H', ρ', x, k1, rfl, k2, k3, k4⟩
            exact next (T' := T) k1 k4 k2 k3
          · cases h0
      | false =>
        simp only [wpList, hw, Bool.false_eq_true, if_false]
        split at hK
        · exact next (T' := T) hK.2 (by simp only [Rep]; exact ⟨fun h => (by cases h), fun _ => trivial⟩) hh (Ext.refl hh)
        · rcases hK with ⟨φ, f, args, hc, h1, r, _, h5⟩ | ⟨h0, _⟩ | ⟨_, h5⟩
          · exact next (T' := T) h5 (by simp only [Rep]; exact ⟨fun h => (by cases h), fun _ => trivial⟩) hh (Ext.refl hh)
          · cases h0
          · exact next (T' := T) h5 (by simp only [Rep]; exact ⟨fun h => (by cases h), fun _ => trivial⟩) hh (Ext.refl hh)

theorem GLeaf.mono {c : Bool} {d : Option Nat} {C C' : Tm → AH → Prop} {T : Tm} {H : AH} {cal : Option (Prop × FuncId × List AV)} {eff : Option (Prop × AV × AH)} (hk : ∀ T H, C T H → C' T H) (h : GLeaf P c d C T H cal eff) : GLeaf P c d C' T H cal eff := by
  rcases h with ⟨φ, f, args, hc, h1, r, h2, h5⟩ | ⟨h0, ⟨φ, r, H', hp, h1, h5⟩ | ⟨φ, f, args, hc, h1, h2⟩⟩ | ⟨h0, h1⟩
  · exact .inl ⟨φ, f, args, hc, h1, r, h2, hk _ _ h5⟩
  · exact .inr (.inl ⟨h0, .inl ⟨φ, r, H', hp, h1, hk _ _ h5⟩⟩)
  · exact .inr (.inl ⟨h0, .inr ⟨φ, f, args, hc, h1, h2.mono fun r H' hr => hk _ _ hr⟩⟩)
  · exact .inr (.inr ⟨h0, hk _ _ h1⟩)

end Go.Sim
