/- What the row rests on, part 2. Conditions: none. -/
import Derived.Test.YtagfconjgajlgaaM1
set_option linter.unusedSimpArgs false
set_option linter.unusedVariables false
set_option maxRecDepth 100000
namespace Go.Sim
variable {P : Program} {ρ : Nat → Option Nat} {H : AH} {w : World}
def callable (P : Program) (f : FuncId) : Bool :=
  match P.funcs[f]? with
  | some fn => fn.body.isSome && !(fn.name == "runtime.NumGoroutine")
  | none => false
def ACalls (P : Program) (f : FuncId) (args : List AV) (H : AH) (K : AV → AH → Prop) : Prop :=
  callable P f = true ∧ ∀ (ρ : Nat → Option Nat) (w : World) (xs : List Value), Holds ρ H w → RepL ρ H w args xs →
    Calls P f xs.toArray w fun e w' => ∃ r H' ρ' x, K r H' ∧ e = .returned x ∧ Holds ρ' H' w' ∧ Ext ρ H w ρ' H' w' ∧ Rep ρ' H' w' r x
def Quiet (P : Program) (f : FuncId) (args : List AV) (r : AV) : Prop := ∀ H, ACalls P f args H fun r' H' => r' = r ∧ H' = H
theorem ACalls.mono {f : FuncId} {args : List AV} {K K' : AV → AH → Prop} (h : ACalls P f args H K) (hk : ∀ r H', K r H' → K' r H') : ACalls P f args H K' :=
  ⟨h.1, fun ρ w xs hh hr => (h.2 ρ w xs hh hr).mono fun e w' ⟨r, H', ρ', x, h1, h2⟩ => ⟨r, H', ρ', x, hk _ _ h1, h2⟩⟩
theorem imm_freeze {i z fz : Nat} {es : List (List AV)} (hk : H.obj i = some (.cells z es fz)) (hf : fz ≤ es.length) {a : Addr} (h : Imm ρ H a) : Imm ρ (H.set i (.cells z es es.length)) a := by
  intro j z' es' fz' hj hb
  simp only [AH.set] at hj
  split at hj
  · rename_i e
    subst e
    simp only [Option.some.injEq, AObj.cells.injEq] at hj
    obtain ⟨rfl, rfl, rfl⟩ := hj
    exact Nat.lt_of_lt_of_le (h _ _ _ _ hk hb) (Nat.mul_le_mul_right _ hf)
  · exact h _ _ _ _ hj hb
theorem Holds.freeze (hh : Holds ρ H w) {i z fz : Nat} {es : List (List AV)} (hk : H.obj i = some (.cells z es fz)) :
    Holds ρ (H.set i (.cells z es es.length)) w ∧ Ext ρ H w ρ (H.set i (.cells z es es.length)) w := by
  have hf : fz ≤ es.length := by
    rcases hh.obj _ _ hk with ⟨_, _, _, _, _, _, _, _, h, _⟩ | ⟨_, rfl, rfl⟩
    · exact h
    · exact Nat.le_refl _
  have he0 : Ext0 ρ H w ρ (H.set i (.cells z es es.length)) w := ⟨fun _ _ h => h, fun a v h1 h2 => ⟨h1, imm_freeze hk hf h2⟩, fun _ cs _ _ h => ⟨cs, h, rfl⟩, Nat.le_refl _⟩
  have live : ∀ j o, (H.set i (.cells z es es.length)).obj j = some o → ∃ o', H.obj j = some o' := by
    intro j o hj
    simp only [AH.set] at hj
    split at hj
    · rename_i e; subst e; exact ⟨_, hk⟩
    · exact ⟨_, hj⟩
  refine ⟨⟨fun j o hj => ?_, fun j k b oj ok h1 h2 => ?_, fun j o hj => ?_, fun j b h => hh.bound j b h⟩, ⟨fun j b h => (hh.bound j b h).1, fun _ _ h => h, fun _ _ h => .inl h, fun j o h _ => live j o h, Nat.le_refl _, fun a v h1 h2 => ⟨h1, imm_freeze hk hf h2⟩, Nat.le_refl _, fun _ _ _ => rfl, fun _ cs _ _ h => ⟨cs, h, rfl⟩, rfl, rfl, rfl⟩⟩
  · simp only [AH.set] at hj
    split at hj
    · rename_i e
      subst e
      injection hj with hj
      subst hj
      rcases hh.obj _ _ hk with ⟨b, ccs, t, xss, h1, h2, h3, h4, h5, h6, h7⟩ | ⟨h1, h2, h3⟩
      · exact .inl ⟨b, ccs, t, xss, h1, h2, h3, RepLL.ext0 he0 _ _ h4, Nat.le_refl _, h6, h7⟩
      · subst h2; exact .inr ⟨h1, rfl, rfl⟩
    · cases o with
      | cells z' es' fz' =>
        rcases hh.obj _ _ hj with ⟨b, ccs, t, xss, h1, h2, h3, h4, h5, h6, h7⟩ | h
        · exact .inl ⟨b, ccs, t, xss, h1, h2, h3, RepLL.ext0 he0 _ _ h4, h5, h6, h7⟩
        · exact .inr h
      | amap kvs =>
        obtain ⟨b, es', clock, h1, h2, h3, h4, h5⟩ := hh.obj _ _ hj
        exact ⟨b, es', clock, h1, h2, h3, RepL.ext0 he0 _ _ h4, h5⟩
      | amit m n seen =>
        obtain ⟨b, bm, h1, h2, h3⟩ := hh.obj _ _ hj
        exact ⟨b, bm, h1, h2, h3⟩
      | anit =>
        obtain ⟨b, h1, h2⟩ := hh.obj _ _ hj
        exact ⟨b, h1, h2⟩
  · obtain ⟨_, h3⟩ := live _ _ h1
    obtain ⟨_, h4⟩ := live _ _ h2
    exact hh.inj _ _ _ _ _ h3 h4
  · obtain ⟨_, h3⟩ := live _ _ hj
    exact hh.lt _ _ h3
theorem rep_shut (hh : Holds ρ H w) {i z fz e c : Nat} {es : List (List AV)} {x : Value} (hk : H.obj i = some (.cells z es fz)) (he : e < es.length) (hr : Rep ρ H w (.ptr i z e c) x) :
    Rep ρ (H.set i (.cells z es es.length)) w (.iptr ((es.getD e []).drop c)) x := by
  obtain ⟨h1, h2⟩ := hh.freeze hk
  simp only [Rep] at hr ⊢
  obtain ⟨b, hb, rfl⟩ := hr
  obtain ⟨xs, hx, hl, hcell⟩ := h1.elem (i := i) (z := z) (es := es) (fz := es.length) (by simp [AH.set]) hb (List.getElem?_eq_getElem he)
  have hg : es.getD e [] = es[e] := by rw [List.getD_eq_getElem?_getD, List.getElem?_eq_getElem he]; rfl
  rw [hg]
  refine ⟨_, xs.drop c, rfl, hx.drop c, fun j v hv => ?_⟩
  rw [List.getElem?_drop] at hv
  have hlt : c + j < z := by
    have := (List.getElem?_eq_some_iff.1 hv).1
    rw [hx.length, hl] at this
    exact this
  rw [add_flat, Nat.add_assoc]
  refine ⟨(hcell _ _ hv).1, fun k z' es' fz' hk' hb' => ?_⟩
  have : k = i := h1.inj _ _ _ _ (.cells z es es.length) hk' (by simp [AH.set]) hb' hb
  subst this
  simp only [AH.set, if_true, Option.some.injEq, AObj.cells.injEq] at hk'
  obtain ⟨rfl, rfl, rfl⟩ := hk'
  show e * z + (c + j) < es.length * z
  have : (e + 1) * z ≤ es.length * z := Nat.mul_le_mul_right _ he
  rw [Nat.add_mul] at this
  omega
def amapNil (P : Program) (t : TypeId) (x y : AV) : Option (Prop × Bool) :=
  match x, y with
  | .mp _, .lit (.map none) => some ((∃ k e, P.underlying t = some (.map k e)), false)
  | .lit (.map none), .lit (.map none) => some ((∃ k e, P.underlying t = some (.map k e)), true)
  | _, _ => none
theorem equalIn_map {t k e : TypeId} (hu : P.underlying t = some (.map k e)) (d : Nat) (a : Option Nat) : (Op.equalIn (d + 1) t (.map a) (.map none)).run P w = .ok a.isNone w := by
  cases a <;> simp only [Op.equalIn, Sem.run_bind, run_underlying hu, Result.andThen_ok, Sem.run_pure] <;> rfl
theorem equal_map {t k e : TypeId} (hu : P.underlying t = some (.map k e)) (a : Option Nat) : (Op.equal t (.map a) (.map none)).run P w = .ok a.isNone w := equalIn_map hu 9999 a
theorem amapNil_ok {t : TypeId} {vx vy : AV} {x y : Value} {φ : Prop} {b : Bool} {ox oy : Operand} (h : amapNil P t vx vy = some (φ, b)) (hφ : φ) (hx : Rep ρ H w vx x) (hy : Rep ρ H w vy y) :
    (eqGuard .eql t ox oy x y).run P w = .ok () w ∧ (binOp .eql t x y).run P w = .ok (.bool b) w := by
  unfold amapNil at h
  split at h
  · simp only [Option.some.injEq, Prod.mk.injEq] at h
    obtain ⟨rfl, rfl⟩ := h
    obtain ⟨k, e, hu⟩ := hφ
    simp only [Rep] at hx hy
    obtain ⟨b, _, rfl⟩ := hx
    subst hy
    refine ⟨eqGuard_lit ⟨fun _ => by simp, by simp⟩, ?_⟩
    simp only [binOp, equal_map hu, Sem.run_bind, Result.andThen_ok, Sem.run_pure]
    rfl
  · simp only [Option.some.injEq, Prod.mk.injEq] at h
    obtain ⟨rfl, rfl⟩ := h
    obtain ⟨k, e, hu⟩ := hφ
    simp only [Rep] at hx hy
    subst hx hy
    refine ⟨eqGuard_lit ⟨fun _ => by simp, by simp⟩, ?_⟩
    simp only [binOp, equal_map hu, Sem.run_bind, Result.andThen_ok, Sem.run_pure]
    rfl
  · cases h
def bytesU (s : ByteArray) : List (List AV) → Option ByteArray
  | [] => some s
  | [.lit (.int .u8 n)] :: l => bytesU (s.push (UInt8.ofNat n.toNat)) l
  | _ => none
theorem bytesU_ok : ∀ (us : List (List AV)) (xss : List (List Value)) (s b : ByteArray), bytesU s us = some b → RepLL ρ H w us xss →
    ∃ ns : List Int, xss.flatten = ns.map (Value.int .u8) ∧ ns.length = us.length ∧ ns.foldl (fun r n => r.push (UInt8.ofNat n.toNat)) s = b
  | [], xss, s, b, h, hr => by
    simp only [bytesU, Option.some.injEq] at h
    subst h
    simp only [RepLL] at hr
    subst hr
    exact ⟨[], rfl, rfl, rfl⟩
  | u :: us, xss, s, b, h, hr => by
    unfold bytesU at h
    split at h
    · rename_i he; cases he
    · rename_i n l he
      obtain ⟨rfl, rfl⟩ := List.cons.inj he
      simp only [RepLL, RepL, Rep] at hr
      obtain ⟨y, ys, rfl, ⟨z, zs, rfl, rfl, rfl⟩, h2⟩ := hr
      obtain ⟨ns, k1, k2, k3⟩ := bytesU_ok us ys _ b h h2
      exact ⟨n :: ns, by rw [List.flatten_cons, k1]; rfl, by rw [List.length_cons, List.length_cons, k2], k3⟩
    · cases h
theorem bytesU_one : ∀ (us : List (List AV)) (s b : ByteArray), bytesU s us = some b → ∀ e ∈ us, e.length = 1
  | [], _, _, _ => fun _ h => by cases h
  | u :: us, s, b, h => by
    unfold bytesU at h
    split at h
    · rename_i he; cases he
    · rename_i n l he
      obtain ⟨rfl, rfl⟩ := List.cons.inj he
      intro e he
      rcases List.mem_cons.1 he with rfl | he
      · rfl
      · exact bytesU_one us _ b h e he
    · cases h
def abytes (P : Program) (s d : TypeId) (H : AH) (v : AV) : Option (Prop × AV) :=
  match P.underlying s, P.underlying d with
  | some (.slice e), some .string =>
    match P.underlying e with
    | some (.int .u8) =>
      match srcEs H 1 v with
      | some (φ, us) => (bytesU .empty us).map fun b => (φ, .lit (.string b))
      | none => none
    | _ => none
  | _, _ => none
theorem abytes_ok (hh : Holds ρ H w) {s d : TypeId} {v : AV} {x : Value} {φ : Prop} {r : AV} (h : abytes P s d H v = some (φ, r)) (hφ : φ) (hr : Rep ρ H w v x) :
    ∃ y, (convert s d x).run P w = .ok y w ∧ Rep ρ H w r y := by
  unfold abytes at h
  split at h
  · rename_i e hs hd
    split at h
    · rename_i he
      split at h
      · rename_i ψ us hus
        simp only [Option.map_eq_some_iff, Prod.mk.injEq] at h
        obtain ⟨b, hb, rfl, rfl⟩ := h
        obtain ⟨B, c, xss, rfl, h1, h2⟩ := srcEs_ok hh hus hφ hr (bytesU_one us _ b hb)
        obtain ⟨ns, k1, k2, k3⟩ := bytesU_ok us xss _ b hb h1
        refine ⟨.string b, ?_, by simp only [Rep]⟩
        rw [run_convert_bytes_string w s d e B us.length c hs he hd]
        rw [k1] at h2
        cases B with
        | none =>
          rcases h2 with h2 | ⟨a, h2, _⟩
          · obtain rfl : ns = [] := by simpa using h2
            simp only [List.foldl_nil] at k3
            subst k3
            simp only [Conv.bytesToString, Sem.run_pure]
          · cases h2
        | some a =>
          rw [run_bytesToString w a us.length c ns ?_, k3]
          rw [← k2]
          have := run_loadCells_list (P := P) w a (ns.map (Value.int .u8)) (fun j v hv => by
            rcases h2 with h2 | ⟨a', h2, h3⟩
            · rw [h2] at hv; simp at hv
            · injection h2 with h2
              subst h2
              exact h3 j v hv)
          rwa [List.length_map] at this
      · cases h
    · cases h
  · cases h
def aeff (P : Program) (T : Tm) (H : AH) : Op → Option (Prop × AV × AH)
  | .alloc t => (tzero P t).map fun zs => (True, .ptr H.nxt zs.length 0 0, H.add (.cells zs.length [zs.map .lit] 0))
  | .box t x => some (gokL T [x] ∧ (ev T x).core.fit = true, .ptr H.nxt (acells (ev T x).core).length 0 0, H.add (.cells (acells (ev T x).core).length [acells (ev T x).core] 0))
  | .buildSlice t n ps => (abuildSlice P t n H (ps.toList.map fun (i, x) => (i, (ev T x).core))).map fun (φ, r, H') => (gokL T (ps.toList.map (·.2)) ∧ φ, r, H')
  | .store t x v => (astore P t H (ev T x).core (ev T v).core).map fun (φ, r, H') => (gokL T [x, v] ∧ φ, r, H')
  | .call ⟨.builtin .append, args, ts⟩ =>
    match args.toList, ts.toList with
    | [x, y], [t, t'] => (aappend P t H (ev T x).core (ev T y).core).map fun (φ, r, H') => (gokL T [x, y] ∧ t' = t ∧ φ, r, H')
    | _, _ => none
  | .slice t x lo hi mx =>
    match (ev T x).core with
    | .ptr i z e c =>
      match H.obj i with
      | some (.cells z' es _) =>
        (aslice P t (.iptr ((es.getD e []).drop c)) (lo.map fun x => (ev T x).core) (hi.map fun x => (ev T x).core) (mx.map fun x => (ev T x).core)).map fun (φ, r) =>
          (gokL T ([x] ++ lo.toList ++ hi.toList ++ mx.toList) ∧ z' = z ∧ e < es.length ∧ φ, r, H.set i (.cells z' es es.length))
      | _ => none
    | _ => none
  | .makeMap _ none => some (True, .mp H.nxt, H.add (.amap []))
  | .makeSlice t l c => (amakeSlice P t H (ev T l).core (ev T c).core).map fun (φ, r, H') => (gokL T [l, c] ∧ φ, r, H')
  | .insert t m k v => (amapPut P t H (ev T m).core (ev T k).core (ev T v).core).map fun (φ, H') => (gokL T [m, k, v] ∧ φ, .any, H')
  | .mapUpdate t m k v => (amapPut P t H (ev T m).core (ev T k).core (ev T v).core).map fun (φ, H') => (gokL T [m, k, v] ∧ φ, .any, H')
  | .lookup t m k ok => (alookup P t H (ev T m).core (ev T k).core ok).map fun (φ, r) => (gokL T [m, k] ∧ φ, r, H)
  | .call ⟨.builtin .clear, args, ts⟩ =>
    match args.toList, ts.toList with
    | [x], [t] => (aclear P t H (ev T x).core).map fun (φ, r, H') => (gokL T [x] ∧ φ, r, H')
    | _, _ => none
  | .mapEntry t m k => (aentry P t H (ev T m).core (ev T k).core).map fun (φ, r, H') => (gokL T [m, k] ∧ φ, r, H')
  | .entryStore _ m n v => (aestore H (ev T m).core (ev T n).core (ev T v).core).map fun (φ, H') => (gokL T [m, n, v] ∧ φ, .any, H')
  | .range t x => (amrange P t H (ev T x).core).map fun (φ, r, H') => (gokL T [x] ∧ φ, r, H')
  | .entry x => (alast H (ev T x).core).map fun (φ, r) => (gokL T [x] ∧ φ, r, H)
  | .convert s d x => (abytes P s d H (ev T x).core).map fun (φ, r) => (gokL T [x] ∧ φ, r, H)
  | .binOp .eql t x y _ => (amapNil P t (ev T x).core (ev T y).core).map fun (φ, b) => (gokL T [x, y] ∧ φ, .bool b, H)
  | _ => none
theorem aeff_ok {T : Tm} {a : Act} {o : Oper} {φ : Prop} {r : AV} {H' : AH} (hh : Holds ρ H w) (ht : RepT ρ H w T a.tmps) (h : aeff P T H o.op = some (φ, r, H')) (hφ : φ) :
    ∃ n w' ρ' x, (execOp a.eval o).run P w = .ok n w' ∧ (n = .value x ∨ (n = .skip ∧ x = undef)) ∧ Rep ρ' H' w' r x ∧ Holds ρ' H' w' ∧ Ext ρ H w ρ' H' w' := by
  have val : ∀ {s : Sem Value}, Made P ρ H w s r H' → ∃ n w' ρ' x, (do pure (.value (← s)) : Sem Next).run P w = .ok n w' ∧ (n = .value x ∨ (n = .skip ∧ x = undef)) ∧ Rep ρ' H' w' r x ∧ Holds ρ' H' w' ∧ Ext ρ H w ρ' H' w' := by
    rintro s ⟨y, w', ρ', hy, h1, h2, h3⟩
    exact ⟨.value y, w', ρ', y, by simp only [Sem.run_bind, hy, Result.andThen_ok, Sem.run_pure], .inl rfl, h1, h2, h3⟩
  unfold aeff at h
  unfold execOp
  split at h
  · rename_i t heq
    simp only [heq]
    simp only [Option.map_eq_some_iff, Prod.mk.injEq] at h
    obtain ⟨zs, hz, rfl, rfl, rfl⟩ := h
    exact val (made_alloc hh hz)
  · rename_i t x heq
    simp only [heq]
    simp only [Option.some.injEq, Prod.mk.injEq] at h
    obtain ⟨rfl, rfl, rfl⟩ := h
    exact val (made_box hh hφ.2 (rep_evc ht hφ.1.1))
  · rename_i t n ps heq
    simp only [heq]
    simp only [Option.map_eq_some_iff, Prod.mk.injEq] at h
    obtain ⟨⟨ψ, r', H''⟩, h1, rfl, rfl, rfl⟩ := h
    have key : ∀ (j : Nat) u v, (ps.toList.map fun (i, x) => (i, (ev T x).core))[j]? = some u → (ps.map fun (i, x) => (i, a.eval x)).toList[j]? = some v → Rep ρ H w u.2 v.2 := ?_
    · have hmade := made_buildSlice (P := P) (ps := ps.map fun (i, x) => (i, a.eval x)) hh h1 hφ.2 (by simp) key
      exact val hmade
    intro j u v hu hv
    have hg : ∀ (l : List (Nat × Operand)), gokL T (l.map (·.2)) → ∀ y ∈ l, (ev T y.2).grd = true := by
      intro l
      induction l with
      | nil => intro _ y hy; cases hy
      | cons z l ih => intro hl y hy; simp only [List.map_cons, gokL] at hl; cases hy with | head => exact hl.1 | tail _ hy => exact ih hl.2 y hy
    simp only [Array.toList_map, List.getElem?_map, Option.map_eq_some_iff] at hu hv
    obtain ⟨⟨i1, x1⟩, hx1, rfl⟩ := hu
    obtain ⟨⟨i2, x2⟩, hx2, rfl⟩ := hv
    rw [hx1] at hx2
    injection hx2 with hx2
    injection hx2 with _ hx2
    subst hx2
    exact rep_evc ht (hg _ hφ.1 _ (List.mem_of_getElem? hx1))
  · rename_i t x v heq
    simp only [heq]
    simp only [Option.map_eq_some_iff, Prod.mk.injEq] at h
    obtain ⟨⟨ψ, r', H''⟩, h1, rfl, rfl, rfl⟩ := h
    obtain ⟨⟨w', ρ', hs, h2, h3⟩, hr⟩ := made_store hh h1 hφ.2 (rep_evc ht hφ.1.1) (rep_evc ht hφ.1.2.1)
    refine ⟨.skip, w', ρ', undef, by simp only [Sem.run_bind, hs, Result.andThen_ok, Sem.run_pure], .inr ⟨rfl, rfl⟩, ?_, h2, h3⟩
    have hr' : r' = .any := hr
    simp only [hr', Rep]
  · rename_i args ts heq
    split at h
    · rename_i x y t t' hx hts
      simp only [heq]
      simp only [Option.map_eq_some_iff, Prod.mk.injEq] at h
      obtain ⟨⟨ψ, r', H''⟩, h1, rfl, rfl, rfl⟩ := h
      obtain ⟨hg, rfl, hψ⟩ := hφ
      obtain rfl : args = #[x, y] := Array.ext' hx
      obtain rfl : ts = #[t', t'] := Array.ext' hts
      have := made_append (P := P) (ty := o.type) hh h1 hψ (rep_evc ht hg.1) (rep_evc ht hg.2.1)
      obtain ⟨z, w', ρ', hz, h2, h3, h4⟩ := this
      refine ⟨.value z, w', ρ', z, ?_, .inl rfl, h2, h3, h4⟩
      simp [resolve, invoke, builtin, hz]
    · cases h
  · rename_i t x lo hi mx heq
    simp only [heq]
    split at h
    · rename_i i z e c hc
      split at h
      · rename_i z' es fz ho
        simp only [Option.map_eq_some_iff, Prod.mk.injEq] at h
        obtain ⟨⟨ψ, r'⟩, h1, rfl, rfl, rfl⟩ := h
        obtain ⟨hg, rfl, he, hψ⟩ := hφ
        obtain ⟨hh', hext⟩ := hh.freeze ho
        have ht' := ht.ext hext
        have hmem : ∀ y ∈ [x] ++ lo.toList ++ hi.toList ++ mx.toList, (ev T y).grd = true := by
          have : ∀ (l : List Operand), gokL T l → ∀ y ∈ l, (ev T y).grd = true := by
            intro l
            induction l with
            | nil => intro _ y hy; cases hy
            | cons z l ih => intro hl y hy; simp only [gokL] at hl; cases hy with | head => exact hl.1 | tail _ hy => exact ih hl.2 y hy
          exact this _ hg
        have hx := rep_evc ht (hmem x (by simp))
        rw [hc] at hx
        have hx' := rep_shut hh ho he hx
        have := aslice_ok (P := P) (lo := lo.map a.eval) (hi := hi.map a.eval) (mx := mx.map a.eval) hh' h1 hψ hx' (by simp) ?_ (by simp) ?_ (by simp) ?_
        · obtain ⟨y, hy, hr⟩ := this
          exact ⟨.value y, w, ρ, y, by simp only [Sem.run_bind, hy, Result.andThen_ok, Sem.run_pure], .inl rfl, hr, hh', hext⟩
        all_goals
          intro u y hu hy
          simp only [Option.map_eq_some_iff] at hu hy
          obtain ⟨z, hz, rfl⟩ := hu
          obtain ⟨z', hz', rfl⟩ := hy
          rw [hz] at hz'
          injection hz' with hz'
          subst hz'
          exact rep_evc ht' (hmem z (by simp [hz]))
      · cases h
    · cases h
  · rename_i t heq
    simp only [heq]
    simp only [Option.some.injEq, Prod.mk.injEq] at h
    obtain ⟨rfl, rfl, rfl⟩ := h
    exact val (made_map hh t)
  · rename_i t l c heq
    simp only [heq]
    simp only [Option.map_eq_some_iff, Prod.mk.injEq] at h
    obtain ⟨⟨ψ, r', H''⟩, h1, rfl, rfl, rfl⟩ := h
    exact val (made_makeSlice hh h1 hφ.2 (rep_evc ht hφ.1.1) (rep_evc ht hφ.1.2.1))
  · rename_i t m k v heq
    simp only [heq]
    simp only [Option.map_eq_some_iff, Prod.mk.injEq] at h
    obtain ⟨⟨ψ, H''⟩, h1, rfl, rfl, rfl⟩ := h
    obtain ⟨w', ρ', hs, h2, h3⟩ := made_put hh h1 hφ.2 (rep_evc ht hφ.1.1) (rep_evc ht hφ.1.2.1) (rep_evc ht hφ.1.2.2.1)
    exact ⟨.skip, w', ρ', undef, by simp only [Sem.run_bind, hs, Result.andThen_ok, Sem.run_pure], .inr ⟨rfl, rfl⟩, by simp only [Rep], h2, h3⟩
  · rename_i t m k v heq
    simp only [heq]
    simp only [Option.map_eq_some_iff, Prod.mk.injEq] at h
    obtain ⟨⟨ψ, H''⟩, h1, rfl, rfl, rfl⟩ := h
    obtain ⟨w', ρ', hs, h2, h3⟩ := made_put hh h1 hφ.2 (rep_evc ht hφ.1.1) (rep_evc ht hφ.1.2.1) (rep_evc ht hφ.1.2.2.1)
    exact ⟨.skip, w', ρ', undef, by simp only [Sem.run_bind, hs, Result.andThen_ok, Sem.run_pure], .inr ⟨rfl, rfl⟩, by simp only [Rep], h2, h3⟩
  · rename_i t m k ok heq
    simp only [heq]
    simp only [Option.map_eq_some_iff, Prod.mk.injEq] at h
    obtain ⟨⟨ψ, r'⟩, h1, rfl, rfl, rfl⟩ := h
    obtain ⟨y, hy, hr⟩ := alookup_ok hh h1 hφ.2 (rep_evc ht hφ.1.1) (rep_evc ht hφ.1.2.1)
    exact ⟨.value y, w, ρ, y, by simp only [Sem.run_bind, hy, Result.andThen_ok, Sem.run_pure], .inl rfl, hr, hh, Ext.refl hh⟩
  · rename_i args ts heq
    split at h
    · rename_i x t hx hts
      simp only [heq]
      simp only [Option.map_eq_some_iff, Prod.mk.injEq] at h
      obtain ⟨⟨ψ, r', H''⟩, h1, rfl, rfl, rfl⟩ := h
      obtain rfl : args = #[x] := Array.ext' hx
      obtain rfl : ts = #[t] := Array.ext' hts
      obtain ⟨z, w', ρ', hz, h2, h3, h4⟩ := made_clear (P := P) (ty := o.type) hh h1 hφ.2 (rep_evc ht hφ.1.1)
      refine ⟨.value z, w', ρ', z, ?_, .inl rfl, h2, h3, h4⟩
      simp [resolve, invoke, builtin, hz]
    · cases h
  · rename_i t m k heq
    simp only [heq]
    simp only [Option.map_eq_some_iff, Prod.mk.injEq] at h
    obtain ⟨⟨ψ, r', H''⟩, h1, rfl, rfl, rfl⟩ := h
    exact val (made_entry hh h1 hφ.2 (rep_evc ht hφ.1.1) (rep_evc ht hφ.1.2.1))
  · rename_i t m n v heq
    simp only [heq]
    simp only [Option.map_eq_some_iff, Prod.mk.injEq] at h
    obtain ⟨⟨ψ, H''⟩, h1, rfl, rfl, rfl⟩ := h
    obtain ⟨w', ρ', hs, h2, h3⟩ := made_estore (P := P) (t := t) hh h1 hφ.2 (rep_evc ht hφ.1.1) (rep_evc ht hφ.1.2.1) (rep_evc ht hφ.1.2.2.1)
    exact ⟨.skip, w', ρ', undef, by simp only [Sem.run_bind, hs, Result.andThen_ok, Sem.run_pure], .inr ⟨rfl, rfl⟩, by simp only [Rep], h2, h3⟩
  · rename_i t x heq
    simp only [heq]
    simp only [Option.map_eq_some_iff, Prod.mk.injEq] at h
    obtain ⟨⟨ψ, r', H''⟩, h1, rfl, rfl, rfl⟩ := h
    exact val (made_range hh h1 hφ.2 (rep_evc ht hφ.1.1))
  · rename_i x heq
    simp only [heq]
    simp only [Option.map_eq_some_iff, Prod.mk.injEq] at h
    obtain ⟨⟨ψ, r'⟩, h1, rfl, rfl, rfl⟩ := h
    obtain ⟨y, hy, hr⟩ := alast_ok (P := P) hh h1 hφ.2 (rep_evc ht hφ.1.1)
    exact ⟨.value y, w, ρ, y, by simp only [Sem.run_bind, hy, Result.andThen_ok, Sem.run_pure], .inl rfl, hr, hh, Ext.refl hh⟩
  · rename_i t d x heq
    simp only [heq]
    simp only [Option.map_eq_some_iff, Prod.mk.injEq] at h
    obtain ⟨⟨ψ, r'⟩, h1, rfl, rfl, rfl⟩ := h
    obtain ⟨y, hy, hr⟩ := abytes_ok (P := P) hh h1 hφ.2 (rep_evc ht hφ.1.1)
    exact ⟨.value y, w, ρ, y, by simp only [Sem.run_bind, hy, Result.andThen_ok, Sem.run_pure], .inl rfl, hr, hh, Ext.refl hh⟩
  · rename_i t x y yt heq
    simp only [heq]
    simp only [Option.map_eq_some_iff, Prod.mk.injEq] at h
    obtain ⟨⟨ψ, b⟩, h1, rfl, rfl, rfl⟩ := h
    obtain ⟨hg, hb⟩ := amapNil_ok (P := P) (w := w) (ox := x) (oy := y) h1 hφ.2 (rep_evc ht hφ.1.1) (rep_evc ht hφ.1.2.1)
    refine ⟨.value (.bool b), w, ρ, .bool b, by simp only [Sem.run_bind, hg, Result.andThen_ok, hb, Sem.run_pure], .inl rfl, by simp only [Rep], hh, Ext.refl hh⟩
  · cases h
def acallee (T : Tm) : Op → Option (Prop × FuncId × List AV)
  | .call ⟨.value f, args, _⟩ =>
    match (ev T f).core with
    | .clo (.func k) first caps => some (gokL T (f :: args.toList), k, first ++ evL T args ++ caps)
    | _ => none
  | _ => none
def ACallK (P : Program) (f : FuncId) (args : List AV) (d : Option Nat) (C : Tm → AH → Prop) (T : Tm) (H : AH) : Prop :=
  ACalls P f args H fun r H' => C (tput T d r) H'
def GCallK (P : Program) (c : Bool) (f : FuncId) (args : List AV) (d : Option Nat) (C : Tm → AH → Prop) (T : Tm) (H : AH) : Prop :=
  ∃ r, (c = true → Quiet P f args r) ∧ C (tput T d (.gv c r)) H
def GCallA (P : Program) (c : Bool) (f : FuncId) (args : List AV) (d : Option Nat) (C : Tm → AH → Prop) (T : Tm) (H : AH) : Prop :=
  ∃ r, (c = true → ACalls P f args H fun r' H' => r' = r ∧ H' = H) ∧ C (tput T d (.gv c r)) H
def gcond (ops : Array Oper) (T : Tm) (o : Oper) : Option (Option Bool) :=
  match o.guard with
  | none => some none
  | some (j, want) =>
    match (ops[j]?).bind (·.dst) with
    | none => none
    | some d =>
      match tget T d with
      | .lit (.bool b) => some (some (b == want))
      | .gv g (.lit (.bool b)) => some (some (g && (b == want)))
      | _ => none
def GLeaf (P : Program) (c : Bool) (d : Option Nat) (C : Tm → AH → Prop) (T : Tm) (H : AH) (cal : Option (Prop × FuncId × List AV)) (eff : Option (Prop × AV × AH)) : Prop :=
  (∃ φ f args, cal = some (φ, f, args) ∧ (c = true → φ) ∧ GCallA P c f args d C T H) ∨
  (c = true ∧ ((∃ φ r H', eff = some (φ, r, H') ∧ φ ∧ C (tput T d r) H') ∨ (∃ φ f args, cal = some (φ, f, args) ∧ φ ∧ ACallK P f args d C T H))) ∨
  (c = false ∧ C (tput T d (.gv false .any)) H)
def anilq : AV → Option Bool
  | .sl es => some (!es.isEmpty)
  | .rsl _ _ _ n => some (!(n == 0))
  | .esl => some false
  | _ => none
def abr (P : Program) (T : Tm) : Op → Option (Prop × Bool × Bool)
  | .binOp op t x y _ =>
    match isEq op, anilq (ev T x).core, (ev T y).core with
    | some e, some ne, .lit (.slice none 0 0) => some (gokL T [x, y] ∧ (tel P t).isSome = true, e, ne)
    | _, _, _ => none
  | _ => none
def ABr (d : Option Nat) (C : Tm → AH → Prop) (T : Tm) (H : AH) (e ne : Bool) : Prop := ∀ b : Bool, (ne = true → b = false) → C (tput T d (.bool (if e then b else !b))) H
theorem anilq_ok {v : AV} {x : Value} {ne : Bool} (h : anilq v = some ne) (hr : Rep ρ H w v x) : ∃ A n c, x = .slice A n c ∧ (ne = true → A ≠ none) := by
  unfold anilq at h
  split at h <;> simp only [Option.some.injEq, reduceCtorEq] at h <;> subst h
  · rename_i es
    simp only [Rep] at hr
    obtain ⟨A, cap, rfl, _, _, h3⟩ := hr
    refine ⟨A, _, _, rfl, fun hn => ?_⟩
    obtain ⟨a, _, _, rfl, _⟩ := h3 (by intro he; subst he; simp at hn)
    simp
  · simp only [Rep] at hr
    rcases hr with ⟨b, cap, _, _, _, _, rfl, _⟩ | ⟨rfl, _, A, rfl⟩
    · exact ⟨_, _, _, rfl, fun _ => by simp⟩
    · exact ⟨_, _, _, rfl, fun hn => by simp at hn⟩
  · simp only [Rep] at hr
    obtain ⟨A, rfl⟩ := hr
    exact ⟨_, _, _, rfl, fun hn => by cases hn⟩
theorem equalIn_nil {t e : TypeId} (hu : P.underlying t = some (.slice e)) (k : Nat) (A : Option Addr) (n c : Nat) : (Op.equalIn (k + 1) t (.slice A n c) (.slice none 0 0)).run P w = .ok A.isNone w := by
  cases A <;> simp only [Op.equalIn, Sem.run_bind, run_underlying hu, Result.andThen_ok, Sem.run_pure] <;> rfl
theorem equal_nil {t : TypeId} (h : (tel P t).isSome = true) (A : Option Addr) (n c : Nat) : (Op.equal t (.slice A n c) (.slice none 0 0)).run P w = .ok A.isNone w := by
  obtain ⟨e, hu⟩ : ∃ e, P.underlying t = some (.slice e) := by
    unfold tel at h
    split at h
    · rename_i e hu; exact ⟨e, hu⟩
    · cases h
  exact equalIn_nil hu 9999 A n c
theorem abr_ok {T : Tm} {a : Act} {o : Oper} {φ : Prop} {e ne : Bool} (ht : RepT ρ H w T a.tmps) (h : abr P T o.op = some (φ, e, ne)) (hφ : φ) :
    ∃ b : Bool, (ne = true → b = false) ∧ (execOp a.eval o).run P w = .ok (.value (.bool (if e then b else !b))) w := by
  unfold abr at h
  split at h
  · rename_i op t x y yt heq
    split at h
    · rename_i e' ne' he hn hy
      simp only [Option.some.injEq, Prod.mk.injEq] at h
      obtain ⟨rfl, rfl, rfl⟩ := h
      obtain ⟨⟨g1, g2, _⟩, htl⟩ := hφ
      obtain ⟨A, n, c, hx, hA⟩ := anilq_ok hn (rep_evc ht g1)
      have hyv := rep_evc ht g2
      rw [hy] at hyv
      simp only [Rep] at hyv
      refine ⟨A.isNone, fun h => by cases A with | none => exact absurd rfl (hA h) | some _ => rfl, ?_⟩
      unfold execOp
      simp only [heq, hx, hyv]
      have hg : (eqGuard op t x y (.slice A n c) (.slice none 0 0)).run P w = .ok () w := eqGuard_lit ⟨fun _ => by simp, by simp⟩
      cases op <;> simp only [isEq, Option.some.injEq, reduceCtorEq] at he <;> subst he
      · simp only [Sem.run_bind, hg, Result.andThen_ok, binOp, equal_nil htl, Sem.run_pure]; rfl
      · simp only [Sem.run_bind, hg, Result.andThen_ok, binOp, equal_nil htl, Sem.run_pure]; rfl
    · cases h
  · cases h
def anxt (T : Tm) (H : AH) : Op → Option (Prop × List (AV × AH))
  | .next x false => (anext H (ev T x).core).map fun (φ, L) => (gokL T [x] ∧ φ, L)
  | _ => none
theorem anxt_ok {T : Tm} {a : Act} {o : Oper} {φ : Prop} {L : List (AV × AH)} (hh : Holds ρ H w) (ht : RepT ρ H w T a.tmps) (h : anxt T H o.op = some (φ, L)) (hφ : φ) :
    ∃ x ∈ L, ∃ y w', (execOp a.eval o).run P w = .ok (.value y) w' ∧ Rep ρ x.2 w' x.1 y ∧ Holds ρ x.2 w' ∧ Ext ρ H w ρ x.2 w' := by
  unfold anxt at h
  split at h
  · rename_i x heq
    simp only [Option.map_eq_some_iff, Prod.mk.injEq] at h
    obtain ⟨⟨ψ, L'⟩, h1, rfl, rfl⟩ := h
    obtain ⟨o', hm, y, w', hy, h2, h3, h4⟩ := anext_ok (P := P) (ty := o.type) hh h1 hφ.2 (rep_evc ht hφ.1.1)
    refine ⟨o', hm, y, w', ?_, h2, h3, h4⟩
    unfold execOp
    simp only [heq, Sem.run_bind, hy, Result.andThen_ok, Sem.run_pure]
  · cases h
def aops (P : Program) (ops : Array Oper) : List Oper → (Tm → AH → Prop) → Tm → AH → Prop
  | [], K, T, H => K T H
  | o :: rest, K, T, H =>
    match gcond ops T o with
    | none => False
    | some none =>
      match apure P H T o.op with
      | some (φ, r) => φ ∧ aops P ops rest K (tput T o.dst r) H
      | none =>
        match aeff P T H o.op with
        | some (φ, r, H') => φ ∧ aops P ops rest K (tput T o.dst r) H'
        | none =>
          match acallee T o.op with
          | some (φ, f, args) => φ ∧ ACallK P f args o.dst (aops P ops rest K) T H
          | none =>
            match abr P T o.op with
            | some (φ, e, ne) => φ ∧ ABr o.dst (aops P ops rest K) T H e ne
            | none =>
              match anxt T H o.op with
              | some (φ, L) => φ ∧ ∀ x ∈ L, aops P ops rest K (tput T o.dst x.1) x.2
              | none => False
    | some (some c) =>
      match apure P H T o.op with
      | some (φ, r) => (c = true → φ) ∧ aops P ops rest K (tput T o.dst (.gv c r)) H
      | none => GLeaf P c o.dst (aops P ops rest K) T H (acallee T o.op) (aeff P T H o.op)
def Conc (ρ0 : Nat → Option Nat) (H0 : AH) (w0 : World) (N : Nat) (K : Tm → AH → Prop) (a : Act) (w : World) : Prop :=
  ∃ T H ρ, K T H ∧ RepT ρ H w T a.tmps ∧ Holds ρ H w ∧ Ext ρ0 H0 w0 ρ H w ∧ a.defers = [] ∧ a.tmps.size = N
theorem size_put (a : Act) (d : Option Tmp) (v : Value) : (a.put d v).tmps.size = a.tmps.size := by cases d <;> simp [Act.put]
theorem defers_put (a : Act) (d : Option Tmp) (v : Value) : (a.put d v).defers = a.defers := by cases d <;> rfl
theorem gcond_ok {ops : Array Oper} {T : Tm} {a : Act} {o : Oper} (ht : RepT ρ H w T a.tmps) {c : Bool} (h : gcond ops T o = some (some c)) : Region.wanted o (yielded ops a.tmps) = c := by
  unfold gcond at h
  split at h
  · cases h
  · rename_i j want hg
    split at h
    · cases h
    · rename_i d hd
      have hy : ∀ b, a.tmps[d]? = some (.bool b) → yielded ops a.tmps j = some b := by
        intro b hb
        simp [yielded, hd, hb]
      have hcell : ∀ x, a.tmps.getD d undef = x → x ≠ undef → a.tmps[d]? = some x := by
        intro x hx hne
        rw [Array.getD_eq_getD_getElem?] at hx
        cases h : a.tmps[d]? with
        | none => rw [h] at hx; exact absurd hx.symm hne
        | some y => rw [h] at hx; simpa using hx
      have hbu : ∀ b, Value.bool b ≠ undef := fun b => by simp [undef]
      have hr := ht d
      split at h
      · rename_i b hb
        simp only [Option.some.injEq] at h
        subst h
        rw [hb] at hr
        simp only [Rep] at hr
        have := hy b (hcell _ hr (hbu b))
        simp [Region.wanted, hg, this]
      · rename_i g b hb
        simp only [Option.some.injEq] at h
        subst h
        rw [hb] at hr
        simp only [Rep] at hr
        cases g with
        | true =>
          have := hy b (hcell _ (hr.1 rfl) (hbu b))
          simp [Region.wanted, hg, this]
        | false =>
          have hu := hr.2 rfl
          have : yielded ops a.tmps j = none := by
            unfold yielded
            rw [hd]
            rw [Array.getD_eq_getD_getElem?] at hu
            cases h : a.tmps[d]? with
            | none => simp [h]
            | some y => rw [h] at hu; simp only [Option.getD_some] at hu; subst hu; simp [h, undef]
          simp [Region.wanted, hg, this]
      · cases h
theorem gcond_none {ops : Array Oper} {T : Tm} {o : Oper} (h : gcond ops T o = some none) (y : Nat → Option Bool) : Region.wanted o y = true := by
  unfold gcond at h
  split at h
  · rename_i hg; simp [Region.wanted, hg]
  · split at h
    · cases h
    · split at h <;> cases h
theorem acall_run {T : Tm} {a : Act} {o : Oper} {φ : Prop} {f : FuncId} {args : List AV} (ht : RepT ρ H w T a.tmps) (h : acallee T o.op = some (φ, f, args)) (hφ : φ) (hc : callable P f = true) :
    ∃ xs : List Value, (execOp a.eval o).run P w = .ok (.enter f xs.toArray) w ∧ RepL ρ H w args xs := by
  unfold acallee at h
  split at h
  · rename_i fv bs ts heq
    split at h
    · rename_i k first caps hf
      simp only [Option.some.injEq, Prod.mk.injEq] at h
      obtain ⟨rfl, rfl, rfl⟩ := h
      simp only [gokL] at hφ
      have hfv := rep_evc ht hφ.1
      rw [hf] at hfv
      simp only [Rep] at hfv
      obtain ⟨fs, ks, hval, h1, h2⟩ := hfv
      have hargs := rep_evL ht hφ.2
      refine ⟨fs ++ bs.toList.map a.eval ++ ks, ?_, (h1.append hargs).append h2⟩
      unfold callable at hc
      split at hc
      · rename_i fn hfn
        simp only [Bool.and_eq_true, Bool.not_eq_true', beq_eq_false_iff_ne] at hc
        have hb : fn.body.isNone = false := by cases hfb : fn.body with | none => simp [hfb] at hc | some b => rfl
        have hn : (fn.name == "runtime.NumGoroutine") = false := by simpa using hc.2
        unfold execOp
        simp only [heq, resolve, Sem.run_bind, Sem.run_pure, Result.andThen_ok, hval, Deferred.ofValue, invoke, callFunc, run_program, hfn, hn, hb, Bool.false_eq_true, if_false]
        congr 2
        apply Array.ext'
        simp
      · cases hc
    · cases h
  · cases h
theorem aops_ok {ρ0 : Nat → Option Nat} {H0 : AH} {w0 : World} {N : Nat} {ops : Array Oper} {K : Tm → AH → Prop} {Q : Exit → Act → World → Prop} (hQ : ∀ a w, Conc ρ0 H0 w0 N K a w → Q .normal a w) :
    ∀ (l : List Oper), (∀ o ∈ l, ∀ d, o.dst = some d → d < N) → ∀ a w, Conc ρ0 H0 w0 N (aops P ops l K) a w → wpList P ops Q l a w := by
  intro l
  induction l with
  | nil =>
    intro _ a w h
    exact hQ a w h
  | cons o l ih =>
    intro hd a w ⟨T, H, ρ, hK, ht, hh, he, hdf, hN⟩
    have hdo : ∀ d, o.dst = some d → d < a.tmps.size := fun d hd' => by rw [hN]; exact hd o (by simp) d hd'
    have ih' := ih fun o' ho' => hd o' (by simp [ho'])
    have next : ∀ {T' : Tm} {H' : AH} {ρ' : Nat → Option Nat} {w' : World} {x : Value} {r : AV}, aops P ops l K (tput T o.dst r) H' → Rep ρ' H' w' r x → Holds ρ' H' w' → Ext ρ H w ρ' H' w' → wpList P ops Q l (a.put o.dst x) w' := by
      intro T' H' ρ' w' x r h1 h2 h3 h4
      exact ih' _ _ ⟨_, H', ρ', h1, (ht.ext h4).put hdo h2, h3, he.trans h4, by rw [defers_put]; exact hdf, by rw [size_put]; exact hN⟩
    simp only [aops] at hK
    split at hK
    · exact hK.elim
    · rename_i hg
      have hw := gcond_none hg (yielded ops a.tmps)
      simp only [wpList, hw, if_true]
      refine .inl ?_
      split at hK
      · rename_i φ r hp
        obtain ⟨x, hx, hr⟩ := apure_ok hh ht hp hK.1
        simp only [Oper.wp, hx, Oper.upon]
        exact next (T' := T) hK.2 hr hh (Ext.refl hh)
      · split at hK
        · rename_i φ r H' hp
          obtain ⟨n, w', ρ', x, hx, hn, hr, h3, h4⟩ := aeff_ok hh ht hp hK.1
          rcases hn with rfl | ⟨rfl, rfl⟩
          · simp only [Oper.wp, hx, Oper.upon]
            exact next (T' := T) hK.2 hr h3 h4
          · simp only [Oper.wp, hx, Oper.upon]
            exact next (T' := T) hK.2 hr h3 h4
        · split at hK
          · rename_i φ f args hc
            obtain ⟨h1, h2⟩ := hK
            obtain ⟨h3, h4⟩ := h2
            obtain ⟨xs, hx, hr⟩ := acall_run ht hc h1 h3
            simp only [Oper.wp, hx, Oper.upon]
            refine (h4 ρ w xs hh hr).mono ?_
            rintro e w' ⟨r, H', ρ', x, k1, rfl, k2, k3, k4⟩
            exact next (T' := T) k1 k4 k2 k3
          · split at hK
            · rename_i φ e ne hc
              obtain ⟨b, hb, hx⟩ := abr_ok (w := w) ht hc hK.1
              simp only [Oper.wp, hx, Oper.upon]
              exact next (T' := T) (hK.2 b hb) (by simp only [Rep]) hh (Ext.refl hh)
            · split at hK
              · rename_i φ L hc
                obtain ⟨x, hx, y, w', hy, h2, h3, h4⟩ := anxt_ok (P := P) hh ht hc hK.1
                simp only [Oper.wp, hy, Oper.upon]
                exact next (T' := T) (hK.2 x hx) h2 h3 h4
              · exact hK.elim
    · rename_i c hg
      have hw := gcond_ok ht hg
      cases c with
      | true =>
        simp only [wpList, hw, if_true]
        refine .inl ?_
        split at hK
        · rename_i φ r hp
          obtain ⟨x, hx, hr⟩ := apure_ok hh ht hp (hK.1 rfl)
          simp only [Oper.wp, hx, Oper.upon]
          exact next (T' := T) hK.2 (by simp only [Rep]; exact ⟨fun _ => hr, fun h => by cases h⟩) hh (Ext.refl hh)
        · rcases hK with ⟨φ, f, args, hc, h1, r, h2, h5⟩ | ⟨_, ⟨φ, r, H', hp, h1, h5⟩ | ⟨φ, f, args, hc, h1, h2⟩⟩ | ⟨h0, _⟩
          · obtain ⟨h3, h4⟩ := h2 rfl
            obtain ⟨xs, hx, hr⟩ := acall_run ht hc (h1 rfl) h3
            simp only [Oper.wp, hx, Oper.upon]
            refine (h4 ρ w xs hh hr).mono ?_
            rintro e w' ⟨r', H', ρ', x, ⟨rfl, rfl⟩, rfl, k2, k3, k4⟩
            exact next (T' := T) h5 (by simp only [Rep]; exact ⟨fun _ => k4, fun h => by cases h⟩) k2 k3
          · obtain ⟨n, w', ρ', x, hx, hn, hr, h3, h4⟩ := aeff_ok hh ht hp h1
            rcases hn with rfl | ⟨rfl, rfl⟩
            · simp only [Oper.wp, hx, Oper.upon]
              exact next (T' := T) h5 hr h3 h4
            · simp only [Oper.wp, hx, Oper.upon]
              exact next (T' := T) h5 hr h3 h4
          · obtain ⟨h3, h4⟩ := h2
            obtain ⟨xs, hx, hr⟩ := acall_run ht hc h1 h3
            simp only [Oper.wp, hx, Oper.upon]
            refine (h4 ρ w xs hh hr).mono ?_
            rintro e w' ⟨r, H', ρ', x, k1, rfl, k2, k3, k4⟩
            exact next (T' := T) k1 k4 k2 k3
          · cases h0
      | false =>
        simp only [wpList, hw, Bool.false_eq_true, if_false]
        split at hK
        · exact next (T' := T) hK.2 (by simp only [Rep]; exact ⟨fun h => (by cases h), fun _ => trivial⟩) hh (Ext.refl hh)
        · rcases hK with ⟨φ, f, args, hc, h1, r, _, h5⟩ | ⟨h0, _⟩ | ⟨_, h5⟩
          · exact next (T' := T) h5 (by simp only [Rep]; exact ⟨fun h => (by cases h), fun _ => trivial⟩) hh (Ext.refl hh)
          · cases h0
          · exact next (T' := T) h5 (by simp only [Rep]; exact ⟨fun h => (by cases h), fun _ => trivial⟩) hh (Ext.refl hh)
theorem GLeaf.mono {c : Bool} {d : Option Nat} {C C' : Tm → AH → Prop} {T : Tm} {H : AH} {cal : Option (Prop × FuncId × List AV)} {eff : Option (Prop × AV × AH)} (hk : ∀ T H, C T H → C' T H) (h : GLeaf P c d C T H cal eff) : GLeaf P c d C' T H cal eff := by
  rcases h with ⟨φ, f, args, hc, h1, r, h2, h5⟩ | ⟨h0, ⟨φ, r, H', hp, h1, h5⟩ | ⟨φ, f, args, hc, h1, h2⟩⟩ | ⟨h0, h1⟩
  · exact .inl ⟨φ, f, args, hc, h1, r, h2, hk _ _ h5⟩
  · exact .inr (.inl ⟨h0, .inl ⟨φ, r, H', hp, h1, hk _ _ h5⟩⟩)
  · exact .inr (.inl ⟨h0, .inr ⟨φ, f, args, hc, h1, h2.mono fun r H' hr => hk _ _ hr⟩⟩)
  · exact .inr (.inr ⟨h0, hk _ _ h1⟩)
end Go.Sim
namespace Go.Sim
variable {P : Program} {ρ : Nat → Option Nat} {H : AH} {w : World}
def anew (P : Program) (T : Tm) : Op → Option (Prop × (Nat → AV) × AObj)
  | .alloc t => (tzero P t).map fun zs => (True, fun i => .ptr i zs.length 0 0, .cells zs.length [zs.map .lit] 0)
  | .box t x => some (gokL T [x] ∧ (ev T x).core.fit = true, fun i => .ptr i (acells (ev T x).core).length 0 0, .cells (acells (ev T x).core).length [acells (ev T x).core] 0)
  | .buildSlice t n ps =>
    match tzeroE P t with
    | some (zs, _) => (asets (List.replicate n (zs.map .lit)) zs.length (ps.toList.map fun (i, x) => (i, (ev T x).core))).map fun (φ, es) =>
        (gokL T (ps.toList.map (·.2)) ∧ φ ∧ n * zs.length ≤ 16777216, fun i => .rsl i zs.length 0 n, .cells zs.length es 0)
    | none => none
  | _ => none
def aimm (P : Program) (T : Tm) : Op → Option (Prop × AV)
  | .box t x => some (gokL T [x] ∧ (ev T x).core.fit = true, .iptr (acells (ev T x).core))
  | .buildSlice t n ps =>
    match tzeroE P t with
    | some (zs, _) => (asets (List.replicate n (zs.map .lit)) zs.length (ps.toList.map fun (i, x) => (i, (ev T x).core))).map fun (φ, es) =>
        (gokL T (ps.toList.map (·.2)) ∧ φ ∧ n * zs.length ≤ 16777216, .sl es)
    | none => none
  | _ => none
def isIn : List Nat → Option Nat → Bool
  | [], _ => false
  | x :: l, some d => x == d || isIn l (some d)
  | _ :: _, none => false
def aim (P : Program) (im : List Nat) (T : Tm) (o : Oper) : Option (Prop × AV) := if isIn im o.dst then aimm P T o.op else none
theorem gokL_mem {T : Tm} : ∀ {l : List (Nat × Operand)}, gokL T (l.map (·.2)) → ∀ y ∈ l, (ev T y.2).grd = true
  | [], _, y, hy => by cases hy
  | z :: l, hl, y, hy => by
    simp only [List.map_cons, gokL] at hl
    cases hy with
    | head => exact hl.1
    | tail _ hy => exact gokL_mem hl.2 y hy
theorem var_fact {t : TypeId} {vs : List AV} {xs : Array Value} (hr : RepL ρ H w vs xs.toList) {ρ' : Nat → Option Nat} {H' : AH} {i : Nat} (he : Ext0 ρ H w ρ' H' (w.alloc (.cells xs t))) (hi : ρ' i = some w.heap.size) :
    Rep ρ' H' (w.alloc (.cells xs t)) (.ptr i vs.length 0 0) (.pointer (some ⟨w.heap.size, 0, none⟩)) ∧ ObjOk ρ' H' (w.alloc (.cells xs t)) i (.cells vs.length [vs] 0) := by
  refine ⟨?_, ?_⟩
  · simp only [Rep]
    exact ⟨_, hi, by simp⟩
  · exact ObjOk.row (more := []) hi (heap_push_new w _) (by simp) (RepLL.one (RepL.ext0 he _ _ hr)) (by simp) (by simp)
theorem anew_ok {T : Tm} {a : Act} {o : Oper} {φ : Prop} {f : Nat → AV} {ob : AObj} (ht : RepT ρ H w T a.tmps) (h : anew P T o.op = some (φ, f, ob)) (hφ : φ) :
    ∃ obj x, (execOp a.eval o).run P w = .ok (.value x) (w.alloc obj) ∧ ∀ (ρ' : Nat → Option Nat) (H' : AH) (i : Nat), Ext0 ρ H w ρ' H' (w.alloc obj) → ρ' i = some w.heap.size →
      Rep ρ' H' (w.alloc obj) (f i) x ∧ ObjOk ρ' H' (w.alloc obj) i ob := by
  unfold anew at h
  unfold execOp
  split at h
  · rename_i t heq
    simp only [heq]
    simp only [Option.map_eq_some_iff, Prod.mk.injEq] at h
    obtain ⟨zs, hz, rfl, rfl, rfl⟩ := h
    simp only [tzero, Option.map_eq_some_iff, Option.bind_eq_some_iff] at hz
    obtain ⟨z, ⟨i, hi, hz⟩, rfl⟩ := hz
    have hzero : (zeroValue t).run P w = .ok z w := by simp [zeroValue, typeInfo, hi, hz]
    refine ⟨.cells z.cells t, .pointer (some ⟨w.heap.size, 0, none⟩), by simp only [Instr.alloc, Sem.run_bind, hzero, Result.andThen_ok, newVar, run_newRow, Sem.run_pure], fun ρ' H' i he hi => ?_⟩
    have := var_fact (t := t) (vs := z.cells.toList.map .lit) (xs := z.cells) (rep_lits ρ H w _) he hi
    simp only [List.length_map] at this
    exact this
  · rename_i t x heq
    simp only [heq]
    simp only [Option.some.injEq, Prod.mk.injEq] at h
    obtain ⟨rfl, rfl, rfl⟩ := h
    refine ⟨.cells (a.eval x).cells t, .pointer (some ⟨w.heap.size, 0, none⟩), by simp only [Instr.box, newVar, Sem.run_bind, run_newRow, Result.andThen_ok, Sem.run_pure], fun ρ' H' i he hi => ?_⟩
    exact var_fact (acells_ok hφ.2 (rep_evc ht hφ.1.1)) he hi
  · rename_i t n ps heq
    split at h
    · rename_i zs by_ hz
      simp only [heq]
      simp only [Option.map_eq_some_iff, Prod.mk.injEq] at h
      obtain ⟨⟨ψ, es⟩, h1, rfl, rfl, rfl⟩ := h
      obtain ⟨hg, hψ, hn⟩ := hφ
      obtain ⟨e, i, z, hu, hi, hzv, rfl, hsz, hpos, _, hcs, hzero, hsize⟩ := tzeroE_ok hz w
      have key : ∀ (j : Nat) u v, (ps.toList.map fun (i, x) => (i, (ev T x).core))[j]? = some u → (ps.map fun (i, x) => (i, a.eval x)).toList[j]? = some v → Rep ρ H w u.2 v.2 := by
        intro j u v hu hv
        simp only [Array.toList_map, List.getElem?_map, Option.map_eq_some_iff] at hu hv
        obtain ⟨⟨i1, x1⟩, hx1, rfl⟩ := hu
        obtain ⟨⟨i2, x2⟩, hx2, rfl⟩ := hv
        rw [hx1] at hx2
        injection hx2 with hx2
        injection hx2 with _ hx2
        subst hx2
        exact rep_evc ht (gokL_mem hg _ (List.mem_of_getElem? hx1))
      obtain ⟨yss, h2, h3, h4, h5⟩ := asets_ok (ps := (ps.map fun (i, x) => (i, a.eval x)).toList) h1 hψ (rep_replicate n _) (fun e he => by rw [(List.mem_replicate.1 he).2]; simp) (by simp) key
      have h5' : es.length = n := by rw [h5]; simp
      have hz' := zeros_flat z.cells (by simpa using hpos) n
      have hl : z.cells.toList.length = z.cells.size := by simp
      have h6 : ((Array.range (n * z.cells.toList.length)).map (z.cells[· % z.cells.size]!)) = (List.replicate n z.cells.toList).flatten.toArray := by
        apply Array.ext'
        rw [hl, hz']
      have hnot : ¬ (n * z.cells.toList.length > 2 ^ 24) := by omega
      have hmax : n ≤ maxLen := by
        have : n ≤ n * z.cells.toList.length := Nat.le_mul_of_pos_right _ hpos
        simp only [maxLen]; omega
      have hrun : (Instr.buildSlice t n (ps.map fun (i, x) => (i, a.eval x))).run P w = .ok (.slice (some ⟨w.heap.size, 0, none⟩) n n) (w.alloc (.cells yss.flatten.toArray e)) := by
        by_cases h0 : n * z.cells.toList.length = 0
        · have hn0 : n = 0 := by
            rcases Nat.mul_eq_zero.1 h0 with h | h
            · exact h
            · omega
          subst hn0
          have e0 : ((Array.range (0 * z.cells.toList.length)).map ((#[] : Array Value)[· % (#[] : Array Value).size]!)) = (List.replicate 0 z.cells.toList).flatten.toArray := by simp
          simp only [Instr.buildSlice, Sem.run_bind, run_underlying hu, Result.andThen_ok, hsize, if_neg hnot, if_pos h0, Sem.run_pure, e0, h2, run_newRow, Sem.run_ite]
        · simp only [Instr.buildSlice, Sem.run_bind, run_underlying hu, Result.andThen_ok, hsize, if_neg hnot, if_neg h0, hzero, Sem.run_pure, h6, h2, run_newRow, Sem.run_ite]
      refine ⟨.cells yss.flatten.toArray e, .slice (some ⟨w.heap.size, 0, none⟩) n n, by simp only [Sem.run_bind, hrun, Result.andThen_ok, Sem.run_pure], fun ρ' H' k he hk => ⟨?_, ?_⟩⟩
      · simp only [Rep]
        refine .inl ⟨_, n, _, e, (0, 0), hk, by simp, Nat.le_refl _, hmax, heap_push_new w _, ?_⟩
        simp only [List.size_toArray, flat_length (h3.elem_length h4), h3.length, h5', Nat.zero_add]
        exact Nat.le_refl _
      · exact ObjOk.row (more := []) hk (heap_push_new w _) (by simp) (RepLL.ext0 he _ _ h3) h4 (by simp)
    · cases h
  · cases h
theorem alloc_grown (hh : Holds ρ H w) (obj : Obj) : Holds ρ H (w.alloc obj) ∧ Ext ρ H w ρ H (w.alloc obj) :=
  ⟨hh.grown (fun k hk => heap_push_old w obj k hk) (by rw [size_push]; omega) rfl rfl rfl, Ext.grown hh (fun k hk => heap_push_old w obj k hk) (by rw [size_push]; omega) rfl rfl rfl⟩
theorem imm_fresh (hh : Holds ρ H w) (o : Nat) : Imm ρ H ⟨w.heap.size, o, none⟩ := fun i z es fz _ hi => absurd (hh.bound i _ hi).2 (Nat.lt_irrefl _)
theorem aimm_ok {T : Tm} {a : Act} {o : Oper} {φ : Prop} {r : AV} (hh : Holds ρ H w) (ht : RepT ρ H w T a.tmps) (h : aimm P T o.op = some (φ, r)) (hφ : φ) :
    ∃ obj x, (execOp a.eval o).run P w = .ok (.value x) (w.alloc obj) ∧ Rep ρ H (w.alloc obj) r x := by
  unfold aimm at h
  unfold execOp
  split at h
  · rename_i t x heq
    simp only [heq]
    simp only [Option.some.injEq, Prod.mk.injEq] at h
    obtain ⟨rfl, rfl⟩ := h
    refine ⟨.cells (a.eval x).cells t, .pointer (some ⟨w.heap.size, 0, none⟩), by simp only [Instr.box, newVar, Sem.run_bind, run_newRow, Result.andThen_ok, Sem.run_pure], ?_⟩
    obtain ⟨_, hext⟩ := alloc_grown hh (.cells (a.eval x).cells t)
    simp only [Rep]
    refine ⟨_, (a.eval x).cells.toList, rfl, RepL.ext hext _ _ (acells_ok hφ.2 (rep_evc ht hφ.1.1)), fun j v hv => ?_⟩
    rw [add_flat, Nat.zero_add]
    refine ⟨?_, imm_fresh hh j⟩
    simp only [World.cell?, heap_push_new]
    simpa using hv
  · rename_i t n ps heq
    split at h
    · rename_i zs by_ hz
      simp only [heq]
      simp only [Option.map_eq_some_iff, Prod.mk.injEq] at h
      obtain ⟨⟨ψ, es⟩, h1, rfl, rfl⟩ := h
      obtain ⟨hg, hψ, hn⟩ := hφ
      obtain ⟨e, i, z, hu, hi, hzv, rfl, hsz, hpos, _, hcs, hzero, hsize⟩ := tzeroE_ok hz w
      have key : ∀ (j : Nat) u v, (ps.toList.map fun (i, x) => (i, (ev T x).core))[j]? = some u → (ps.map fun (i, x) => (i, a.eval x)).toList[j]? = some v → Rep ρ H w u.2 v.2 := by
        intro j u v hu hv
        simp only [Array.toList_map, List.getElem?_map, Option.map_eq_some_iff] at hu hv
        obtain ⟨⟨i1, x1⟩, hx1, rfl⟩ := hu
        obtain ⟨⟨i2, x2⟩, hx2, rfl⟩ := hv
        rw [hx1] at hx2
        injection hx2 with hx2
        injection hx2 with _ hx2
        subst hx2
        exact rep_evc ht (gokL_mem hg _ (List.mem_of_getElem? hx1))
      obtain ⟨yss, h2, h3, h4, h5⟩ := asets_ok (ps := (ps.map fun (i, x) => (i, a.eval x)).toList) h1 hψ (rep_replicate n _) (fun e he => by rw [(List.mem_replicate.1 he).2]; simp) (by simp) key
      have h5' : es.length = n := by rw [h5]; simp
      have hz' := zeros_flat z.cells (by simpa using hpos) n
      have hl : z.cells.toList.length = z.cells.size := by simp
      have h6 : ((Array.range (n * z.cells.toList.length)).map (z.cells[· % z.cells.size]!)) = (List.replicate n z.cells.toList).flatten.toArray := by
        apply Array.ext'
        rw [hl, hz']
      have hnot : ¬ (n * z.cells.toList.length > 2 ^ 24) := by omega
      have hmax : n ≤ maxLen := by
        have : n ≤ n * z.cells.toList.length := Nat.le_mul_of_pos_right _ hpos
        simp only [maxLen]; omega
      have hrun : (Instr.buildSlice t n (ps.map fun (i, x) => (i, a.eval x))).run P w = .ok (.slice (some ⟨w.heap.size, 0, none⟩) n n) (w.alloc (.cells yss.flatten.toArray e)) := by
        by_cases h0 : n * z.cells.toList.length = 0
        · have hn0 : n = 0 := by
            rcases Nat.mul_eq_zero.1 h0 with h | h
            · exact h
            · omega
          subst hn0
          have e0 : ((Array.range (0 * z.cells.toList.length)).map ((#[] : Array Value)[· % (#[] : Array Value).size]!)) = (List.replicate 0 z.cells.toList).flatten.toArray := by simp
          simp only [Instr.buildSlice, Sem.run_bind, run_underlying hu, Result.andThen_ok, hsize, if_neg hnot, if_pos h0, Sem.run_pure, e0, h2, run_newRow, Sem.run_ite]
        · simp only [Instr.buildSlice, Sem.run_bind, run_underlying hu, Result.andThen_ok, hsize, if_neg hnot, if_neg h0, hzero, Sem.run_pure, h6, h2, run_newRow, Sem.run_ite]
      refine ⟨.cells yss.flatten.toArray e, .slice (some ⟨w.heap.size, 0, none⟩) n n, by simp only [Sem.run_bind, hrun, Result.andThen_ok, Sem.run_pure], ?_⟩
      obtain ⟨_, hext⟩ := alloc_grown hh (.cells yss.flatten.toArray e)
      simp only [Rep, h5']
      refine ⟨_, _, rfl, Nat.le_refl _, hmax, fun _ => ⟨_, z.cells.toList.length, yss, rfl, h4, RepLL.ext hext _ _ h3, fun j xs hj k v hv => ?_⟩⟩
      rw [add_add, add_flat, Nat.zero_add]
      refine ⟨?_, imm_fresh hh _⟩
      have hf := flat_get (h3.elem_length h4) hj hv
      simp only [World.cell?, heap_push_new]
      simpa using hf
    · cases h
  · cases h
theorem Ext0.allocAt (hh : Holds ρ H w) (obj : Obj) (o : AObj) {i : Nat} (hi : ρ i = none) : Ext0 ρ H w (upd ρ i (some w.heap.size)) (H.set i o) (w.alloc obj) where
  agree := fun j b hj => by
    simp only [upd]
    rw [if_neg (by intro e; subst e; rw [hi] at hj; cases hj)]
    exact hj
  imm := fun a v hc hI => by
    have hlt : a.block < w.heap.size := World.block_lt_of_cell? w a hc
    refine ⟨by rw [← hc]; simp only [World.cell?, heap_push_old w obj _ hlt], fun j z es fz ho hρ => ?_⟩
    simp only [AH.set] at ho
    simp only [upd] at hρ
    split at ho
    · rename_i h
      rw [if_pos h] at hρ
      injection hρ with hρ
      omega
    · rename_i h
      rw [if_neg h] at hρ
      exact hI j z es fz ho hρ
  shape := fun b cs t fr hc => ⟨cs, by rw [heap_push_old w obj b (Array.getElem?_eq_some_iff.1 hc).1]; exact hc, rfl⟩
  nxt := Nat.le_refl _
theorem ObjOk.ext0 {ρ' : Nat → Option Nat} {H' : AH} {w' : World} {i : Nat} {o : AObj} (he : Ext0 ρ H w ρ' H' w') (h : ObjOk ρ H w i o)
    (hb : ∀ b, ρ i = some b → w'.heap[b]? = w.heap[b]?) (hn : ρ i = none → ρ' i = none) : ObjOk ρ' H' w' i o := by
  cases o with
  | cells z es fz =>
    rcases h with ⟨b, ccs, t, xss, h1, h2, h3, h4, h5, h6, h7⟩ | ⟨h1, h2, h3⟩
    · exact .inl ⟨b, ccs, t, xss, he.agree _ _ h1, by rw [hb b h1]; exact h2, h3, RepLL.ext0 he _ _ h4, h5, h6, h7⟩
    · exact .inr ⟨hn h1, h2, h3⟩
  | amap kvs =>
    obtain ⟨b, es, clock, h1, h2, h3, h4, h5⟩ := h
    exact ⟨b, es, clock, he.agree _ _ h1, by rw [hb b h1]; exact h2, h3, RepL.ext0 he _ _ h4, h5⟩
  | amit m n seen =>
    obtain ⟨b, bm, h1, h2, h3⟩ := h
    exact ⟨b, bm, he.agree _ _ h1, he.agree _ _ h2, by rw [hb b h1]; exact h3⟩
  | anit =>
    obtain ⟨b, h1, h2⟩ := h
    exact ⟨b, he.agree _ _ h1, by rw [hb b h1]; exact h2⟩
theorem Holds.allocAt (hh : Holds ρ H w) (obj : Obj) (o : AObj) {i : Nat} (hi : ρ i = none) (hlt : i < H.nxt) (hfree : H.obj i = none) (hok : ObjOk (upd ρ i (some w.heap.size)) (H.set i o) (w.alloc obj) i o) :
    Holds (upd ρ i (some w.heap.size)) (H.set i o) (w.alloc obj) where
  obj := fun j o' ho => by
    by_cases hj : j = i
    · subst hj
      simp only [AH.set, if_true] at ho
      injection ho with ho
      subst ho
      exact hok
    · simp only [AH.set] at ho
      rw [if_neg hj] at ho
      refine (hh.obj j o' ho).ext0 (Ext0.allocAt hh obj o hi) (fun b hb => heap_push_old w obj b (hh.bound j b hb).2) fun h => ?_
      simp only [upd]
      rw [if_neg hj]
      exact h
  inj := fun j l b oj ol hj hl hbj hbl => by
    simp only [AH.set] at hj hl
    simp only [upd] at hbj hbl
    by_cases h1 : j = i <;> by_cases h2 : l = i
    · rw [h1, h2]
    · rw [if_pos h1] at hbj
      rw [if_neg h2] at hbl
      injection hbj with hbj
      have := (hh.bound l b hbl).2
      omega
    · rw [if_neg h1] at hbj
      rw [if_pos h2] at hbl
      injection hbl with hbl
      have := (hh.bound j b hbj).2
      omega
    · rw [if_neg h1] at hj hbj
      rw [if_neg h2] at hl hbl
      exact hh.inj j l b oj ol hj hl hbj hbl
  lt := fun j o' ho => by
    simp only [AH.set] at ho ⊢
    split at ho
    · rename_i h; rw [h]; exact hlt
    · exact hh.lt j o' ho
  bound := fun j b hj => by
    rw [size_push]
    simp only [upd] at hj
    simp only [AH.set]
    split at hj
    · rename_i h
      injection hj with hj
      rw [h]
      omega
    · have := hh.bound j b hj; omega
theorem Ext.thenAlloc {ρ0 : Nat → Option Nat} {H0 : AH} {w0 : World} (he : Ext ρ0 H0 w0 ρ H w) (hh : Holds ρ H w) (obj : Obj) (o : AObj) {i : Nat} (hi : ρ i = none) (hlow : H0.nxt ≤ i) : Ext ρ0 H0 w0 (upd ρ i (some w.heap.size)) (H.set i o) (w.alloc obj) where
  old := he.old
  agree := fun j b hj => (Ext0.allocAt hh obj o hi).agree j b (he.agree j b hj)
  new := fun j b hj => by
    simp only [upd] at hj
    split at hj
    · rename_i h
      injection hj with hj
      exact .inr ⟨by omega, .inl (by have := he.size; omega)⟩
    · exact he.new j b hj
  live := fun j o' ho hj => by
    simp only [AH.set] at ho
    split at ho
    · omega
    · exact he.live j o' ho hj
  nxt := he.nxt
  imm := fun a v hc hI => let ⟨h1, h2⟩ := he.imm a v hc hI; (Ext0.allocAt hh obj o hi).imm a v h1 h2
  size := by rw [size_push]; have := he.size; omega
  rest := fun b hb hno => by rw [heap_push_old w obj b (Nat.lt_of_lt_of_le hb he.size)]; exact he.rest b hb hno
  shape := fun b cs t fr hc => by
    obtain ⟨cs', h1, h2⟩ := he.shape b cs t fr hc
    exact ⟨cs', by rw [heap_push_old w obj b (Array.getElem?_eq_some_iff.1 h1).1]; exact h1, h2⟩
  os := he.os
  tape := he.tape
  output := he.output
def mk (c : Option Bool) (r : AV) : AV :=
  match c with
  | none => r
  | some g => .gv g r
def on (c : Option Bool) : Bool := c.getD true
def astoreN (P : Program) (T : Tm) : Op → Option (Prop × Nat × AObj)
  | .store t x v =>
    match (ev T x).core with
    | .ptr i z 0 0 => some (gokL T [x, v] ∧ (ev T v).core.fit = true ∧ (acells (ev T v).core).all AV.one = true ∧ (tload P t).map (·.1) = some z ∧ (acells (ev T v).core).length = z, i, .cells z [acells (ev T v).core] 0)
    | _ => none
  | _ => none
def HeadStep (P : Program) (ops : Array Oper) (H0 : AH) (T : Tm) (nid : Nat) (o : Oper) (r : AV) (ob : Option (Bool × Nat × AObj)) : Prop :=
  match gcond ops T o with
  | none => False
  | some c =>
    match apure P H0 T o.op with
    | some (φ, r') => (on c = true → φ) ∧ r = mk c r' ∧ ob = none
    | none =>
      (on c = true ∧ ∃ φ f o', anew P T o.op = some (φ, f, o') ∧ φ ∧ r = f nid ∧ ob = some (true, nid, o')) ∨
      (c = none ∧ ∃ φ i o', astoreN P T o.op = some (φ, i, o') ∧ φ ∧ r = .any ∧ ob = some (false, i, o')) ∨
      (ob = none ∧ on c = true ∧ ∃ φ, aimm P T o.op = some (φ, r) ∧ φ) ∨
      (ob = none ∧ ((on c = false ∧ ∃ r', r = mk c r') ∨ ∃ φ f args r', acallee T o.op = some (φ, f, args) ∧ (on c = true → φ) ∧ (on c = true → Quiet P f args r') ∧ r = mk c r'))
def addO (H : AH) : Option (Bool × Nat × AObj) → AH
  | some (true, _, o) => H.add o
  | some (false, i, o) => H.set i o
  | none => H
def ahead (P : Program) (im : List Nat) (ops : Array Oper) (H0 : AH) : List Oper → (Tm → AH → Prop) → Tm → AH → Prop
  | [], K, T, H => K T H
  | o :: rest, K, T, H =>
    match gcond ops T o with
    | none => False
    | some none =>
      match apure P H0 T o.op with
      | some (φ, r) => φ ∧ ahead P im ops H0 rest K (tput T o.dst r) H
      | none =>
        match aim P im T o with
        | some (φ, r) => φ ∧ ahead P im ops H0 rest K (tput T o.dst r) H
        | none =>
          match anew P T o.op with
          | some (φ, f, ob) => φ ∧ ahead P im ops H0 rest K (tput T o.dst (f H.nxt)) (H.add ob)
          | none =>
            match astoreN P T o.op with
            | some (φ, i, ob) => φ ∧ ahead P im ops H0 rest K (tput T o.dst .any) (H.set i ob)
            | none =>
              match acallee T o.op with
              | some (φ, f, args) => φ ∧ ∃ r, Quiet P f args r ∧ ahead P im ops H0 rest K (tput T o.dst r) H
              | none => False
    | some (some c) =>
      match apure P H0 T o.op with
      | some (φ, r) => (c = true → φ) ∧ ahead P im ops H0 rest K (tput T o.dst (.gv c r)) H
      | none =>
        match acallee T o.op with
        | some (φ, f, args) => (c = true → φ) ∧ GCallK P c f args o.dst (ahead P im ops H0 rest K) T H
        | none => (c = false ∧ ahead P im ops H0 rest K (tput T o.dst (.gv c .any)) H) ∨
          (c = true ∧ match aim P im T o with
            | some (φ, r) => φ ∧ ahead P im ops H0 rest K (tput T o.dst r) H
            | none =>
              match anew P T o.op with
              | some (φ, f, ob) => φ ∧ ahead P im ops H0 rest K (tput T o.dst (f H.nxt)) (H.add ob)
              | none => False)
def HSteps (P : Program) (ops : Array Oper) (H0 : AH) : List Oper → List (AV × Option (Bool × Nat × AObj)) → Tm → AH → Tm → AH → Prop
  | [], rs, T, H, T', H' => rs = [] ∧ T' = T ∧ H' = H
  | o :: l, rs, T, H, T', H' => ∃ r ob rs', rs = (r, ob) :: rs' ∧ HeadStep P ops H0 T H.nxt o r ob ∧ HSteps P ops H0 l rs' (tput T o.dst r) (addO H ob) T' H'
theorem aim_some {im : List Nat} {T : Tm} {o : Oper} {x : Prop × AV} (h : aim P im T o = some x) : aimm P T o.op = some x := by
  unfold aim at h
  split at h
  · exact h
  · cases h
theorem ahead_steps {im : List Nat} {ops : Array Oper} {H0 : AH} {K : Tm → AH → Prop} : ∀ (l : List Oper) (T : Tm) (H : AH), ahead P im ops H0 l K T H → ∃ rs T' H', HSteps P ops H0 l rs T H T' H' ∧ K T' H'
  | [], T, H, h => ⟨[], T, H, ⟨rfl, rfl, rfl⟩, h⟩
  | o :: l, T, H, h => by
    have go : ∀ r ob, HeadStep P ops H0 T H.nxt o r ob → ahead P im ops H0 l K (tput T o.dst r) (addO H ob) → ∃ rs T' H', HSteps P ops H0 (o :: l) rs T H T' H' ∧ K T' H' := by
      intro r ob h1 h2
      obtain ⟨rs, T', H', h3, h4⟩ := ahead_steps l _ _ h2
      exact ⟨(r, ob) :: rs, T', H', ⟨r, ob, rs, rfl, h1, h3⟩, h4⟩
    simp only [ahead] at h
    split at h
    · exact h.elim
    · rename_i hg
      split at h
      · rename_i φ r hp
        exact go r none (by simp only [HeadStep, hg, hp]; exact ⟨fun _ => h.1, rfl, trivial⟩) h.2
      · rename_i hp
        split at h
        · rename_i φ r hi
          exact go r none (by simp only [HeadStep, hg, hp]; exact .inr (.inr (.inl ⟨trivial, rfl, φ, aim_some hi, h.1⟩))) h.2
        · split at h
          · rename_i φ f ob hn
            exact go (f H.nxt) (some (true, H.nxt, ob)) (by simp only [HeadStep, hg, hp]; exact .inl ⟨rfl, φ, f, ob, hn, h.1, rfl, rfl⟩) h.2
          · rename_i hn
            split at h
            · rename_i φ i ob hst
              exact go .any (some (false, i, ob)) (by simp only [HeadStep, hg, hp]; exact .inr (.inl ⟨trivial, φ, i, ob, hst, h.1, trivial, rfl⟩)) h.2
            · split at h
              · rename_i φ f args hc
                obtain ⟨h1, r, h2, h3⟩ := h
                exact go r none (by simp only [HeadStep, hg, hp]; exact .inr (.inr (.inr ⟨trivial, .inr ⟨φ, f, args, r, hc, fun _ => h1, fun _ => h2, rfl⟩⟩))) h3
              · exact h.elim
    · rename_i c hg
      split at h
      · rename_i φ r hp
        exact go (.gv c r) none (by simp only [HeadStep, hg, hp]; exact ⟨h.1, rfl, trivial⟩) h.2
      · rename_i hp
        split at h
        · rename_i φ f args hc
          obtain ⟨h1, r, h2, h3⟩ := h
          exact go (.gv c r) none (by simp only [HeadStep, hg, hp]; exact .inr (.inr (.inr ⟨trivial, .inr ⟨φ, f, args, r, hc, h1, h2, rfl⟩⟩))) h3
        · rcases h with ⟨h0, h2⟩ | ⟨h0, h2⟩
          · exact go (.gv c .any) none (by simp only [HeadStep, hg, hp]; exact .inr (.inr (.inr ⟨trivial, .inl ⟨h0, .any, rfl⟩⟩))) h2
          · split at h2
            · rename_i φ r hi
              exact go r none (by simp only [HeadStep, hg, hp]; exact .inr (.inr (.inl ⟨trivial, h0, φ, aim_some hi, h2.1⟩))) h2.2
            · split at h2
              · rename_i φ f ob hn
                exact go (f H.nxt) (some (true, H.nxt, ob)) (by simp only [HeadStep, hg, hp]; exact .inl ⟨h0, φ, f, ob, hn, h2.1, rfl, rfl⟩) h2.2
              · exact h2.elim
def TD (T0 : Tm) (dst : Nat → Option Nat) (r : Nat → AV) (p : Nat → Bool) : Nat → Tm
  | 0 => T0
  | n + 1 => if p n then tput (TD T0 dst r p n) (dst n) (r n) else TD T0 dst r p n
theorem TD_agree {T0 : Tm} {dst : Nat → Option Nat} {r : Nat → AV} {p q : Nat → Bool} {t : Nat} : ∀ n, (∀ i, i < n → dst i = some t → p i = q i) → tget (TD T0 dst r p n) t = tget (TD T0 dst r q n) t
  | 0, _ => rfl
  | n + 1, h => by
    have ih := TD_agree (T0 := T0) (r := r) n fun i hi => h i (by omega)
    simp only [TD]
    by_cases hd : dst n = some t
    · have := h n (by omega) hd
      rw [this]
      split
      · simp only [hd, tput, tget, if_true]
      · exact ih
    · have skip : ∀ (b : Bool) (X : Tm), tget (if b then tput X (dst n) (r n) else X) t = tget X t := by
        intro b X
        cases b
        · rfl
        · cases hdn : dst n with
          | none => simp [tput]
          | some d =>
            simp only [if_true, tput, tget]
            rw [if_neg (by intro e; subst e; exact hd hdn)]
      rw [skip, skip]
      exact ih
theorem TD_upto {T0 : Tm} {dst : Nat → Option Nat} {r : Nat → AV} {j : Nat} : ∀ n, j ≤ n → TD T0 dst r (fun i => decide (i < j)) n = TD T0 dst r (fun _ => true) j
  | 0, h => by
    obtain rfl : j = 0 := by omega
    rfl
  | n + 1, h => by
    simp only [TD]
    by_cases hj : j ≤ n
    · rw [if_neg (by simp; omega)]
      exact TD_upto n hj
    · obtain rfl : j = n + 1 := by omega
      rw [if_pos (by simp)]
      simp only [TD, if_true]
      have : ∀ m, m ≤ n → TD T0 dst r (fun i => decide (i < n + 1)) m = TD T0 dst r (fun _ => true) m := by
        intro m
        induction m with
        | zero => intro _; rfl
        | succ m ih => intro hm; simp only [TD, if_true]; rw [if_pos (by simp; omega), ih (by omega)]
      rw [this n (Nat.le_refl _)]
def HD (H0 : AH) (m : Nat) (id : Nat → Nat) (ob : Nat → Option AObj) (p : Nat → Bool) : Nat → AH
  | 0 => { H0 with nxt := H0.nxt + m }
  | n + 1 => match p n, ob n with
    | true, some o => (HD H0 m id ob p n).set (id n) o
    | _, _ => HD H0 m id ob p n
theorem HD_nxt {H0 : AH} {m : Nat} {id : Nat → Nat} {ob : Nat → Option AObj} {p : Nat → Bool} : ∀ n, (HD H0 m id ob p n).nxt = H0.nxt + m
  | 0 => rfl
  | n + 1 => by
    simp only [HD]
    split
    · simp only [AH.set]; exact HD_nxt n
    · exact HD_nxt n
theorem HD_low {H0 : AH} {m : Nat} {id : Nat → Nat} {ob : Nat → Option AObj} {p : Nat → Bool} {i : Nat} : ∀ n, (∀ k, k < n → p k = true → (ob k).isSome = true → id k ≠ i) → (HD H0 m id ob p n).obj i = H0.obj i
  | 0, _ => rfl
  | n + 1, h => by
    have ih := HD_low (H0 := H0) (m := m) n fun k hk => h k (by omega)
    simp only [HD]
    split
    · rename_i o hp ho
      simp only [AH.set]
      rw [if_neg fun e => h n (by omega) hp (by simp [ho]) e.symm]
      exact ih
    · exact ih
theorem HD_put {H0 : AH} {m : Nat} {id : Nat → Nat} {ob : Nat → Option AObj} {p : Nat → Bool} {j : Nat} {o : AObj} (hj : p j = false) (ho : ob j = some o) : ∀ n, (∀ k, j < k → k < n → p k = true → (ob k).isSome = true → id k ≠ id j) → j < n →
    HD H0 m id ob (fun k => p k || decide (k = j)) n = (HD H0 m id ob p n).set (id j) o
  | 0, _, h => by omega
  | n + 1, hid, h => by
    have same : ∀ k, k ≤ j → HD H0 m id ob (fun k => p k || decide (k = j)) k = HD H0 m id ob p k := by
      intro k
      induction k with
      | zero => intro _; rfl
      | succ k ih =>
        intro hk
        have e : (p k || decide (k = j)) = p k := by simp; omega
        simp only [HD, ih (by omega), e]
    by_cases hjn : j = n
    · subst hjn
      simp only [HD, same j (Nat.le_refl _), ho, hj, decide_true, Bool.or_true]
    · have ih := HD_put (H0 := H0) (m := m) hj ho n (fun k h1 h2 => hid k h1 (by omega)) (by omega)
      have e : (p n || decide (n = j)) = p n := by simp [Ne.symm hjn]
      simp only [HD, ih, e]
      split
      · rename_i o' hp ho'
        have hne := hid n (by omega) (by omega) hp (by simp [ho'])
        simp only [AH.set, AH.mk.injEq, and_true]
        funext k
        by_cases h1 : k = id n <;> by_cases h2 : k = id j
        · exact absurd (h1.symm.trans h2) hne
        · simp [h1, hne]
        · simp [h2, Ne.symm hne]
        · simp [h1, h2]
      · rfl
theorem HD_at {H0 : AH} {m : Nat} {id : Nat → Nat} {ob : Nat → Option AObj} {p : Nat → Bool} {j : Nat} {o : AObj} (hj : p j = true) (ho : ob j = some o) : ∀ n, (∀ k, j < k → k < n → p k = true → (ob k).isSome = true → id k ≠ id j) → j < n →
    (HD H0 m id ob p n).obj (id j) = some o
  | 0, _, h => by omega
  | n + 1, hid, h => by
    by_cases hjn : j = n
    · subst hjn
      simp only [HD, hj, ho, AH.set, if_true]
    · have ih := HD_at (H0 := H0) (m := m) hj ho n (fun k h1 h2 => hid k h1 (by omega)) (by omega)
      simp only [HD]
      split
      · rename_i o' hp ho'
        simp only [AH.set]
        rw [if_neg (Ne.symm (hid n (by omega) (by omega) hp (by simp [ho'])))]
        exact ih
      · exact ih
theorem HD_none {H0 : AH} {m : Nat} {id : Nat → Nat} {ob : Nat → Option AObj} {p : Nat → Bool} {j : Nat} (ho : ob j = none) : ∀ n, HD H0 m id ob (fun k => p k || decide (k = j)) n = HD H0 m id ob p n
  | 0 => rfl
  | n + 1 => by
    simp only [HD, HD_none ho n]
    by_cases hjn : n = j
    · subst hjn
      simp [ho]
    · simp [hjn]
end Go.Sim
namespace Go.Sim
variable {P : Program} {ρ : Nat → Option Nat} {H : AH} {w : World}
theorem gokL_congr {T T' : Tm} : ∀ {l : List Operand}, (∀ x ∈ l, ev T x = ev T' x) → (gokL T l ↔ gokL T' l)
  | [], _ => Iff.rfl
  | x :: l, h => by
    simp only [gokL]
    rw [h x (by simp), gokL_congr fun y hy => h y (by simp [hy])]
theorem evL_congr {T T' : Tm} {xs : Array Operand} (h : ∀ x ∈ xs.toList, ev T x = ev T' x) : evL T xs = evL T' xs := by
  unfold evL
  exact List.map_congr_left fun x hx => by rw [h x hx]
theorem parts_congr {T T' : Tm} {ps : Array (Nat × Operand)} (h : ∀ x ∈ ps.toList.map (·.2), ev T x = ev T' x) : (ps.toList.map fun (i, x) => (i, (ev T x).core)) = ps.toList.map fun (i, x) => (i, (ev T' x).core) :=
  List.map_congr_left fun p hp => by
    obtain ⟨i, x⟩ := p
    simp only [h x (List.mem_map.2 ⟨(i, x), hp, rfl⟩)]
theorem apure_congr {T T' : Tm} {op : Op} (h : ∀ x ∈ op.operands.toList, ev T x = ev T' x) : apure P H T op = apure P H T' op := by
  cases op <;> simp only [apure]
  case move x => rw [h x (by simp [Op.operands])]
  case assign x => rw [h x (by simp [Op.operands])]
  case pick c a b => simp only [apick, h c (by simp [Op.operands]), h a (by simp [Op.operands]), h b (by simp [Op.operands])]
  case binOp op t x y ty => simp only [gokL, h x (by simp [Op.operands]), h y (by simp [Op.operands])]
  case unOp op t x => simp only [gokL, h x (by simp [Op.operands])]
  case load t x => simp only [gokL, h x (by simp [Op.operands])]
  case fieldAddr t x f => simp only [gokL, h x (by simp [Op.operands])]
  case field t x f => simp only [gokL, h x (by simp [Op.operands])]
  case indexAddr t x i => simp only [gokL, h x (by simp [Op.operands]), h i (by simp [Op.operands])]
  case index t x i => simp only [gokL, h x (by simp [Op.operands]), h i (by simp [Op.operands])]
  case extract x n => simp only [gokL, h x (by simp [Op.operands])]
  case convert s d x => simp only [gokL, h x (by simp [Op.operands])]
  case nilCheck x => simp only [gokL, h x (by simp [Op.operands])]
  case slice t x lo hi mx =>
    have hx := h x (by simp [Op.operands])
    have hl : lo.map (fun x => (ev T x).core) = lo.map fun x => (ev T' x).core := by
      cases lo with
      | none => rfl
      | some y => simp only [Option.map_some]; rw [h y (by simp [Op.operands])]
    have hh : hi.map (fun x => (ev T x).core) = hi.map fun x => (ev T' x).core := by
      cases hi with
      | none => rfl
      | some y => simp only [Option.map_some]; rw [h y (by simp [Op.operands])]
    have hm : mx.map (fun x => (ev T x).core) = mx.map fun x => (ev T' x).core := by
      cases mx with
      | none => rfl
      | some y => simp only [Option.map_some]; rw [h y (by simp [Op.operands])]
    have hg : gokL T ([x] ++ lo.toList ++ hi.toList ++ mx.toList) ↔ gokL T' ([x] ++ lo.toList ++ hi.toList ++ mx.toList) := gokL_congr fun y hy => h y (by simpa [Op.operands] using hy)
    rw [hx, hl, hh, hm]
    simp only [hg]
  case makeFunc fn f c =>
    have h1 : ∀ x ∈ f.toList, ev T x = ev T' x := fun x hx => h x (by simp [Op.operands] at hx ⊢; exact .inl hx)
    have h2 : ∀ x ∈ c.toList, ev T x = ev T' x := fun x hx => h x (by simp [Op.operands] at hx ⊢; exact .inr hx)
    rw [evL_congr h1, evL_congr h2]
    simp only [gokL_congr h1, gokL_congr h2]
  case build t ps =>
    have h1 : ∀ x ∈ ps.toList.map (·.2), ev T x = ev T' x := fun x hx => h x (by simpa [Op.operands] using hx)
    rw [parts_congr h1]
    simp only [gokL_congr h1]
  case call c =>
    obtain ⟨callee, args, ts⟩ := c
    cases callee with
    | builtin b =>
      have h1 : ∀ x ∈ args.toList, ev T x = ev T' x := fun x hx => h x (by simpa [Op.operands, Call.operands] using hx)
      simp only [evL_congr h1, gokL_congr h1]
    | _ => rfl
theorem anew_congr {T T' : Tm} {op : Op} (h : ∀ x ∈ op.operands.toList, ev T x = ev T' x) : anew P T op = anew P T' op := by
  cases op <;> simp only [anew]
  case box t x => simp only [gokL, h x (by simp [Op.operands])]
  case buildSlice t n ps =>
    have h1 : ∀ x ∈ ps.toList.map (·.2), ev T x = ev T' x := fun x hx => h x (by simpa [Op.operands] using hx)
    rw [parts_congr h1]
    simp only [gokL_congr h1]
theorem aimm_congr {T T' : Tm} {op : Op} (h : ∀ x ∈ op.operands.toList, ev T x = ev T' x) : aimm P T op = aimm P T' op := by
  cases op <;> simp only [aimm]
  case box t x => simp only [gokL, h x (by simp [Op.operands])]
  case buildSlice t n ps =>
    have h1 : ∀ x ∈ ps.toList.map (·.2), ev T x = ev T' x := fun x hx => h x (by simpa [Op.operands] using hx)
    rw [parts_congr h1]
    simp only [gokL_congr h1]
theorem acallee_congr {T T' : Tm} {op : Op} (h : ∀ x ∈ op.operands.toList, ev T x = ev T' x) : acallee T op = acallee T' op := by
  cases op <;> simp only [acallee]
  case call c =>
    obtain ⟨callee, args, ts⟩ := c
    cases callee with
    | value f =>
      have h0 : ev T f = ev T' f := h f (by simp [Op.operands, Call.operands])
      have h1 : ∀ x ∈ args.toList, ev T x = ev T' x := fun x hx => h x (by simp [Op.operands, Call.operands] at hx ⊢; exact .inr hx)
      have hg : gokL T (f :: args.toList) = gokL T' (f :: args.toList) := propext (gokL_congr fun x hx => by rcases List.mem_cons.1 hx with rfl | hx; exact h0; exact h1 x hx)
      simp only [evL_congr h1, hg, h0]
    | _ => rfl
theorem astoreN_congr {T T' : Tm} {op : Op} (h : ∀ x ∈ op.operands.toList, ev T x = ev T' x) : astoreN P T op = astoreN P T' op := by
  cases op <;> try rfl
  rename_i t x v
  have hx := h x (by simp [Op.operands])
  have hv := h v (by simp [Op.operands])
  simp only [astoreN, gokL, hx, hv]
theorem headStep_congr {ops : Array Oper} {H0 : AH} {T T' : Tm} {nid : Nat} {o : Oper} {r : AV} {ob : Option (Bool × Nat × AObj)} (h : ∀ t ∈ o.looksAt ops, tget T t = tget T' t) (hs : HeadStep P ops H0 T nid o r ob) : HeadStep P ops H0 T' nid o r ob := by
  have he : ∀ x ∈ o.op.operands.toList, ev T x = ev T' x := by
    intro x hx
    cases x with
    | tmp t => exact h t (List.mem_append_left _ (List.mem_filterMap.2 ⟨.tmp t, hx, rfl⟩))
    | const v => rfl
    | global g => rfl
    | func f => rfl
  have hg : gcond ops T o = gcond ops T' o := by
    unfold gcond
    cases hgd : o.guard with
    | none => rfl
    | some gw =>
      obtain ⟨j, want⟩ := gw
      simp only []
      cases hd : (ops[j]?).bind (·.dst) with
      | none => rfl
      | some d =>
        have := h d (List.mem_append_right _ (by simp [hgd, hd]))
        simp only [this]
  unfold HeadStep at *
  rw [← hg, ← apure_congr he, ← anew_congr he, ← aimm_congr he, ← acallee_congr he, ← astoreN_congr he]
  exact hs
theorem apure_mono {H' : AH} {T : Tm} {op : Op} {x : Prop × AV} (hs : ∀ i o, H.obj i = some o → H'.obj i = some o) (h : apure P H T op = some x) : apure P H' T op = some x := by
  have hl : ∀ t v y, aload P t H v = some y → aload P t H' v = some y := by
    intro t v y h
    unfold aload at *
    split at h
    · split at h
      · rename_i ho ht
        simp only [hs _ _ ho, ht]
        exact h
      · cases h
    · exact h
    · cases h
  have hn : ∀ t v y, alen P t H v = some y → alen P t H' v = some y := by
    intro t v y h
    unfold alen at *
    split at h
    all_goals first | exact h | skip
    split at h
    · rename_i kvs ho
      simp only [hs _ _ ho]
      exact h
    · cases h
  cases op <;> simp only [apure] at h ⊢ <;> try exact h
  case load t y =>
    simp only [Option.map_eq_some_iff] at h ⊢
    obtain ⟨z, h1, h2⟩ := h
    exact ⟨z, hl _ _ _ h1, h2⟩
  case call c =>
    obtain ⟨callee, args, ts⟩ := c
    cases callee with
    | builtin b =>
      simp only [Option.map_eq_some_iff] at h ⊢
      obtain ⟨z, h1, h2⟩ := h
      refine ⟨z, ?_, h2⟩
      unfold abuiltin at *
      split at h1
      · simp only [Option.bind_eq_some_iff, Option.map_eq_some_iff] at h1 ⊢
        obtain ⟨t, ht, y, hy, he⟩ := h1
        exact ⟨t, ht, y, hn _ _ _ hy, he⟩
      · exact h1
      · exact h1
      · cases h1
    | _ => exact h
theorem TD_shift {T : Tm} {dst : Nat → Option Nat} {r : Nat → AV} : ∀ k, TD (tput T (dst 0) (r 0)) (fun i => dst (i + 1)) (fun i => r (i + 1)) (fun _ => true) k = TD T dst r (fun _ => true) (k + 1)
  | 0 => by simp [TD]
  | k + 1 => by
    have ih := TD_shift (T := T) (dst := dst) (r := r) k
    simp only [TD, if_true] at ih ⊢
    rw [ih]
def Hat (H : AH) (ob : Nat → Option (Bool × Nat × AObj)) : Nat → AH
  | 0 => H
  | k + 1 => addO (Hat H ob k) (ob k)
theorem Hat_shift {H : AH} {ob : Nat → Option (Bool × Nat × AObj)} : ∀ k, Hat (addO H (ob 0)) (fun i => ob (i + 1)) k = Hat H ob (k + 1)
  | 0 => rfl
  | k + 1 => by simp only [Hat]; rw [Hat_shift k]; rfl
def isN : Option (Bool × Nat × AObj) → Bool
  | some (b, _) => b
  | none => false
def cnt (ob : Nat → Option (Bool × Nat × AObj)) : Nat → Nat
  | 0 => 0
  | k + 1 => cnt ob k + if isN (ob k) then 1 else 0
theorem Hat_nxt {H : AH} {ob : Nat → Option (Bool × Nat × AObj)} : ∀ k, (Hat H ob k).nxt = H.nxt + cnt ob k
  | 0 => rfl
  | k + 1 => by
    simp only [Hat, cnt]
    cases h : ob k with
    | none => simp [addO, isN, Hat_nxt k]
    | some o =>
      obtain ⟨b, i, o⟩ := o
      cases b
      · simp [addO, isN, AH.set, Hat_nxt k]
      · simp [addO, isN, AH.add, Hat_nxt k, Nat.add_assoc]
theorem cnt_mono {ob : Nat → Option (Bool × Nat × AObj)} {i : Nat} : ∀ j, i ≤ j → cnt ob i ≤ cnt ob j
  | 0, h => by
    obtain rfl : i = 0 := by omega
    exact Nat.le_refl _
  | j + 1, h => by
    by_cases e : i = j + 1
    · rw [e]; exact Nat.le_refl _
    · have := cnt_mono (ob := ob) (i := i) j (by omega)
      simp only [cnt]
      omega
theorem cnt_lt {ob : Nat → Option (Bool × Nat × AObj)} {i j : Nat} (h : i < j) (ho : isN (ob i) = true) : cnt ob i < cnt ob j := by
  have h1 := cnt_mono (ob := ob) (i := i + 1) j h
  simp only [cnt, ho, if_true] at h1
  omega
def idO (ob : Nat → Option (Bool × Nat × AObj)) (k : Nat) : Nat := ((ob k).map (·.2.1)).getD 0
def obO (ob : Nat → Option (Bool × Nat × AObj)) (k : Nat) : Option AObj := (ob k).map (·.2.2)
theorem HD_true {H0 : AH} {m : Nat} {ob : Nat → Option (Bool × Nat × AObj)} : ∀ k, (∀ j i o, j < k → ob j = some (true, i, o) → i = H0.nxt + cnt ob j) → (HD H0 m (idO ob) (obO ob) (fun _ => true) k).obj = (Hat H0 ob k).obj
  | 0, _ => rfl
  | k + 1, hn => by
    have ih := HD_true (H0 := H0) (m := m) (ob := ob) k fun j i o hj => hn j i o (by omega)
    simp only [HD, Hat]
    cases h : ob k with
    | none => simp [addO, obO, h, ih]
    | some o =>
      obtain ⟨b, i, o⟩ := o
      cases b
      · simp only [addO, obO, idO, h, Option.map_some, Option.getD_some, AH.set]
        funext q
        rw [ih]
      · have := hn k i o (by omega) h
        simp only [addO, obO, idO, h, Option.map_some, Option.getD_some, AH.set, AH.add, Hat_nxt]
        funext q
        rw [ih, this]
def dL (l : List Oper) (k : Nat) : Option Nat := (l[k]?).bind (·.dst)
def rL (rs : List (AV × Option (Bool × Nat × AObj))) (k : Nat) : AV := ((rs[k]?).map (·.1)).getD .any
def oL (rs : List (AV × Option (Bool × Nat × AObj))) (k : Nat) : Option (Bool × Nat × AObj) := (rs[k]?).bind (·.2)
theorem steps_at {ops : Array Oper} {H0 : AH} : ∀ {l : List Oper} {rs : List (AV × Option (Bool × Nat × AObj))} {T : Tm} {H : AH} {T' : Tm} {H' : AH}, HSteps P ops H0 l rs T H T' H' →
    (∀ k o, l[k]? = some o → HeadStep P ops H0 (TD T (dL l) (rL rs) (fun _ => true) k) (H.nxt + cnt (oL rs) k) o (rL rs k) (oL rs k)) ∧ T' = TD T (dL l) (rL rs) (fun _ => true) l.length ∧ H' = Hat H (oL rs) l.length
  | [], rs, T, H, T', H', h => by
    obtain ⟨rfl, rfl, rfl⟩ := h
    exact ⟨fun k o h => by simp at h, rfl, rfl⟩
  | o :: l, rs, T, H, T', H', h => by
    obtain ⟨r, ob, rs', rfl, h1, h2⟩ := h
    obtain ⟨h3, h4, h5⟩ := steps_at h2
    have e1 : (fun i => dL (o :: l) (i + 1)) = dL l := rfl
    have e2 : (fun i => rL ((r, ob) :: rs') (i + 1)) = rL rs' := rfl
    have e3 : (fun i => oL ((r, ob) :: rs') (i + 1)) = oL rs' := rfl
    have d0 : dL (o :: l) 0 = o.dst := rfl
    have r0 : rL ((r, ob) :: rs') 0 = r := rfl
    have o0 : oL ((r, ob) :: rs') 0 = ob := rfl
    have sT := fun k => TD_shift (T := T) (dst := dL (o :: l)) (r := rL ((r, ob) :: rs')) k
    have sH := fun k => Hat_shift (H := H) (ob := oL ((r, ob) :: rs')) k
    simp only [e1, e2, d0, r0] at sT
    simp only [e3, o0] at sH
    refine ⟨fun k o' hk => ?_, ?_, ?_⟩
    · cases k with
      | zero =>
        simp only [List.getElem?_cons_zero, Option.some.injEq] at hk
        subst hk
        exact h1
      | succ k =>
        have := h3 k o' (by simpa using hk)
        rw [sT k] at this
        have hn : (addO H ob).nxt + cnt (oL rs') k = H.nxt + cnt (oL ((r, ob) :: rs')) (k + 1) := by
          have h6 := Hat_nxt (H := addO H ob) (ob := oL rs') k
          rw [sH k, Hat_nxt] at h6
          exact h6.symm
        rw [hn] at this
        exact this
    · rw [h4, sT]; rfl
    · rw [h5, sH]; rfl
theorem TD_congr {T : Tm} {dst : Nat → Option Nat} {r : Nat → AV} {p q : Nat → Bool} : ∀ n, (∀ k, k < n → p k = q k) → TD T dst r p n = TD T dst r q n
  | 0, _ => rfl
  | n + 1, h => by simp only [TD, h n (by omega), TD_congr n fun k hk => h k (by omega)]
theorem HD_congr {H0 : AH} {m : Nat} {id : Nat → Nat} {ob : Nat → Option AObj} {p q : Nat → Bool} : ∀ n, (∀ k, k < n → p k = q k) → HD H0 m id ob p n = HD H0 m id ob q n
  | 0, _ => rfl
  | n + 1, h => by simp only [HD, h n (by omega), HD_congr (H0 := H0) (m := m) n fun k hk => h k (by omega)]
theorem TD_put {T : Tm} {dst : Nat → Option Nat} {r : Nat → AV} {p : Nat → Bool} {i t : Nat} : ∀ n, i < n → p i = false → (∀ k, i < k → k < n → dst i = some t → dst k = some t → p k = false) →
    tget (TD T dst r (fun k => p k || decide (k = i)) n) t = if dst i = some t then r i else tget (TD T dst r p n) t
  | 0, h, _, _ => by omega
  | n + 1, h, hi, hk => by
    have skip : ∀ (b : Bool) (X : Tm), dst n ≠ some t → tget (if b then tput X (dst n) (r n) else X) t = tget X t := by
      intro b X hd
      cases b
      · rfl
      · cases hdn : dst n with
        | none => simp [tput]
        | some d =>
          simp only [if_true, tput, tget]
          rw [if_neg (by intro e; subst e; exact hd hdn)]
    by_cases hin : i = n
    · subst hin
      have same : TD T dst r (fun k => p k || decide (k = i)) i = TD T dst r p i := TD_congr i fun k hk => by simp; omega
      simp only [TD, same, hi, decide_true, Bool.or_true, if_true, Bool.false_eq_true, if_false]
      by_cases hd : dst i = some t
      · rw [if_pos hd, hd]
        simp [tput, tget]
      · rw [if_neg hd]
        have := skip true (TD T dst r p i) hd
        simpa using this
    · have ih := TD_put (T := T) (r := r) (p := p) (t := t) n (by omega) hi fun k h1 h2 => hk k h1 (by omega)
      have e : (p n || decide (n = i)) = p n := by simp [Ne.symm hin]
      simp only [TD, e]
      by_cases hd : dst n = some t
      · by_cases hdi : dst i = some t
        · have hpn := hk n (by omega) (by omega) hdi hd
          rw [hpn]
          simp only [Bool.false_eq_true, if_false]
          exact ih
        · rw [if_neg hdi]
          cases hp : p n with
          | true => simp [hd, tput, tget]
          | false =>
            rw [if_neg hdi] at ih
            simpa using ih
      · rw [skip _ _ hd, skip _ _ hd]
        exact ih
def isAl : Op → Bool
  | .alloc _ => true
  | .box _ _ => true
  | _ => false
theorem TD_only {T : Tm} {dst : Nat → Option Nat} {r : Nat → AV} {j d : Nat} (hj : dst j = some d) : ∀ k, j < k → (∀ i, i < k → dst i = some d → i = j) → tget (TD T dst r (fun _ => true) k) d = r j
  | 0, h, _ => by omega
  | k + 1, h, hu => by
    simp only [TD, if_true]
    by_cases e : j = k
    · subst e
      simp [hj, tput, tget]
    · have ih := TD_only (T := T) (r := r) hj k (by omega) fun i hi hd => hu i (by omega) hd
      cases hdk : dst k with
      | none => simpa [tput] using ih
      | some d' =>
        simp only [tput, tget]
        rw [if_neg (by intro e2; subst e2; exact e (hu k (by omega) hdk).symm)]
        exact ih
theorem anew_al {T : Tm} {op : Op} {φ : Prop} {f : Nat → AV} {o : AObj} (h : anew P T op = some (φ, f, o)) (ha : isAl op = true) : ∃ z c, o = .cells z [c] 0 ∧ c.length = z ∧ f = fun i => .ptr i z 0 0 := by
  cases op <;> simp only [isAl, Bool.false_eq_true] at ha
  · rename_i t
    simp only [anew, Option.map_eq_some_iff, Prod.mk.injEq] at h
    obtain ⟨zs, _, _, rfl, rfl⟩ := h
    exact ⟨_, _, rfl, by simp, rfl⟩
  · rename_i t x
    simp only [anew, Option.some.injEq, Prod.mk.injEq] at h
    obtain ⟨_, rfl, rfl⟩ := h
    exact ⟨_, _, rfl, rfl, rfl⟩
theorem apure_al {T : Tm} {op : Op} (ha : isAl op = true) : apure P H T op = none := by
  cases op <;> simp only [isAl, Bool.false_eq_true] at ha <;> rfl
def waits (ops : Array Oper) (j i : Nat) : Bool :=
  match ops[j]? with
  | some o => o.after.any fun e => Region.binds .any e && e.on == i
  | none => false
def writesTo (ops : Array Oper) (d i : Nat) : Bool := match ops[i]? with | some o => o.dst == some d | none => false
def storesTo (ops : Array Oper) (d i : Nat) : Bool := match ops[i]? with | some o => (match o.op with | .store _ (.tmp e) _ => e == d | _ => false) | none => false
def makes (ops : Array Oper) (j : Nat) : Bool := match ops[j]? with | some o => o.guard.isNone && isAl o.op | none => false
def stOk (ops : Array Oper) (n : Nat) : Bool :=
  (List.range n).all fun k => match ops[k]? with
    | some o => (match o.op with
      | .store _ (.tmp d) _ => (List.range k).any (fun j => writesTo ops d j && makes ops j && (List.range n).all fun i => !writesTo ops d i || i == j) && (List.range n).all fun k' => !storesTo ops d k' || k' == k
      | .store _ _ _ => false
      | _ => true)
    | none => true
def reachL (ops : Array Oper) (j : Nat) : List Nat := (List.range j).reverse.foldl (fun S k => if S.any (fun m => waits ops m k) then k :: S else S) [j]
def reaches (ops : Array Oper) (j i : Nat) : Bool := decide (i ≠ j) && (reachL ops j).contains i
def headOk (ops : Array Oper) (n : Nat) : Bool :=
  stOk ops n && decide (n ≤ ops.size) && (List.range ops.size).all fun j =>
    (match ops[j]? with
      | some o => (o.after.toList.all fun e => !Region.binds .any e || decide (e.on < j)) &&
        (List.range j).all fun i => (match ops[i]? with | some o' => (decide (j < n) && o'.apart ops o) || waits ops j i || decide (n ≤ i) || (decide (n ≤ j) && reaches ops j i) | none => true)
      | none => true)
theorem waits_spec {ops : Array Oper} {j i : Nat} (h : waits ops j i = true) : ∃ o, ops[j]? = some o ∧ ∃ e ∈ o.after, Region.binds .any e = true ∧ e.on = i := by
  unfold waits at h
  split at h
  · rename_i o ho
    obtain ⟨k, hk, hke⟩ := Array.any_eq_true.1 h
    simp only [Bool.and_eq_true, beq_iff_eq] at hke
    exact ⟨o, ho, o.after[k], Array.getElem_mem hk, hke.1, hke.2⟩
  · cases h
theorem reach_listed {ops : Array Oper} {listed : Nat → Bool} {j i : Nat} {o : Oper} (ho : ops[j]? = some o) (hj : ∀ e ∈ o.after, Region.binds .any e = true → listed e.on = true)
    (hc : ∀ (k : Nat) o, ops[k]? = some o → listed k = true → ∀ e ∈ o.after, Region.binds .any e = true → listed e.on = true) (h : waits ops j i = true ∨ reaches ops j i = true) : listed i = true := by
  have one : ∀ m k, m = j ∨ listed m = true → waits ops m k = true → listed k = true := by
    intro m k hm hw
    obtain ⟨o', ho', e, he, hb, heq⟩ := waits_spec hw
    rw [← heq]
    rcases hm with rfl | hm
    · rw [ho] at ho'
      injection ho' with ho'
      subst ho'
      exact hj e he hb
    · exact hc m o' ho' hm e he hb
  rcases h with h | h
  · exact one j i (.inl rfl) h
  · unfold reaches at h
    rw [Bool.and_eq_true, decide_eq_true_eq] at h
    have all : ∀ (l : List Nat) (S : List Nat), (∀ m ∈ S, m = j ∨ listed m = true) → ∀ m ∈ l.foldl (fun S k => if S.any (fun m => waits ops m k) then k :: S else S) S, m = j ∨ listed m = true := by
      intro l
      induction l with
      | nil => intro S hS; exact hS
      | cons k l ih =>
        intro S hS
        rw [List.foldl_cons]
        refine ih _ fun m hm => ?_
        split at hm
        · rename_i hany
          rcases List.mem_cons.1 hm with rfl | hm
          · obtain ⟨q, hq, hw⟩ := List.any_eq_true.1 hany
            exact .inr (one q m (hS q hq) hw)
          · exact hS m hm
        · exact hS m hm
    rcases all _ [j] (fun m hm => .inl (by simpa using hm)) i (List.contains_iff_mem.1 h.2) with h3 | h3
    · exact absurd h3 h.1
    · exact h3
structure HeadOk (ops : Array Oper) (n : Nat) : Prop where
  le : n ≤ ops.size
  back : ∀ (j : Nat) o, ops[j]? = some o → ∀ e ∈ o.after, Region.binds .any e = true → e.on < j
  tail : ∀ i j : Nat, i < n → n ≤ j → j < ops.size → waits ops j i = true ∨ reaches ops j i = true
  head : ∀ (i j : Nat) o o', i < j → j < n → ops[i]? = some o' → ops[j]? = some o → o'.apart ops o = true ∨ waits ops j i = true
  st : ∀ (k : Nat) o t x v, k < n → ops[k]? = some o → o.op = .store t x v → ∃ d j oj, x = .tmp d ∧ j < k ∧ ops[j]? = some oj ∧ oj.dst = some d ∧ oj.guard = none ∧ isAl oj.op = true ∧
    (∀ (i : Nat) oi, i < n → ops[i]? = some oi → oi.dst = some d → i = j) ∧ ∀ (k' : Nat) o' t' v', k' < n → ops[k']? = some o' → o'.op = .store t' (.tmp d) v' → k' = k
theorem stOk_spec {ops : Array Oper} {n : Nat} (h : stOk ops n = true) : ∀ (k : Nat) o t x v, k < n → ops[k]? = some o → o.op = .store t x v → ∃ d j oj, x = .tmp d ∧ j < k ∧ ops[j]? = some oj ∧ oj.dst = some d ∧ oj.guard = none ∧ isAl oj.op = true ∧
    (∀ (i : Nat) oi, i < n → ops[i]? = some oi → oi.dst = some d → i = j) ∧ ∀ (k' : Nat) o' t' v', k' < n → ops[k']? = some o' → o'.op = .store t' (.tmp d) v' → k' = k := by
  intro k o t x v hk ho hop
  have h1 := List.all_eq_true.1 h k (List.mem_range.2 hk)
  simp only [ho, hop] at h1
  cases x with
  | tmp d =>
    simp only [Bool.and_eq_true] at h1
    obtain ⟨h2, h3⟩ := h1
    obtain ⟨j, hj, h4⟩ := List.any_eq_true.1 h2
    simp only [Bool.and_eq_true] at h4
    obtain ⟨⟨h5, h6⟩, h7⟩ := h4
    unfold writesTo at h5
    unfold makes at h6
    cases hoj : ops[j]? with
    | none => rw [hoj] at h5; cases h5
    | some oj =>
      simp only [hoj, beq_iff_eq, Bool.and_eq_true, Option.isNone_iff_eq_none] at h5 h6
      refine ⟨d, j, oj, rfl, List.mem_range.1 hj, hoj, h5, h6.1, h6.2, fun i oi hi hoi hdi => ?_, fun k' o' t' v' hk' ho' hop' => ?_⟩
      · have h8 := List.all_eq_true.1 h7 i (List.mem_range.2 hi)
        simpa [writesTo, hoi, hdi] using h8
      · have h8 := List.all_eq_true.1 h3 k' (List.mem_range.2 hk')
        simpa [storesTo, ho', hop'] using h8
  | const c => simp at h1
  | global g => simp at h1
  | func f => simp at h1
theorem headOk_spec {ops : Array Oper} {n : Nat} (h : headOk ops n = true) : HeadOk ops n := by
  simp only [headOk, Bool.and_eq_true, decide_eq_true_eq, List.all_eq_true, List.mem_range] at h
  obtain ⟨⟨hst, h1⟩, h2⟩ := h
  have get : ∀ (j : Nat) o, ops[j]? = some o → j < ops.size := fun j o h => (Array.getElem?_eq_some_iff.1 h).1
  refine ⟨h1, fun j o ho e he hb => ?_, fun i j hi hj hjs => ?_, fun i j o o' hij hjn hi hj => ?_, stOk_spec hst⟩
  · have := h2 j (get j o ho)
    simp only [ho, Bool.and_eq_true, List.all_eq_true] at this
    have h3 := this.1 e (by simpa using he)
    simpa [hb] using h3
  · have ho : ops[j]? = some ops[j] := Array.getElem?_eq_getElem hjs
    have := h2 j hjs
    simp only [ho, Bool.and_eq_true, List.all_eq_true] at this
    have h3 := this.2 i (List.mem_range.2 (by omega))
    have hoi : ops[i]? = some (ops[i]'(by omega)) := Array.getElem?_eq_getElem (by omega)
    simp only [hoi] at h3
    rw [show decide (j < n) = false by simp; omega, show decide (n ≤ i) = false by simp; omega, show decide (n ≤ j) = true by simp; omega] at h3
    simpa using h3
  · have := h2 j (get j o hj)
    simp only [hj, Bool.and_eq_true, List.all_eq_true] at this
    have h3 := this.2 i (List.mem_range.2 hij)
    simp only [hi] at h3
    rw [show decide (j < n) = true by simp; omega, show decide (n ≤ i) = false by simp; omega, show decide (n ≤ j) = false by simp; omega] at h3
    simpa using h3
def count (p : Nat → Bool) : Nat → Nat
  | 0 => 0
  | n + 1 => count p n + (p n).toNat
theorem count_le (p : Nat → Bool) : ∀ n, count p n ≤ n
  | 0 => Nat.le_refl _
  | n + 1 => by have := count_le p n; have := Bool.toNat_le (p n); simp only [count]; omega
theorem count_all {p : Nat → Bool} : ∀ {n}, count p n = n → ∀ k, k < n → p k = true
  | 0, _, k, hk => by omega
  | n + 1, h, k, hk => by
    simp only [count] at h
    have := count_le p n
    cases hp : p n with
    | true =>
      rw [hp] at h
      simp only [Bool.toNat_true] at h
      by_cases e : k = n
      · rw [e]; exact hp
      · exact count_all (n := n) (by omega) k (by omega)
    | false => rw [hp] at h; simp only [Bool.toNat_false] at h; omega
theorem count_put {p : Nat → Bool} {i : Nat} (hi : p i = false) : ∀ n, i < n → count (fun k => p k || decide (k = i)) n = count p n + 1
  | 0, h => by omega
  | n + 1, h => by
    have same : ∀ k, k ≤ i → count (fun k => p k || decide (k = i)) k = count p k := by
      intro k
      induction k with
      | zero => intro _; rfl
      | succ k ih =>
        intro hk
        have e : (p k || decide (k = i)) = p k := by simp; omega
        simp only [count, ih (by omega), e]
    by_cases e : i = n
    · subst e
      simp only [count, same i (Nat.le_refl _), hi]
      simp
    · have ih := count_put hi n (by omega)
      have e2 : (p n || decide (n = i)) = p n := by simp [Ne.symm e]
      simp only [count, ih, e2]
      omega
theorem exists_least_false {p : Nat → Bool} : ∀ {n}, count p n < n → ∃ j, j < n ∧ p j = false ∧ ∀ k, k < j → p k = true
  | 0, h => by omega
  | n + 1, h => by
    by_cases hc : count p n < n
    · obtain ⟨j, h1, h2, h3⟩ := exists_least_false hc
      exact ⟨j, by omega, h2, h3⟩
    · have hn : count p n = n := by have := count_le p n; omega
      have hall := count_all hn
      refine ⟨n, by omega, ?_, hall⟩
      simp only [count, hn] at h
      cases hp : p n with
      | false => rfl
      | true => rw [hp] at h; simp at h
def tailStart (n m : Nat) : Array Bool := (Array.range m).map fun i => decide (i < n)
theorem rep_false (m k : Nat) : (Array.replicate m false).getD k false = false := by
  rw [Array.getD_eq_getD_getElem?, Array.getElem?_replicate]
  split <;> rfl
theorem ahead_ok {ρ0 : Nat → Option Nat} {Hb : AH} {w0 : World} {N : Nat} {ops : Array Oper} {n : Nat} {K : Tm → AH → Prop} {Q : Exit → Act → World → Prop} (hk : HeadOk ops n) (hd : ∀ o ∈ ops.toList, ∀ d, o.dst = some d → d < N)
    {T0 : Tm} {H0 : AH} {im : List Nat} (h : ahead P im ops H0 (ops.toList.take n) K T0 H0)
    (htail : ∀ a w, Conc ρ0 Hb w0 N K a w → wpAny P .any ops Q (ops.size - n) (tailStart n ops.size) a w)
    {ρs : Nat → Option Nat} {a : Act} (hT : RepT ρs H0 w T0 a.tmps) (hh : Holds ρs H0 w) (hbase : Ext ρ0 Hb w0 ρs H0 w) (hdf : a.defers = []) (hN : a.tmps.size = N) :
    wpAny P .any ops Q ops.size (Array.replicate ops.size false) a w := by
  obtain ⟨rs, T', H', hst, hK⟩ := ahead_steps _ _ _ h
  obtain ⟨hsteps, hT', hH'⟩ := steps_at hst
  have hlen : (ops.toList.take n).length = n := by have := hk.le; simp; omega
  rw [hlen] at hT' hH'
  generalize hdst : dL (ops.toList.take n) = dst at *
  generalize hrr : rL rs = r at *
  generalize hoo : oL rs = en at *
  have hops : ∀ (k : Nat) o, k < n → ops[k]? = some o → (ops.toList.take n)[k]? = some o ∧ dst k = o.dst := by
    intro k o hkn ho
    have h1 : (ops.toList.take n)[k]? = some o := by rw [List.getElem?_take, if_pos hkn, Array.getElem?_toList]; exact ho
    exact ⟨h1, by rw [← hdst]; simp [dL, h1]⟩
  have hget : ∀ k, k < n → ∃ o, ops[k]? = some o := fun k hkn => ⟨_, Array.getElem?_eq_getElem (by have := hk.le; omega)⟩
  let id : Nat → Nat := idO en
  let ob : Nat → Option AObj := obO en
  let m := cnt en n
  have hent : ∀ (k : Nat) b i o, en k = some (b, i, o) → id k = i ∧ ob k = some o := fun k b i o h => by simp only [id, ob, idO, obO, h]; exact ⟨rfl, rfl⟩
  have hsome : ∀ k, (ob k).isSome = true → ∃ b o, en k = some (b, id k, o) ∧ ob k = some o := by
    intro k h
    cases he : en k with
    | none => simp [ob, obO, he] at h
    | some x =>
      obtain ⟨b, i, o⟩ := x
      obtain ⟨h1, h2⟩ := hent k b i o he
      exact ⟨b, o, by rw [h1], h2⟩
  -- what adds, and what sets
  have hnew : ∀ (k : Nat) i o, k < n → en k = some (true, i, o) → i = H0.nxt + cnt en k := by
    intro k i o hkn he
    obtain ⟨ok, hok⟩ := hget k hkn
    have hs := hsteps k ok (hops k ok hkn hok).1
    unfold HeadStep at hs
    split at hs
    · exact hs.elim
    · split at hs
      · rw [he] at hs; cases hs.2.2
      · rcases hs with ⟨_, φ, f, o', _, _, _, h⟩ | ⟨_, φ, i', o', _, _, _, h⟩ | ⟨h, _, _⟩ | ⟨h, _⟩
        · rw [he] at h
          simp only [Option.some.injEq, Prod.mk.injEq, true_and] at h
          exact h.1
        · rw [he] at h
          simp at h
        · rw [he] at h
          cases h
        · rw [he] at h
          cases h
  have hst0 : ∀ (k : Nat) i o, k < n → en k = some (false, i, o) → ∃ (j : Nat) (z : Nat) (c cs : List AV) (d : Nat) (oj ok : Oper) (tt : TypeId) (v : Operand), j < k ∧ en j = some (true, i, .cells z [c] 0) ∧ c.length = z ∧ o = .cells z [cs] 0 ∧ cs.length = z ∧ waits ops k j = true ∧
      ops[j]? = some oj ∧ oj.dst = some d ∧ ops[k]? = some ok ∧ ok.op = .store tt (.tmp d) v := by
    intro k i o hkn he
    obtain ⟨ok, hok⟩ := hget k hkn
    have hs := hsteps k ok (hops k ok hkn hok).1
    unfold HeadStep at hs
    split at hs
    · exact hs.elim
    · split at hs
      · rw [he] at hs; cases hs.2.2
      · rcases hs with ⟨_, φ, f, o', _, _, _, h⟩ | ⟨_, φ, i', o', h1, h2, _, h⟩ | ⟨h, _, _⟩ | ⟨h, _⟩
        · rw [he] at h
          simp at h
        · rw [he] at h
          simp only [Option.some.injEq, Prod.mk.injEq, true_and] at h
          obtain ⟨rfl, rfl⟩ := h
          cases hop : ok.op with
          | store tt x v =>
            obtain ⟨d, j, oj, rfl, hjk, hoj, hdj, hgj, haj, hu1, hu2⟩ := hk.st k ok tt x v hkn hok hop
            have hdst := (hops j oj (by omega) hoj).2
            have hT : tget (TD T0 dst r (fun _ => true) k) d = r j := TD_only (by rw [hdst, hdj]) k hjk fun q hq hdq => by
              obtain ⟨oq, hoq⟩ := hget q (by omega)
              rw [(hops q oq (by omega) hoq).2] at hdq
              exact hu1 q oq (by omega) hoq hdq
            have hsj := hsteps j oj (hops j oj (by omega) hoj).1
            unfold HeadStep at hsj
            have hg0 : gcond ops (TD T0 dst r (fun _ => true) j) oj = some none := by unfold gcond; rw [hgj]
            simp only [hg0, apure_al haj] at hsj
            have hn2 : ∀ T, astoreN P T oj.op = none := by intro T; cases hx : oj.op <;> rw [hx] at haj <;> first | rfl | cases haj
            have hn3 : ∀ T, acallee T oj.op = none := by intro T; cases hx : oj.op <;> rw [hx] at haj <;> first | rfl | cases haj
            have hn4 : ∀ T, aimm P T oj.op = none ∨ ∃ t x, oj.op = .box t x := by intro T; cases hx : oj.op <;> rw [hx] at haj <;> first | exact .inl rfl | exact .inr ⟨_, _, rfl⟩ | cases haj
            rcases hsj with ⟨_, ψ, f, o2, k1, k2, k3, k4⟩ | ⟨_, ψ, i2, o2, k1, _⟩ | ⟨_, _, ψ, k1, k2⟩ | ⟨_, ⟨k0, _⟩ | ⟨ψ, f, args, r2, k1, _⟩⟩
            · obtain ⟨z, c, rfl, hcz, rfl⟩ := anew_al k1 haj
              simp only [hop, astoreN, ev, hT, k3, AV.core, Option.some.injEq, Prod.mk.injEq] at h1
              obtain ⟨rfl, rfl, rfl⟩ := h1
              refine ⟨j, z, c, _, d, oj, ok, tt, v, hjk, k4, hcz, rfl, h2.2.2.2.2, ?_, hoj, hdj, hok, hop⟩
              rcases hk.head j k ok oj hjk hkn hoj hok with hap | hw
              · obtain ⟨a1, _, _⟩ := Oper.apart_spec hap
                exact absurd (by simp [Oper.looksAt, hop, Op.operands]) (a1 d hdj)
              · exact hw
            · rw [hn2] at k1; cases k1
            · rcases hn4 (TD T0 dst r (fun _ => true) j) with h9 | ⟨t9, x9, h9⟩
              · rw [h9] at k1; cases k1
              · rw [h9] at k1
                simp only [aimm, Option.some.injEq, Prod.mk.injEq] at k1
                simp only [hop, astoreN, ev, hT, ← k1.2, AV.core, reduceCtorEq] at h1
            · cases k0
            · rw [hn3] at k1; cases k1
          | _ => rw [hop] at h1; simp [astoreN] at h1
        · rw [he] at h
          cases h
        · rw [he] at h
          cases h
  have hstore : ∀ (k : Nat) i o, k < n → en k = some (false, i, o) → ∃ (j : Nat) (z : Nat) (c cs : List AV), j < k ∧ en j = some (true, i, .cells z [c] 0) ∧ c.length = z ∧ o = .cells z [cs] 0 ∧ cs.length = z ∧ waits ops k j = true ∧
      (∀ (k' : Nat) o', k' < n → en k' = some (false, i, o') → k' = k) := by
    intro k i o hkn he
    obtain ⟨j, z, c, cs, d, oj, ok, tt, v, h1, h2, h3, h4, h5, h6, h7, h8, h9, h10⟩ := hst0 k i o hkn he
    refine ⟨j, z, c, cs, h1, h2, h3, h4, h5, h6, fun k' o' hkn' he' => ?_⟩
    obtain ⟨j', z', c', cs', d', oj', ok', tt', v', g1, g2, g3, g4, g5, g6, g7, g8, g9, g10⟩ := hst0 k' i o' hkn' he'
    have e1 := hnew j i _ (by omega) h2
    have e2 := hnew j' i _ (by omega) g2
    have hjj : j' = j := by
      rcases Nat.lt_trichotomy j j' with h | h | h
      · have := cnt_lt (ob := en) h (by rw [h2]; rfl); omega
      · exact h.symm
      · have := cnt_lt (ob := en) h (by rw [g2]; rfl); omega
    subst hjj
    rw [h7] at g7
    injection g7 with g7
    subst g7
    rw [h8] at g8
    injection g8 with g8
    subst g8
    obtain ⟨_, _, _, hx, _, _, _, _, _, _, hu⟩ := hk.st k ok tt (.tmp d) v hkn h9 h10
    injection hx with hx
    subst hx
    exact hu k' ok' tt' v' hkn' g9 g10
  have hdist : ∀ j k, j < n → k < n → k ≠ j → isN (en k) = true → isN (en j) = true → id k ≠ id j := by
    intro j k hj hkn hne hok hoj
    have nid : ∀ q, q < n → isN (en q) = true → id q = H0.nxt + cnt en q := by
      intro q hq hi
      cases he : en q with
      | none => rw [he] at hi; cases hi
      | some x =>
        obtain ⟨b, i, o⟩ := x
        rw [he] at hi
        simp only [isN] at hi
        subst hi
        rw [(hent q _ _ _ he).1, hnew q i o hq he]
    rw [nid k hkn hok, nid j hj hoj]
    rcases Nat.lt_or_gt_of_ne hne with h | h
    · have := cnt_lt h hok; omega
    · have := cnt_lt h hoj; omega
  have hge : ∀ k, k < n → (ob k).isSome = true → H0.nxt ≤ id k ∧ id k < H0.nxt + m := by
    intro k hkn hs
    have new : ∀ (q : Nat) i o, q < n → en q = some (true, i, o) → H0.nxt ≤ i ∧ i < H0.nxt + m := by
      intro q i o hq he
      have h1 := hnew q i o hq he
      have h2 := cnt_lt (ob := en) hq (by rw [he]; rfl)
      simp only [m]
      omega
    obtain ⟨b, o, he, _⟩ := hsome k hs
    cases b with
    | true => exact new k _ _ hkn he
    | false =>
      obtain ⟨j, z, c, cs, hjk, hj, _⟩ := hstore k _ _ hkn he
      exact new j _ _ (by omega) hj
  -- the invariant
  have main : ∀ (fuel : Nat) (listed : Array Bool) (a : Act) (w' : World) (ρ : Nat → Option Nat), listed.size = ops.size → (∀ k, n ≤ k → listed.getD k false = false) →
      fuel + count (fun k => listed.getD k false) n = ops.size →
      RepT ρ (HD H0 m id ob (fun k => listed.getD k false) n) w' (TD T0 dst r (fun k => listed.getD k false) n) a.tmps →
      Holds ρ (HD H0 m id ob (fun k => listed.getD k false) n) w' → Ext ρs H0 w ρ (HD H0 m id ob (fun k => listed.getD k false) n) w' → a.defers = [] → a.tmps.size = N →
      (∀ k, k < n → isN (en k) = true → listed.getD k false = false → ρ (id k) = none) →
      (∀ (k : Nat) o, ops[k]? = some o → listed.getD k false = true → ∀ e ∈ o.after, Region.binds .any e = true → listed.getD e.on false = true) → wpAny P .any ops Q fuel listed a w' := by
    intro fuel
    induction fuel with
    | zero =>
      intro listed a w' ρ hsz htl hfc hrep hho hext hdf hN hres hdown
      have hcl := count_le (fun k => listed.getD k false) n
      have hnn : n = ops.size := by have := hk.le; omega
      have hall := count_all (p := fun k => listed.getD k false) (n := n) (by omega)
      have e1 : HD H0 m id ob (fun k => listed.getD k false) n = H' := by
        rw [HD_congr (q := fun _ => true) n hall, hH']
        have h1 := HD_true (H0 := H0) (m := m) (ob := en) n (fun j i o hj he => hnew j i o hj he)
        have h2 := HD_nxt (H0 := H0) (m := m) (id := id) (ob := ob) (p := fun _ => true) n
        have h3 := Hat_nxt (H := H0) (ob := en) n
        cases h4 : HD H0 m id ob (fun _ => true) n
        cases h5 : Hat H0 en n
        rw [h4] at h2
        rw [h5] at h3
        have h1' : (HD H0 m id ob (fun _ => true) n).obj = (Hat H0 en n).obj := h1
        rw [h4, h5] at h1'
        simp only [AH.mk.injEq]
        exact ⟨h1', h2.trans h3.symm⟩
      have e2 : TD T0 dst r (fun k => listed.getD k false) n = T' := by rw [TD_congr (q := fun _ => true) n hall, hT']
      have e3 : listed = tailStart n ops.size := by
        apply Array.ext
        · simp [tailStart, hsz]
        · intro k h1 h2
          have := hall k (by omega)
          simp only [Array.getD_eq_getD_getElem?, Array.getElem?_eq_getElem h1, Option.getD_some] at this
          rw [this]
          simp [tailStart]
          omega
      rw [e1] at hrep hho hext
      rw [e2] at hrep
      rw [e3]
      have := htail a w' ⟨T', H', ρ, hK, hrep, hho, hbase.trans hext, hdf, hN⟩
      rwa [show ops.size - n = 0 by omega] at this
    | succ fuel ih =>
      intro listed a w' ρ hsz htl hfc hrep hho hext hdf hN hres hdown
      have hcl := count_le (fun k => listed.getD k false) n
      by_cases hcn : count (fun k => listed.getD k false) n = n
      · have hall := count_all (p := fun k => listed.getD k false) (n := n) hcn
        have e1 : HD H0 m id ob (fun k => listed.getD k false) n = H' := by
          rw [HD_congr (q := fun _ => true) n hall, hH']
          have h1 := HD_true (H0 := H0) (m := m) (ob := en) n (fun j i o hj he => hnew j i o hj he)
          have h2 := HD_nxt (H0 := H0) (m := m) (id := id) (ob := ob) (p := fun _ => true) n
          have h3 := Hat_nxt (H := H0) (ob := en) n
          cases h4 : HD H0 m id ob (fun _ => true) n
          cases h5 : Hat H0 en n
          rw [h4] at h2
          rw [h5] at h3
          have h1' : (HD H0 m id ob (fun _ => true) n).obj = (Hat H0 en n).obj := h1
          rw [h4, h5] at h1'
          simp only [AH.mk.injEq]
          exact ⟨h1', h2.trans h3.symm⟩
        have e2 : TD T0 dst r (fun k => listed.getD k false) n = T' := by rw [TD_congr (q := fun _ => true) n hall, hT']
        have e3 : listed = tailStart n ops.size := by
          apply Array.ext
          · simp [tailStart, hsz]
          · intro k h1 h2
            by_cases hkn : k < n
            · have := hall k hkn
              simp only [Array.getD_eq_getD_getElem?, Array.getElem?_eq_getElem h1, Option.getD_some] at this
              rw [this]
              simp [tailStart, hkn]
            · have := htl k (by omega)
              simp only [Array.getD_eq_getD_getElem?, Array.getElem?_eq_getElem h1, Option.getD_some] at this
              rw [this]
              simp [tailStart, hkn]
        rw [e1] at hrep hho hext
        rw [e2] at hrep
        rw [e3]
        have := htail a w' ⟨T', H', ρ, hK, hrep, hho, hbase.trans hext, hdf, hN⟩
        rwa [show ops.size - n = fuel + 1 by omega] at this
      · obtain ⟨j, hjn, hj0, hjall⟩ := exists_least_false (p := fun k => listed.getD k false) (n := n) (by omega)
        refine ⟨fun hr => ?_, fun i hi => ?_⟩
        · obtain ⟨o, ho⟩ := hget j hjn
          have : j ∈ Region.ready .any ops listed := by
            rw [mem_ready]
            refine ⟨?_, o, ho, fun e he hb => hjall _ (hk.back j o ho e he hb)⟩
            have hlt : j < listed.size := by rw [hsz]; have := hk.le; omega
            simp only [Array.getD_eq_getD_getElem?, Array.getElem?_eq_getElem hlt, Option.getD_some] at hj0 ⊢
            exact hj0
          rw [hr] at this
          cases this
        · rw [mem_ready] at hi
          obtain ⟨hi0, o, ho, hio⟩ := hi
          have his : i < ops.size := (Array.getElem?_eq_some_iff.1 ho).1
          have hi0' : listed.getD i false = false := by
            have hlt : i < listed.size := by rw [hsz]; exact his
            simp only [Array.getD_eq_getD_getElem?, Array.getElem?_eq_getElem hlt, Option.getD_some] at hi0 ⊢
            exact hi0
          have hin : i < n := by
            rcases Nat.lt_or_ge i n with h | h
            · exact h
            · have := reach_listed (listed := fun k => listed.getD k false) ho (fun e he hb => hio e he hb) hdown (hk.tail j i hjn h his)
              have hj0' : listed.getD j false = false := hj0
              rw [hj0'] at this
              cases this
          obtain ⟨hl, hdi⟩ := hops i o hin ho
          -- what stands in the slots that it looks at
          have hwr : ∀ k, k < n → k ≠ i → ∀ d, dst k = some d → (d ∈ o.looksAt ops ∨ o.dst = some d) → (k < i → listed.getD k false = true) ∧ (i < k → listed.getD k false = false) := by
            intro k hkn hne d hd' hlook
            obtain ⟨ok, hok⟩ := hget k hkn
            have hdk := (hops k ok hkn hok).2
            rw [hdk] at hd'
            constructor
            · intro hlt
              rcases hk.head k i o ok hlt hin hok ho with hap | hw
              · obtain ⟨a1, a2, _⟩ := Oper.apart_spec hap
                rcases hlook with h | h
                · exact absurd h (a1 d hd')
                · exact absurd h (a2 d hd')
              · obtain ⟨o', ho', e, he, hb, heq⟩ := waits_spec hw
                rw [ho] at ho'
                injection ho' with ho'
                subst ho'
                rw [← heq]
                exact hio e he hb
            · intro hlt
              rcases hk.head i k ok o hlt hkn ho hok with hap | hw
              · obtain ⟨_, a2, a3⟩ := Oper.apart_spec hap
                rcases hlook with h | h
                · exact absurd h (a3 d hd')
                · exact absurd hd' (a2 d h)
              · cases hlk : listed.getD k false with
                | false => rfl
                | true =>
                  exfalso
                  obtain ⟨o', ho', e, he, hb, heq⟩ := waits_spec hw
                  rw [hok] at ho'
                  injection ho' with ho'
                  subst ho'
                  have := hdown k ok hok hlk e he hb
                  rw [heq, hi0'] at this
                  cases this
          have hs := hsteps i o hl
          have hs' : HeadStep P ops H0 (TD T0 dst r (fun k => listed.getD k false) n) (H0.nxt + cnt en i) o (r i) (en i) := by
            refine headStep_congr (fun t ht => ?_) hs
            rw [← TD_upto (T0 := T0) (dst := dst) (r := r) n (Nat.le_of_lt hin)]
            refine TD_agree n fun k hkn hdk => ?_
            by_cases hki : k = i
            · subst hki
              simp only [Nat.lt_irrefl, decide_false]
              exact hi0'.symm
            · obtain ⟨h1, h2⟩ := hwr k hkn hki t hdk (.inl ht)
              rcases Nat.lt_or_gt_of_ne hki with h | h
              · rw [h1 h]; simp [h]
              · rw [h2 h]; simp; omega
          have hp' : (fun k => (listed.setIfInBounds i true).getD k false) = fun k => listed.getD k false || decide (k = i) := by
            funext k
            by_cases hki : k = i
            · subst hki
              have hlt : k < listed.size := by rw [hsz]; exact his
              simp [Array.getD_eq_getD_getElem?, hlt]
            · rw [getD_set_ne false (Ne.symm hki)]
              simp [hki]
          have hsub : ∀ j o', H0.obj j = some o' → (HD H0 m id ob (fun k => listed.getD k false) n).obj j = some o' := by
            intro j o' ho'
            rw [HD_low n fun k hkn _ hsk => ?_]
            · exact ho'
            · have := hh.lt j o' ho'
              have := (hge k hkn hsk).1
              omega
          have next : ∀ (x : Value) (w2 : World) (ρ2 : Nat → Option Nat), Rep ρ2 (HD H0 m id ob (fun k => listed.getD k false || decide (k = i)) n) w2 (r i) x →
              Ext0 ρ (HD H0 m id ob (fun k => listed.getD k false) n) w' ρ2 (HD H0 m id ob (fun k => listed.getD k false || decide (k = i)) n) w2 →
              Holds ρ2 (HD H0 m id ob (fun k => listed.getD k false || decide (k = i)) n) w2 → Ext ρs H0 w ρ2 (HD H0 m id ob (fun k => listed.getD k false || decide (k = i)) n) w2 →
              (∀ k, k < n → isN (en k) = true → k ≠ i → listed.getD k false = false → ρ2 (id k) = none) → wpAny P .any ops Q fuel (listed.setIfInBounds i true) (a.put o.dst x) w2 := by
            intro x w2 ρ2 h1 h2 h3 h4 h5
            refine ih _ _ w2 ρ2 (by simp [hsz]) (fun k hk' => ?_) ?_ ?_ ?_ ?_ (by rw [defers_put]; exact hdf) (by rw [size_put]; exact hN) (fun k hkn hok hlk => ?_) fun k ok hok hlk e he hb => ?_
            · rw [getD_set_ne false (by omega)]; exact htl k hk'
            · rw [hp', count_put (p := fun k => listed.getD k false) hi0' n hin]; omega
            · rw [hp']
              intro t
              rw [TD_put n hin hi0' fun k hik hkn hdit hdkt => ((hwr k hkn (by omega) t hdkt (.inr (by rw [← hdi]; exact hdit))).2 hik)]
              by_cases hdt : dst i = some t
              · rw [if_pos hdt]
                rw [hdi] at hdt
                have hlt : t < a.tmps.size := by rw [hN]; exact hd o (by rw [← Array.getElem?_toList] at ho; exact List.mem_of_getElem? ho) t hdt
                rw [hdt]
                have : (a.put (some t) x).tmps.getD t undef = x := by simp [Act.put, Array.getD, hlt]
                rw [this]
                exact h1
              · rw [if_neg hdt]
                rw [hdi] at hdt
                have : (a.put o.dst x).tmps.getD t undef = a.tmps.getD t undef := by
                  cases hod : o.dst with
                  | none => rfl
                  | some d =>
                    simp only [Act.put, Array.getD_eq_getD_getElem?, Array.getElem?_setIfInBounds]
                    rw [if_neg (by intro e; subst e; exact hdt hod)]
                rw [this]
                exact Rep.ext0 h2 _ _ (hrep t)
            · rw [hp']; exact h3
            · rw [hp']; exact h4
            · by_cases hki : k = i
              · subst hki
                have hlt : k < listed.size := by rw [hsz]; exact his
                simp [Array.getD_eq_getD_getElem?, hlt] at hlk
              · rw [getD_set_ne false (Ne.symm hki)] at hlk
                exact h5 k hkn hok hki hlk
            · by_cases hki : k = i
              · subst hki
                rw [ho] at hok
                injection hok with hok
                subst hok
                exact getD_set_true (hio e he hb)
              · rw [getD_set_ne false (Ne.symm hki)] at hlk
                exact getD_set_true (hdown k ok hok hlk e he hb)
          have noobj : ∀ (x : Value) (w2 : World) (ρ2 : Nat → Option Nat), ob i = none → Rep ρ2 (HD H0 m id ob (fun k => listed.getD k false) n) w2 (r i) x → Holds ρ2 (HD H0 m id ob (fun k => listed.getD k false) n) w2 →
              Ext ρ (HD H0 m id ob (fun k => listed.getD k false) n) w' ρ2 (HD H0 m id ob (fun k => listed.getD k false) n) w2 → wpAny P .any ops Q fuel (listed.setIfInBounds i true) (a.put o.dst x) w2 := by
            intro x w2 ρ2 h0 h1 h2 h3
            have e := HD_none (H0 := H0) (m := m) (id := id) (p := fun k => listed.getD k false) h0 n
            refine next x w2 ρ2 (by rw [e]; exact h1) (by rw [e]; exact h3.to0) (by rw [e]; exact h2) (by rw [e]; exact hext.trans h3) fun k hkn hok hki hlk => ?_
            have hρ := hres k hkn hok hlk
            cases h4 : ρ2 (id k) with
            | none => rfl
            | some b =>
              rcases h3.new _ b h4 with h5 | ⟨h5, _⟩
              · rw [hρ] at h5; cases h5
              · rw [HD_nxt] at h5
                have hsk : (ob k).isSome = true := by
                  cases he : en k with
                  | none => rw [he] at hok; cases hok
                  | some x => simp [ob, obO, he]
                have := (hge k hkn hsk).2
                omega
          simp only [wpOp, ho]
          unfold HeadStep at hs'
          split at hs'
          · exact hs'.elim
          · rename_i c hg
            have hwant : Region.wanted o (yielded ops a.tmps) = on c := by
              cases c with
              | none => exact gcond_none hg _
              | some g => exact gcond_ok hrep hg
            have off : ob i = none → (∃ r', r i = mk c r') → on c = false → wpAny P .any ops Q fuel (listed.setIfInBounds i true) (a.put o.dst undef) w' := by
              rintro h0 ⟨r', h1⟩ h2
              refine noobj undef w' ρ h0 ?_ hho (Ext.refl hho)
              rw [h1]
              cases c with
              | none => cases h2
              | some g =>
                simp only [on, Option.getD_some] at h2
                subst h2
                simp only [mk, Rep]
                exact ⟨fun h => (by cases h), fun _ => trivial⟩
            have yes : ∀ {ρ2 : Nat → Option Nat} {H2 : AH} {w2 : World} {r' : AV} {x : Value}, on c = true → r i = mk c r' → Rep ρ2 H2 w2 r' x → Rep ρ2 H2 w2 (r i) x := by
              intro ρ2 H2 w2 r' x h1 h2 h3
              rw [h2]
              cases c with
              | none => exact h3
              | some g =>
                simp only [on, Option.getD_some] at h1
                subst h1
                simp only [mk, Rep]
                exact ⟨fun _ => h3, fun h => (by cases h)⟩
            have hobn : en i = none → ob i = none := fun h => by simp only [ob, obO, h, Option.map_none]
            have later : isN (en i) = true → ∀ k, i ≠ k → k < n → listed.getD k false = true → (ob k).isSome = true → id k ≠ id i := by
              intro hni k hne hkn hlk hsk heq
              obtain ⟨b, o2, hek, _⟩ := hsome k hsk
              cases b with
              | true => exact hdist i k hin hkn (Ne.symm hne) (by rw [hek]; rfl) hni heq
              | false =>
                obtain ⟨j2, z2, c2, cs2, q1, q2, _, _, _, q6, _⟩ := hstore k _ _ hkn hek
                have hji : j2 = i := by
                  rcases Nat.decEq j2 i with h | h
                  · exact absurd (by rw [(hent j2 _ _ _ q2).1, heq]) (hdist i j2 hin (by omega) h (by rw [q2]; rfl) hni)
                  · exact h
                subst hji
                obtain ⟨ok, hok, e, he, hb, heq2⟩ := waits_spec q6
                have := hdown k ok hok hlk e he hb
                rw [heq2, hi0'] at this
                cases this
            split at hs'
            · rename_i φ r' hp
              obtain ⟨h1, h2, h3⟩ := hs'
              cases hon : on c with
              | true =>
                simp only [hwant, hon, if_true]
                refine .inl ?_
                obtain ⟨x, hx, hr⟩ := apure_ok hho hrep (apure_mono hsub hp) (h1 hon)
                simp only [Oper.wp, hx, Oper.upon]
                exact noobj x w' ρ (hobn h3) (yes hon h2 hr) hho (Ext.refl hho)
              | false =>
                simp only [hwant, hon, Bool.false_eq_true, if_false]
                exact off (hobn h3) ⟨r', h2⟩ hon
            · rename_i hp
              rcases hs' with ⟨hon, φ, f, o', hn, h1, h2, h3⟩ | ⟨rfl, φ, idx, o', hst, h1, h2, h3⟩ | ⟨h2, hon, φ, hi, h1⟩ | ⟨h2, ⟨hon, r', hr'⟩ | ⟨φ, f, args, r', hc, h1, h3, h4⟩⟩
              ·
                simp only [hwant, hon, if_true]
                refine .inl ?_
                obtain ⟨obj, x, hx, hfact⟩ := anew_ok hrep hn h1
                simp only [Oper.wp, hx, Oper.upon]
                have hni : isN (en i) = true := by rw [h3]; rfl
                obtain ⟨hidi, hobi⟩ := hent i _ _ _ h3
                have hsome' : (ob i).isSome = true := by rw [hobi]; rfl
                have hρi := hres i hin hni hi0'
                have hHD := HD_put (H0 := H0) (m := m) (id := id) (p := fun k => listed.getD k false) hi0' hobi n (fun k h4 h5 h6 h7 => later hni k (by omega) h5 h6 h7) hin
                have hlti : id i < (HD H0 m id ob (fun k => listed.getD k false) n).nxt := by
                  rw [HD_nxt]
                  exact (hge i hin hsome').2
                have hfree : (HD H0 m id ob (fun k => listed.getD k false) n).obj (id i) = none := by
                  rw [HD_low n fun k hkn hlk hok => ?_]
                  · cases h4 : H0.obj (id i) with
                    | none => rfl
                    | some o2 =>
                      have := hh.lt _ o2 h4
                      have := (hge i hin hsome').1
                      omega
                  · refine later hni k ?_ hkn hlk hok
                    intro e
                    subst e
                    rw [hi0'] at hlk
                    cases hlk
                have he0 := Ext0.allocAt hho obj o' hρi
                obtain ⟨k1, k2⟩ := hfact _ _ (id i) he0 (upd_self _ _)
                refine next x _ (upd ρ (id i) (some w'.heap.size)) ?_ ?_ ?_ ?_ fun k hkn hok hki hlk => ?_
                · rw [hHD, h2, ← hidi]; exact k1
                · rw [hHD]; exact he0
                · rw [hHD]; exact hho.allocAt obj o' hρi hlti hfree k2
                · rw [hHD]; exact hext.thenAlloc hho obj o' hρi (hge i hin hsome').1
                · simp only [upd]
                  rw [if_neg (hdist i k hin hkn hki hok hni)]
                  exact hres k hkn hok hlk
              · simp only [hwant, on, Option.getD_none, if_true]
                refine .inl ?_
                obtain ⟨j2, z, c2, cs, q1, q2, q3, q4, q5, q6, q7⟩ := hstore i _ _ hin h3
                obtain ⟨hidi, hobi⟩ := hent i _ _ _ h3
                obtain ⟨hidj, hobj⟩ := hent j2 _ _ _ q2
                have hlj : listed.getD j2 false = true := by
                  obtain ⟨oi, hoi, e, he, hb, heq⟩ := waits_spec q6
                  rw [ho] at hoi
                  injection hoi with hoi
                  subst hoi
                  rw [← heq]
                  exact hio e he hb
                have hsole : ∀ k, k ≠ i → k ≠ j2 → k < n → (ob k).isSome = true → id k ≠ idx := by
                  intro k hki hkj hkn hsk heq
                  obtain ⟨b, o2, hek, _⟩ := hsome k hsk
                  cases b with
                  | true => exact hdist j2 k (by omega) hkn hkj (by rw [hek]; rfl) (by rw [q2]; rfl) (by rw [heq, hidj])
                  | false => rw [heq] at hek; exact hki (q7 k o2 hkn hek)
                have hat := HD_at (H0 := H0) (m := m) (id := id) (p := fun k => listed.getD k false) hlj hobj n (fun k k1 k2 k3 k4 => by
                  rw [hidj]
                  refine hsole k ?_ (by omega) k2 k4
                  intro e
                  subst e
                  rw [hi0'] at k3
                  cases k3) (by omega)
                rw [hidj] at hat
                subst q4
                have haeff : ∃ ψ, aeff P (TD T0 dst r (fun k => listed.getD k false) n) (HD H0 m id ob (fun k => listed.getD k false) n) o.op = some (ψ, .any, (HD H0 m id ob (fun k => listed.getD k false) n).set idx (.cells z [cs] 0)) ∧ ψ := by
                  cases hop : o.op with
                  | store tt x v =>
                    rw [hop] at hst
                    simp only [astoreN] at hst
                    split at hst
                    · rename_i ix zx hcx
                      simp only [Option.some.injEq, Prod.mk.injEq, AObj.cells.injEq, List.cons.injEq, and_true] at hst
                      obtain ⟨rfl, rfl, rfl, rfl⟩ := hst
                      obtain ⟨g1, g2, g3, g4, g5⟩ := h1
                      simp only [aeff, astore, hcx, hat, Option.map_some]
                      have hsp : [c2].set 0 (splice ([c2].getD 0 []) 0 (acells (ev (TD T0 dst r (fun k => listed.getD k false) n) v).core)) = [acells (ev (TD T0 dst r (fun k => listed.getD k false) n) v).core] := by
                        simp only [splice, List.getD_cons_zero, List.take_zero, List.nil_append, Nat.zero_add, List.set_cons_zero]
                        rw [List.drop_of_length_le (by omega), List.append_nil]
                      rw [hsp]
                      exact ⟨_, rfl, g1, trivial, Nat.le_refl _, by simp, by omega, g2, g3, by rw [g4, g5]⟩
                    · cases hst
                  | _ => rw [hop] at hst; simp [astoreN] at hst
                obtain ⟨ψ, ha1, ha2⟩ := haeff
                obtain ⟨nx, w2, ρ2, x, hx, hnx, hr, k3, k4⟩ := aeff_ok hho hrep ha1 ha2
                have hHD := HD_put (H0 := H0) (m := m) (id := id) (p := fun k => listed.getD k false) hi0' hobi n (fun k k1 k2 _ k4 => by rw [hidi]; exact hsole k (by omega) (by omega) k2 k4) hin
                rw [hidi] at hHD
                have fin : wpAny P .any ops Q fuel (listed.setIfInBounds i true) (a.put o.dst x) w2 := by
                  refine next x w2 ρ2 ?_ ?_ ?_ ?_ fun k hkn hok hki hlk => ?_
                  · rw [hHD, h2]; exact hr
                  · rw [hHD]; exact k4.to0
                  · rw [hHD]; exact k3
                  · rw [hHD]; exact hext.trans k4
                  · have hρ := hres k hkn hok hlk
                    cases h4 : ρ2 (id k) with
                    | none => rfl
                    | some b =>
                      rcases k4.new _ b h4 with h5 | ⟨h5, _⟩
                      · rw [hρ] at h5; cases h5
                      · rw [HD_nxt] at h5
                        have hsk : (ob k).isSome = true := by
                          cases he : en k with
                          | none => rw [he] at hok; cases hok
                          | some x => simp [ob, obO, he]
                        have := (hge k hkn hsk).2
                        omega
                rcases hnx with rfl | ⟨rfl, rfl⟩
                · simp only [Oper.wp, hx, Oper.upon]; exact fin
                · simp only [Oper.wp, hx, Oper.upon]; exact fin
              · simp only [hwant, hon, if_true]
                refine .inl ?_
                obtain ⟨obj, x, hx, hr⟩ := aimm_ok hho hrep hi h1
                simp only [Oper.wp, hx, Oper.upon]
                exact noobj x _ ρ (hobn h2) hr (alloc_grown hho obj).1 (alloc_grown hho obj).2
              · simp only [hwant, hon, Bool.false_eq_true, if_false]
                exact off (hobn h2) ⟨r', hr'⟩ hon
              · cases hon : on c with
                | true =>
                  simp only [hwant, hon, if_true]
                  refine .inl ?_
                  obtain ⟨q1, q2⟩ := h3 hon (HD H0 m id ob (fun k => listed.getD k false) n)
                  obtain ⟨xs, hx, hr⟩ := acall_run hrep hc (h1 hon) q1
                  simp only [Oper.wp, hx, Oper.upon]
                  refine (q2 ρ w' xs hho hr).mono ?_
                  rintro e w2 ⟨r2, H2, ρ2, x, ⟨rfl, rfl⟩, rfl, k2, k3, k4⟩
                  exact noobj x w2 ρ2 (hobn h2) (yes hon h4 k4) k2 k3
                | false =>
                  simp only [hwant, hon, Bool.false_eq_true, if_false]
                  exact off (hobn h2) ⟨r', h4⟩ hon
  -- the start
  have hH0 : HD H0 m id ob (fun k => (Array.replicate ops.size false).getD k false) n = { H0 with nxt := H0.nxt + m } := by
    rw [HD_congr (q := fun _ => false) n fun k _ => rep_false _ _]
    have : ∀ k, HD H0 m id ob (fun _ => false) k = { H0 with nxt := H0.nxt + m } := by
      intro k
      induction k with
      | zero => rfl
      | succ k ih => simp only [HD, ih]
    exact this n
  have hT0 : TD T0 dst r (fun k => (Array.replicate ops.size false).getD k false) n = T0 := by
    rw [TD_congr (q := fun _ => false) n fun k _ => rep_false _ _]
    have : ∀ k, TD T0 dst r (fun _ => false) k = T0 := by
      intro k
      induction k with
      | zero => rfl
      | succ k ih => simp only [TD, ih, Bool.false_eq_true, if_false]
    exact this n
  have hc0 : count (fun k => (Array.replicate ops.size false).getD k false) n = 0 := by
    have : ∀ k, count (fun k => (Array.replicate ops.size false).getD k false) k = 0 := by
      intro k
      induction k with
      | zero => rfl
      | succ k ih =>
        simp only [count, ih]
        have : (Array.replicate ops.size false).getD k false = false := rep_false _ _
        rw [this]
        rfl
    exact this n
  have hebump : Ext ρs H0 w ρs { H0 with nxt := H0.nxt + m } w := ⟨fun i b hi => (hh.bound i b hi).1, fun _ _ h => h, fun _ _ h => .inl h, fun _ o h _ => ⟨o, h⟩, Nat.le_add_right _ _, fun _ _ h k => ⟨h, k⟩, Nat.le_refl _, fun _ _ _ => rfl, fun _ cs _ _ h => ⟨cs, h, rfl⟩, rfl, rfl, rfl⟩
  have hhbump : Holds ρs { H0 with nxt := H0.nxt + m } w := ⟨fun i o ho => (hh.obj i o ho).ext hebump (hh.lt i o ho) (fun _ _ => rfl), hh.inj, fun i o ho => by have := hh.lt i o ho; show i < H0.nxt + m; omega,
    fun i b hi => by have := hh.bound i b hi; exact ⟨by show i < H0.nxt + m; omega, this.2⟩⟩
  refine main ops.size _ a w ρs (by simp) (fun k _ => rep_false _ _) (by rw [hc0]; rfl) ?_ ?_ ?_ hdf hN (fun k hkn hok _ => ?_) fun k o _ hl => ?_
  · rw [hH0, hT0]; exact hT.ext hebump
  · rw [hH0]; exact hhbump
  · rw [hH0]; exact hebump
  · cases h : ρs (id k) with
    | none => rfl
    | some b =>
      have := (hh.bound _ b h).1
      have hsk : (ob k).isSome = true := by
        cases he : en k with
        | none => rw [he] at hok; cases hok
        | some x => simp [ob, obO, he]
      have := (hge k hkn hsk).1
      omega
  · have : (Array.replicate ops.size false).getD k false = false := rep_false _ _
    rw [this] at hl
    cases hl
end Go.Sim
namespace Go.Sim
variable {P : Program} {ρ : Nat → Option Nat} {H : AH} {w : World}
def isApp : Op → Bool
  | .call ⟨.builtin .append, _, _⟩ => true
  | _ => false
def apps (ops : Array Oper) (i : Nat) : Bool := match ops[i]? with | some o => isApp o.op | none => false
def growOk (ops : Array Oper) (n : Nat) : Bool := (List.range n).all fun j => !apps ops j || (List.range j).all fun i => !apps ops i || waits ops j i
def aapp (P : Program) (Hp : AH) (T : Tm) (H : AH) : Op → Option (Prop × AV × AH)
  | .call ⟨.builtin .append, args, ts⟩ =>
    match args.toList, ts.toList with
    | [x, y], [t, t'] => (aappend P t H (ev T x).core (ev T y).core).map fun (φ, r, H') => ((∀ i z o k, (ev T x).core = .rsl i z o k → Hp.obj i = none) ∧ gokL T [x, y] ∧ t' = t ∧ φ, r, H')
    | _, _ => none
  | _ => none
theorem aapp_eff {Hp : AH} {T : Tm} {op : Op} {φ : Prop} {r : AV} {H' : AH} (h : aapp P Hp T H op = some (φ, r, H')) (hφ : φ) : ∃ ψ, aeff P T H op = some (ψ, r, H') ∧ ψ := by
  unfold aapp at h
  split at h
  · rename_i args ts
    split at h
    · rename_i x y t t' hx hts
      simp only [Option.map_eq_some_iff, Prod.mk.injEq] at h
      obtain ⟨⟨ψ, r', H''⟩, h1, rfl, rfl, rfl⟩ := h
      exact ⟨_, by simp only [aeff, hx, hts, h1, Option.map_some], hφ.2⟩
    · cases h
  · cases h
theorem aapp_low {Hp : AH} {T : Tm} {op : Op} {φ : Prop} {r : AV} {H' : AH} (h : aapp P Hp T H op = some (φ, r, H')) (hφ : φ) : H.nxt ≤ H'.nxt ∧ ∀ j o, j < H.nxt → Hp.obj j = some o → H.obj j = some o → H'.obj j = some o := by
  unfold aapp at h
  split at h
  · rename_i args ts
    split at h
    · rename_i x y t t' hx hts
      simp only [Option.map_eq_some_iff, Prod.mk.injEq] at h
      obtain ⟨⟨ψ, r', H''⟩, h1, rfl, rfl, rfl⟩ := h
      obtain ⟨hp, _⟩ := hφ
      unfold aappend at h1
      split at h1
      · cases h1
      · split at h1
        · cases h1
        · split at h1
          · rename_i i z k hv
            split at h1
            · simp only [Option.some.injEq, Prod.mk.injEq] at h1
              obtain ⟨_, _, rfl⟩ := h1
              have h0 := hp _ _ _ _ hv
              refine ⟨Nat.le_succ _, fun j o hj hpo ho => ?_⟩
              have hji : j ≠ i := by intro e; subst e; rw [h0] at hpo; cases hpo
              show (if j = H.nxt then _ else (if j = i then none else H.obj j)) = some o
              rw [if_neg (by omega), if_neg hji, ho]
            · cases h1
          · simp only [Option.some.injEq, Prod.mk.injEq] at h1
            obtain ⟨_, _, rfl⟩ := h1
            refine ⟨Nat.le_succ _, fun j o hj hpo ho => ?_⟩
            show (if j = H.nxt then _ else H.obj j) = some o
            rw [if_neg (by omega), ho]
          · simp only [Option.some.injEq, Prod.mk.injEq] at h1
            obtain ⟨_, _, rfl⟩ := h1
            refine ⟨Nat.le_succ _, fun j o hj hpo ho => ?_⟩
            show (if j = H.nxt then _ else H.obj j) = some o
            rw [if_neg (by omega), ho]
          · cases h1
    · cases h
  · cases h
theorem aapp_isApp {Hp : AH} {T : Tm} {op : Op} {x : Prop × AV × AH} (h : aapp P Hp T H op = some x) : isApp op = true := by
  unfold aapp at h
  split at h
  · rfl
  · cases h
def HStepE (P : Program) (Hp : AH) (ops : Array Oper) (T : Tm) (H : AH) (o : Oper) (r : AV) (ob : Option AH) : Prop :=
  match gcond ops T o with
  | none => False
  | some c =>
    match apure P Hp T o.op with
    | some (φ, r') => (on c = true → φ) ∧ r = mk c r' ∧ ob = none
    | none =>
      (c = none ∧ ∃ φ H', aapp P Hp T H o.op = some (φ, r, H') ∧ φ ∧ ob = some H') ∨
      (ob = none ∧ on c = true ∧ ∃ φ, aimm P T o.op = some (φ, r) ∧ φ) ∨
      (ob = none ∧ ((on c = false ∧ ∃ r', r = mk c r') ∨ ∃ φ f args r', acallee T o.op = some (φ, f, args) ∧ (on c = true → φ) ∧ (on c = true → Quiet P f args r') ∧ r = mk c r'))
def aheff (P : Program) (Hp : AH) (ops : Array Oper) : List Oper → (Tm → AH → Prop) → Tm → AH → Prop
  | [], K, T, H => K T H
  | o :: rest, K, T, H =>
    match gcond ops T o with
    | none => False
    | some none =>
      match apure P Hp T o.op with
      | some (φ, r) => φ ∧ aheff P Hp ops rest K (tput T o.dst r) H
      | none =>
        match aapp P Hp T H o.op with
        | some (φ, r, H') => φ ∧ aheff P Hp ops rest K (tput T o.dst r) H'
        | none =>
          match aimm P T o.op with
          | some (φ, r) => φ ∧ aheff P Hp ops rest K (tput T o.dst r) H
          | none =>
            match acallee T o.op with
            | some (φ, f, args) => φ ∧ ∃ r, Quiet P f args r ∧ aheff P Hp ops rest K (tput T o.dst r) H
            | none => False
    | some (some c) =>
      match apure P Hp T o.op with
      | some (φ, r) => (c = true → φ) ∧ aheff P Hp ops rest K (tput T o.dst (.gv c r)) H
      | none =>
        match acallee T o.op with
        | some (φ, f, args) => (c = true → φ) ∧ GCallK P c f args o.dst (aheff P Hp ops rest K) T H
        | none => c = false ∧ aheff P Hp ops rest K (tput T o.dst (.gv c .any)) H
def HStepsE (P : Program) (Hp : AH) (ops : Array Oper) : List Oper → List (AV × Option AH) → Tm → AH → Tm → AH → Prop
  | [], rs, T, H, T', H' => rs = [] ∧ T' = T ∧ H' = H
  | o :: l, rs, T, H, T', H' => ∃ r ob rs', rs = (r, ob) :: rs' ∧ HStepE P Hp ops T H o r ob ∧ HStepsE P Hp ops l rs' (tput T o.dst r) (ob.getD H) T' H'
theorem aheff_steps {Hp : AH} {ops : Array Oper} {K : Tm → AH → Prop} : ∀ (l : List Oper) (T : Tm) (H : AH), aheff P Hp ops l K T H → ∃ rs T' H', HStepsE P Hp ops l rs T H T' H' ∧ K T' H'
  | [], T, H, h => ⟨[], T, H, ⟨rfl, rfl, rfl⟩, h⟩
  | o :: l, T, H, h => by
    have go : ∀ r ob, HStepE P Hp ops T H o r ob → aheff P Hp ops l K (tput T o.dst r) (ob.getD H) → ∃ rs T' H', HStepsE P Hp ops (o :: l) rs T H T' H' ∧ K T' H' := by
      intro r ob h1 h2
      obtain ⟨rs, T', H', h3, h4⟩ := aheff_steps l _ _ h2
      exact ⟨(r, ob) :: rs, T', H', ⟨r, ob, rs, rfl, h1, h3⟩, h4⟩
    simp only [aheff] at h
    split at h
    · exact h.elim
    · rename_i hg
      split at h
      · rename_i φ r hp
        exact go r none (by simp only [HStepE, hg, hp]; exact ⟨fun _ => h.1, rfl, trivial⟩) h.2
      · rename_i hp
        split at h
        · rename_i φ r H' hn
          exact go r (some H') (by simp only [HStepE, hg, hp]; exact .inl ⟨trivial, φ, H', hn, h.1, rfl⟩) h.2
        · split at h
          · rename_i φ r hi
            exact go r none (by simp only [HStepE, hg, hp]; exact .inr (.inl ⟨trivial, rfl, φ, hi, h.1⟩)) h.2
          · split at h
            · rename_i φ f args hc
              obtain ⟨h1, r, h2, h3⟩ := h
              exact go r none (by simp only [HStepE, hg, hp]; exact .inr (.inr ⟨trivial, .inr ⟨φ, f, args, r, hc, fun _ => h1, fun _ => h2, rfl⟩⟩)) h3
            · exact h.elim
    · rename_i c hg
      split at h
      · rename_i φ r hp
        exact go (.gv c r) none (by simp only [HStepE, hg, hp]; exact ⟨h.1, rfl, trivial⟩) h.2
      · rename_i hp
        split at h
        · rename_i φ f args hc
          obtain ⟨h1, r, h2, h3⟩ := h
          exact go (.gv c r) none (by simp only [HStepE, hg, hp]; exact .inr (.inr ⟨trivial, .inr ⟨φ, f, args, r, hc, h1, h2, rfl⟩⟩)) h3
        · exact go (.gv c .any) none (by simp only [HStepE, hg, hp]; exact .inr (.inr ⟨trivial, .inl ⟨h.1, .any, rfl⟩⟩)) h.2
theorem aheff_mono {Hp : AH} {ops : Array Oper} {K K' : Tm → AH → Prop} (hk : ∀ T H, K T H → K' T H) : ∀ (l : List Oper) (T : Tm) (H : AH), aheff P Hp ops l K T H → aheff P Hp ops l K' T H
  | [], T, H, h => hk T H h
  | o :: l, T, H, h => by
    simp only [aheff] at h ⊢
    split at h
    · exact h
    · split at h
      · exact ⟨h.1, aheff_mono hk l _ _ h.2⟩
      · split at h
        · exact ⟨h.1, aheff_mono hk l _ _ h.2⟩
        · split at h
          · exact ⟨h.1, aheff_mono hk l _ _ h.2⟩
          · split at h
            · obtain ⟨k1, r, k2, k3⟩ := h
              exact ⟨k1, r, k2, aheff_mono hk l _ _ k3⟩
            · exact h
    · split at h
      · exact ⟨h.1, aheff_mono hk l _ _ h.2⟩
      · split at h
        · obtain ⟨k1, r, k2, k3⟩ := h
          exact ⟨k1, r, k2, aheff_mono hk l _ _ k3⟩
        · exact ⟨h.1, aheff_mono hk l _ _ h.2⟩
theorem aapp_congr {Hp : AH} {T T' : Tm} {op : Op} (h : ∀ x ∈ op.operands.toList, ev T x = ev T' x) : aapp P Hp T H op = aapp P Hp T' H op := by
  cases op <;> try rfl
  rename_i c
  obtain ⟨callee, args, ts⟩ := c
  cases callee with
  | builtin b =>
    have h1 : ∀ x ∈ args.toList, ev T x = ev T' x := fun x hx => h x (by simpa [Op.operands, Call.operands] using hx)
    cases b <;> try rfl
    simp only [aapp]
    split
    · rename_i x y t t' hx hts
      have hxx := h1 x (by rw [hx]; simp)
      have hyy := h1 y (by rw [hx]; simp)
      simp only [hxx, hyy, gokL]
    · rfl
  | _ => rfl
theorem hstepE_congr {Hp : AH} {ops : Array Oper} {T T' : Tm} {o : Oper} {r : AV} {ob : Option AH} (h : ∀ t ∈ o.looksAt ops, tget T t = tget T' t) (hs : HStepE P Hp ops T H o r ob) : HStepE P Hp ops T' H o r ob := by
  have he : ∀ x ∈ o.op.operands.toList, ev T x = ev T' x := by
    intro x hx
    cases x with
    | tmp t => exact h t (List.mem_append_left _ (List.mem_filterMap.2 ⟨.tmp t, hx, rfl⟩))
    | const v => rfl
    | global g => rfl
    | func f => rfl
  have hg : gcond ops T o = gcond ops T' o := by
    unfold gcond
    cases hgd : o.guard with
    | none => rfl
    | some gw =>
      obtain ⟨j, want⟩ := gw
      simp only []
      cases hd : (ops[j]?).bind (·.dst) with
      | none => rfl
      | some d =>
        have := h d (List.mem_append_right _ (by simp [hgd, hd]))
        simp only [this]
  unfold HStepE at *
  rw [← hg, ← apure_congr he, ← aapp_congr he, ← aimm_congr he, ← acallee_congr he]
  exact hs
def HE (H0 : AH) (en : Nat → Option AH) (p : Nat → Bool) : Nat → AH
  | 0 => H0
  | k + 1 => if p k then (en k).getD (HE H0 en p k) else HE H0 en p k
theorem HE_congr {H0 : AH} {en : Nat → Option AH} {p q : Nat → Bool} : ∀ n, (∀ k, k < n → (en k).isSome = true → p k = q k) → HE H0 en p n = HE H0 en q n
  | 0, _ => rfl
  | n + 1, h => by
    have ih := HE_congr (H0 := H0) (en := en) (p := p) (q := q) n fun k hk => h k (by omega)
    simp only [HE, ih]
    cases he : en n with
    | none => simp
    | some x => rw [h n (by omega) (by rw [he]; rfl)]
theorem HE_upto {H0 : AH} {en : Nat → Option AH} {j : Nat} : ∀ n, j ≤ n → HE H0 en (fun i => decide (i < j)) n = HE H0 en (fun _ => true) j
  | 0, h => by
    obtain rfl : j = 0 := by omega
    rfl
  | n + 1, h => by
    by_cases e : j = n + 1
    · subst e
      exact HE_congr (n + 1) fun k hk _ => by simp [hk]
    · rw [HE, HE_upto n (by omega), if_neg (by simp; omega)]
theorem HE_put {H0 : AH} {en : Nat → Option AH} {p : Nat → Bool} {i : Nat} {H' : AH} (hi : en i = some H') : ∀ n, i < n → (∀ k, i < k → k < n → (en k).isSome = true → p k = false) → HE H0 en (fun k => p k || decide (k = i)) n = H'
  | 0, h, _ => by omega
  | n + 1, h, hl => by
    by_cases e : i = n
    · subst e
      simp only [HE, decide_true, Bool.or_true, if_true, hi, Option.getD_some]
    · have ih := HE_put (H0 := H0) hi n (by omega) fun k h1 h2 => hl k h1 (by omega)
      simp only [HE, ih]
      cases he : en n with
      | none => simp
      | some x =>
        rw [hl n (by omega) (by omega) (by rw [he]; rfl)]
        have : decide (n = i) = false := by simp; omega
        rw [this]
        rfl
theorem HE_none {H0 : AH} {en : Nat → Option AH} {p : Nat → Bool} {i : Nat} (hi : en i = none) (n : Nat) : HE H0 en (fun k => p k || decide (k = i)) n = HE H0 en p n :=
  HE_congr n fun k _ hs => by
    have : k ≠ i := by intro e; subst e; rw [hi] at hs; cases hs
    simp [this]
def rE (rs : List (AV × Option AH)) (k : Nat) : AV := ((rs[k]?).map (·.1)).getD .any
def oE (rs : List (AV × Option AH)) (k : Nat) : Option AH := (rs[k]?).bind (·.2)
theorem stepsE_at {Hp : AH} {ops : Array Oper} : ∀ {l : List Oper} {rs : List (AV × Option AH)} {T : Tm} {H : AH} {T' : Tm} {H' : AH}, HStepsE P Hp ops l rs T H T' H' →
    (∀ k o, l[k]? = some o → HStepE P Hp ops (TD T (dL l) (rE rs) (fun _ => true) k) (HE H (oE rs) (fun _ => true) k) o (rE rs k) (oE rs k)) ∧ T' = TD T (dL l) (rE rs) (fun _ => true) l.length ∧ H' = HE H (oE rs) (fun _ => true) l.length
  | [], rs, T, H, T', H', h => by
    obtain ⟨rfl, rfl, rfl⟩ := h
    exact ⟨fun k o h => by simp at h, rfl, rfl⟩
  | o :: l, rs, T, H, T', H', h => by
    obtain ⟨r, ob, rs', rfl, h1, h2⟩ := h
    obtain ⟨h3, h4, h5⟩ := stepsE_at h2
    have hT : ∀ k, TD (tput T o.dst r) (dL l) (rE rs') (fun _ => true) k = TD T (dL (o :: l)) (rE ((r, ob) :: rs')) (fun _ => true) (k + 1) := fun k => by
      have := TD_shift (T := T) (dst := dL (o :: l)) (r := rE ((r, ob) :: rs')) k
      exact this
    have hH : ∀ k, HE (ob.getD H) (oE rs') (fun _ => true) k = HE H (oE ((r, ob) :: rs')) (fun _ => true) (k + 1) := by
      intro k
      induction k with
      | zero => simp [HE, oE]
      | succ k ih => rw [HE, HE, ih]; simp [oE]
    refine ⟨fun k o' ho' => ?_, ?_, ?_⟩
    · cases k with
      | zero =>
        simp only [List.getElem?_cons_zero, Option.some.injEq] at ho'
        subst ho'
        exact h1
      | succ k =>
        have := h3 k o' (by simpa using ho')
        rw [hT, hH] at this
        exact this
    · rw [h4, hT, List.length_cons]
    · rw [h5, hH, List.length_cons]
theorem growOk_spec {ops : Array Oper} {n : Nat} (h : growOk ops n = true) : ∀ i j, i < j → j < n → apps ops i = true → apps ops j = true → waits ops j i = true := by
  intro i j hij hjn hi hj
  have h1 := List.all_eq_true.1 h j (List.mem_range.2 hjn)
  rw [hj, Bool.not_true, Bool.false_or] at h1
  have h2 := List.all_eq_true.1 h1 i (List.mem_range.2 hij)
  rw [hi, Bool.not_true, Bool.false_or] at h2
  exact h2
theorem aheff_ok {ρ0 : Nat → Option Nat} {Hb : AH} {w0 : World} {N : Nat} {ops : Array Oper} {n : Nat} {K : Tm → AH → Prop} {Q : Exit → Act → World → Prop} (hk : HeadOk ops n) (hgr : growOk ops n = true) (hd : ∀ o ∈ ops.toList, ∀ d, o.dst = some d → d < N)
    {T0 : Tm} {H0 Hp : AH} (hp0 : ∀ j o, Hp.obj j = some o → H0.obj j = some o) (h : aheff P Hp ops (ops.toList.take n) K T0 H0)
    (htail : ∀ a w, Conc ρ0 Hb w0 N K a w → wpAny P .any ops Q (ops.size - n) (tailStart n ops.size) a w)
    {ρs : Nat → Option Nat} {a : Act} (hT : RepT ρs H0 w T0 a.tmps) (hh : Holds ρs H0 w) (hbase : Ext ρ0 Hb w0 ρs H0 w) (hdf : a.defers = []) (hN : a.tmps.size = N) :
    wpAny P .any ops Q ops.size (Array.replicate ops.size false) a w := by
  obtain ⟨rs, T', H', hst, hK⟩ := aheff_steps _ _ _ h
  obtain ⟨hsteps, hT', hH'⟩ := stepsE_at hst
  have hlen : (ops.toList.take n).length = n := by have := hk.le; simp; omega
  rw [hlen] at hT' hH'
  generalize hdst : dL (ops.toList.take n) = dst at *
  generalize hrr : rE rs = r at *
  generalize hoo : oE rs = en at *
  have hops : ∀ (k : Nat) o, k < n → ops[k]? = some o → (ops.toList.take n)[k]? = some o ∧ dst k = o.dst := by
    intro k o hkn ho
    have h1 : (ops.toList.take n)[k]? = some o := by rw [List.getElem?_take, if_pos hkn, Array.getElem?_toList]; exact ho
    exact ⟨h1, by rw [← hdst]; simp [dL, h1]⟩
  have hget : ∀ k, k < n → ∃ o, ops[k]? = some o := fun k hkn => ⟨_, Array.getElem?_eq_getElem (by have := hk.le; omega)⟩
  -- what grows is one that grows a row
  have hgrow : ∀ k, k < n → (en k).isSome = true → apps ops k = true := by
    intro k hkn hs
    obtain ⟨ok, hok⟩ := hget k hkn
    have hs' := hsteps k ok (hops k ok hkn hok).1
    unfold HStepE at hs'
    split at hs'
    · exact hs'.elim
    · split at hs'
      · rw [hs'.2.2] at hs; cases hs
      · rcases hs' with ⟨_, φ, H'', h1, _, _⟩ | ⟨h1, _⟩ | ⟨h1, _⟩
        · unfold apps; rw [hok]; exact aapp_isApp h1
        · rw [h1] at hs; cases hs
        · rw [h1] at hs; cases hs
  -- what stays
  have hstay : ∀ k, k ≤ n → H0.nxt ≤ (HE H0 en (fun _ => true) k).nxt ∧ ∀ j o, Hp.obj j = some o → (HE H0 en (fun _ => true) k).obj j = some o := by
    intro k
    induction k with
    | zero => exact fun _ => ⟨Nat.le_refl _, hp0⟩
    | succ k ih =>
      intro hkn
      obtain ⟨ih1, ih2⟩ := ih (by omega)
      simp only [HE, if_true]
      cases he : en k with
      | none => exact ⟨ih1, ih2⟩
      | some H2 =>
        simp only [Option.getD_some]
        obtain ⟨ok, hok⟩ := hget k (by omega)
        have hs' := hsteps k ok (hops k ok (by omega) hok).1
        unfold HStepE at hs'
        split at hs'
        · exact hs'.elim
        · split at hs'
          · rw [he] at hs'; cases hs'.2.2
          · rcases hs' with ⟨_, φ, H'', h1, h2, h3⟩ | ⟨h1, _⟩ | ⟨h1, _⟩
            · rw [he] at h3
              injection h3 with h3
              subst h3
              obtain ⟨q1, q2⟩ := aapp_low h1 h2
              exact ⟨by omega, fun j o hj => q2 j o (by have := hh.lt j o (hp0 j o hj); omega) hj (ih2 j o hj)⟩
            · rw [he] at h1; cases h1
            · rw [he] at h1; cases h1
  -- the invariant
  have main : ∀ (fuel : Nat) (listed : Array Bool) (a : Act) (w' : World) (ρ : Nat → Option Nat), listed.size = ops.size → (∀ k, n ≤ k → listed.getD k false = false) →
      fuel + count (fun k => listed.getD k false) n = ops.size →
      RepT ρ (HE H0 en (fun k => listed.getD k false) n) w' (TD T0 dst r (fun k => listed.getD k false) n) a.tmps →
      Holds ρ (HE H0 en (fun k => listed.getD k false) n) w' → Ext ρs H0 w ρ (HE H0 en (fun k => listed.getD k false) n) w' → a.defers = [] → a.tmps.size = N →
      (∀ (k : Nat) o, ops[k]? = some o → listed.getD k false = true → ∀ e ∈ o.after, Region.binds .any e = true → listed.getD e.on false = true) → wpAny P .any ops Q fuel listed a w' := by
    intro fuel
    induction fuel with
    | zero =>
      intro listed a w' ρ hsz htl hfc hrep hho hext hdf hN hdown
      have hcl := count_le (fun k => listed.getD k false) n
      have hnn : n = ops.size := by have := hk.le; omega
      have hall := count_all (p := fun k => listed.getD k false) (n := n) (by omega)
      have e1 : HE H0 en (fun k => listed.getD k false) n = H' := by rw [HE_congr (q := fun _ => true) n fun k hk _ => hall k hk, hH']
      have e2 : TD T0 dst r (fun k => listed.getD k false) n = T' := by rw [TD_congr (q := fun _ => true) n hall, hT']
      have e3 : listed = tailStart n ops.size := by
        apply Array.ext
        · simp [tailStart, hsz]
        · intro k h1 h2
          have := hall k (by omega)
          simp only [Array.getD_eq_getD_getElem?, Array.getElem?_eq_getElem h1, Option.getD_some] at this
          rw [this]
          simp [tailStart]
          omega
      rw [e1] at hrep hho hext
      rw [e2] at hrep
      rw [e3]
      have := htail a w' ⟨T', H', ρ, hK, hrep, hho, hbase.trans hext, hdf, hN⟩
      rwa [show ops.size - n = 0 by omega] at this
    | succ fuel ih =>
      intro listed a w' ρ hsz htl hfc hrep hho hext hdf hN hdown
      have hcl := count_le (fun k => listed.getD k false) n
      by_cases hcn : count (fun k => listed.getD k false) n = n
      · have hall := count_all (p := fun k => listed.getD k false) (n := n) hcn
        have e1 : HE H0 en (fun k => listed.getD k false) n = H' := by rw [HE_congr (q := fun _ => true) n fun k hk _ => hall k hk, hH']
        have e2 : TD T0 dst r (fun k => listed.getD k false) n = T' := by rw [TD_congr (q := fun _ => true) n hall, hT']
        have e3 : listed = tailStart n ops.size := by
          apply Array.ext
          · simp [tailStart, hsz]
          · intro k h1 h2
            by_cases hkn : k < n
            · have := hall k hkn
              simp only [Array.getD_eq_getD_getElem?, Array.getElem?_eq_getElem h1, Option.getD_some] at this
              rw [this]
              simp [tailStart, hkn]
            · have := htl k (by omega)
              simp only [Array.getD_eq_getD_getElem?, Array.getElem?_eq_getElem h1, Option.getD_some] at this
              rw [this]
              simp [tailStart, hkn]
        rw [e1] at hrep hho hext
        rw [e2] at hrep
        rw [e3]
        have := htail a w' ⟨T', H', ρ, hK, hrep, hho, hbase.trans hext, hdf, hN⟩
        rwa [show ops.size - n = fuel + 1 by omega] at this
      · obtain ⟨j, hjn, hj0, hjall⟩ := exists_least_false (p := fun k => listed.getD k false) (n := n) (by omega)
        refine ⟨fun hr => ?_, fun i hi => ?_⟩
        · obtain ⟨o, ho⟩ := hget j hjn
          have : j ∈ Region.ready .any ops listed := by
            rw [mem_ready]
            refine ⟨?_, o, ho, fun e he hb => hjall _ (hk.back j o ho e he hb)⟩
            have hlt : j < listed.size := by rw [hsz]; have := hk.le; omega
            simp only [Array.getD_eq_getD_getElem?, Array.getElem?_eq_getElem hlt, Option.getD_some] at hj0 ⊢
            exact hj0
          rw [hr] at this
          cases this
        · rw [mem_ready] at hi
          obtain ⟨hi0, o, ho, hio⟩ := hi
          have his : i < ops.size := (Array.getElem?_eq_some_iff.1 ho).1
          have hi0' : listed.getD i false = false := by
            have hlt : i < listed.size := by rw [hsz]; exact his
            simp only [Array.getD_eq_getD_getElem?, Array.getElem?_eq_getElem hlt, Option.getD_some] at hi0 ⊢
            exact hi0
          have hin : i < n := by
            rcases Nat.lt_or_ge i n with h | h
            · exact h
            · have := reach_listed (listed := fun k => listed.getD k false) ho (fun e he hb => hio e he hb) hdown (hk.tail j i hjn h his)
              have hj0' : listed.getD j false = false := hj0
              rw [hj0'] at this
              cases this
          obtain ⟨hl, hdi⟩ := hops i o hin ho
          have hwait : ∀ k, waits ops i k = true → listed.getD k false = true := by
            intro k hw
            obtain ⟨o', ho', e, he, hb, heq⟩ := waits_spec hw
            rw [ho] at ho'
            injection ho' with ho'
            subst ho'
            rw [← heq]
            exact hio e he hb
          have hnot : ∀ k, waits ops k i = true → k < n → listed.getD k false = false := by
            intro k hw hkn
            obtain ⟨ok, hok⟩ := hget k hkn
            cases hlk : listed.getD k false with
            | false => rfl
            | true =>
              exfalso
              obtain ⟨o', ho', e, he, hb, heq⟩ := waits_spec hw
              rw [hok] at ho'
              injection ho' with ho'
              subst ho'
              have := hdown k ok hok hlk e he hb
              rw [heq, hi0'] at this
              cases this
          -- what stands in the slots that it looks at
          have hwr : ∀ k, k < n → k ≠ i → ∀ d, dst k = some d → (d ∈ o.looksAt ops ∨ o.dst = some d) → (k < i → listed.getD k false = true) ∧ (i < k → listed.getD k false = false) := by
            intro k hkn hne d hd' hlook
            obtain ⟨ok, hok⟩ := hget k hkn
            have hdk := (hops k ok hkn hok).2
            rw [hdk] at hd'
            constructor
            · intro hlt
              rcases hk.head k i o ok hlt hin hok ho with hap | hw
              · obtain ⟨a1, a2, _⟩ := Oper.apart_spec hap
                rcases hlook with h | h
                · exact absurd h (a1 d hd')
                · exact absurd h (a2 d hd')
              · exact hwait k hw
            · intro hlt
              rcases hk.head i k ok o hlt hkn ho hok with hap | hw
              · obtain ⟨_, a2, a3⟩ := Oper.apart_spec hap
                rcases hlook with h | h
                · exact absurd h (a3 d hd')
                · exact absurd hd' (a2 d h)
              · exact hnot k hw hkn
          have hs := hsteps i o hl
          have hp' : (fun k => (listed.setIfInBounds i true).getD k false) = fun k => listed.getD k false || decide (k = i) := by
            funext k
            by_cases hki : k = i
            · subst hki
              have hlt : k < listed.size := by rw [hsz]; exact his
              simp [Array.getD_eq_getD_getElem?, hlt]
            · rw [getD_set_ne false (Ne.symm hki)]
              simp [hki]
          -- the heap, told by the first that is not yet done
          have hheap : ∃ q, q ≤ n ∧ HE H0 en (fun k => listed.getD k false) n = HE H0 en (fun _ => true) q := by
            by_cases hex : ∃ k, k < n ∧ (en k).isSome = true ∧ listed.getD k false = false
            · have hleast : ∀ m, m ≤ n → (∃ k, k < m ∧ (en k).isSome = true ∧ listed.getD k false = false) → ∃ k, k < n ∧ (en k).isSome = true ∧ listed.getD k false = false ∧ ∀ k', k' < k → (en k').isSome = true → listed.getD k' false = true := by
                intro m
                induction m with
                | zero => rintro _ ⟨k, hk, _⟩; omega
                | succ m ihm =>
                  rintro hm ⟨k, hk1, hk2, hk3⟩
                  by_cases hlow : ∃ k, k < m ∧ (en k).isSome = true ∧ listed.getD k false = false
                  · exact ihm (by omega) hlow
                  · have hkm : k = m := by
                      rcases Nat.lt_or_ge k m with h | h
                      · exact absurd ⟨k, h, hk2, hk3⟩ hlow
                      · omega
                    subst hkm
                    refine ⟨k, by omega, hk2, hk3, fun k' hk' hs' => ?_⟩
                    cases hlk : listed.getD k' false with
                    | true => rfl
                    | false => exact absurd ⟨k', hk', hs', hlk⟩ hlow
              obtain ⟨q, hq1, hq2, hq3, hq4⟩ := hleast n (Nat.le_refl _) hex
              refine ⟨q, by omega, ?_⟩
              rw [← HE_upto (H0 := H0) (en := en) n (show q ≤ n by omega)]
              refine HE_congr n fun k hkn hsk => ?_
              rcases Nat.lt_trichotomy k q with h | h | h
              · rw [hq4 k h hsk]; simp [h]
              · subst h; rw [hq3]; simp
              · have hw := growOk_spec hgr q k h hkn (hgrow q hq1 hq2) (hgrow k hkn hsk)
                have : listed.getD k false = false := by
                  cases hlk : listed.getD k false with
                  | false => rfl
                  | true =>
                    exfalso
                    obtain ⟨ok, hok⟩ := hget k hkn
                    obtain ⟨o', ho', e, he, hb, heq⟩ := waits_spec hw
                    rw [hok] at ho'
                    injection ho' with ho'
                    subst ho'
                    have := hdown k ok hok hlk e he hb
                    rw [heq, hq3] at this
                    cases this
                rw [this]; simp; omega
            · refine ⟨n, Nat.le_refl _, HE_congr n fun k hkn hsk => ?_⟩
              cases hlk : listed.getD k false with
              | true => rfl
              | false => exact absurd ⟨k, hkn, hsk, hlk⟩ hex
          have hsub : ∀ j o', Hp.obj j = some o' → (HE H0 en (fun k => listed.getD k false) n).obj j = some o' := by
            obtain ⟨q, hq1, hq2⟩ := hheap
            rw [hq2]
            exact (hstay q hq1).2
          have htm : ∀ t ∈ o.looksAt ops, tget (TD T0 dst r (fun _ => true) i) t = tget (TD T0 dst r (fun k => listed.getD k false) n) t := by
            intro t ht
            rw [← TD_upto (T0 := T0) (dst := dst) (r := r) n (Nat.le_of_lt hin)]
            refine TD_agree n fun k hkn hdk => ?_
            by_cases hki : k = i
            · subst hki
              simp only [Nat.lt_irrefl, decide_false]
              exact hi0'.symm
            · obtain ⟨h1, h2⟩ := hwr k hkn hki t hdk (.inl ht)
              rcases Nat.lt_or_gt_of_ne hki with h | h
              · rw [h1 h]; simp [h]
              · rw [h2 h]; simp; omega
          have hs' := hstepE_congr htm hs
          have next : ∀ (x : Value) (w2 : World) (ρ2 : Nat → Option Nat), Rep ρ2 (HE H0 en (fun k => listed.getD k false || decide (k = i)) n) w2 (r i) x →
              Ext0 ρ (HE H0 en (fun k => listed.getD k false) n) w' ρ2 (HE H0 en (fun k => listed.getD k false || decide (k = i)) n) w2 →
              Holds ρ2 (HE H0 en (fun k => listed.getD k false || decide (k = i)) n) w2 → Ext ρs H0 w ρ2 (HE H0 en (fun k => listed.getD k false || decide (k = i)) n) w2 → wpAny P .any ops Q fuel (listed.setIfInBounds i true) (a.put o.dst x) w2 := by
            intro x w2 ρ2 h1 h2 h3 h4
            refine ih _ _ w2 ρ2 (by simp [hsz]) (fun k hk' => ?_) ?_ ?_ ?_ ?_ (by rw [defers_put]; exact hdf) (by rw [size_put]; exact hN) fun k ok hok hlk e he hb => ?_
            · rw [getD_set_ne false (by omega)]; exact htl k hk'
            · rw [hp', count_put (p := fun k => listed.getD k false) hi0' n hin]; omega
            · rw [hp']
              intro t
              rw [TD_put n hin hi0' fun k hik hkn hdit hdkt => ((hwr k hkn (by omega) t hdkt (.inr (by rw [← hdi]; exact hdit))).2 hik)]
              by_cases hdt : dst i = some t
              · rw [if_pos hdt]
                rw [hdi] at hdt
                have hlt : t < a.tmps.size := by rw [hN]; exact hd o (by rw [← Array.getElem?_toList] at ho; exact List.mem_of_getElem? ho) t hdt
                rw [hdt]
                have : (a.put (some t) x).tmps.getD t undef = x := by simp [Act.put, Array.getD, hlt]
                rw [this]
                exact h1
              · rw [if_neg hdt]
                rw [hdi] at hdt
                have : (a.put o.dst x).tmps.getD t undef = a.tmps.getD t undef := by
                  cases hod : o.dst with
                  | none => rfl
                  | some d =>
                    simp only [Act.put, Array.getD_eq_getD_getElem?, Array.getElem?_setIfInBounds]
                    rw [if_neg (by intro e; subst e; exact hdt hod)]
                rw [this]
                exact Rep.ext0 h2 _ _ (hrep t)
            · rw [hp']; exact h3
            · rw [hp']; exact h4
            · by_cases hki : k = i
              · subst hki
                rw [ho] at hok
                injection hok with hok
                subst hok
                exact getD_set_true (hio e he hb)
              · rw [getD_set_ne false (Ne.symm hki)] at hlk
                exact getD_set_true (hdown k ok hok hlk e he hb)
          have noobj : ∀ (x : Value) (w2 : World) (ρ2 : Nat → Option Nat), en i = none → Rep ρ2 (HE H0 en (fun k => listed.getD k false) n) w2 (r i) x → Holds ρ2 (HE H0 en (fun k => listed.getD k false) n) w2 →
              Ext ρ (HE H0 en (fun k => listed.getD k false) n) w' ρ2 (HE H0 en (fun k => listed.getD k false) n) w2 → wpAny P .any ops Q fuel (listed.setIfInBounds i true) (a.put o.dst x) w2 := by
            intro x w2 ρ2 h0 h1 h2 h3
            have e := HE_none (H0 := H0) (p := fun k => listed.getD k false) h0 n
            exact next x w2 ρ2 (by rw [e]; exact h1) (by rw [e]; exact h3.to0) (by rw [e]; exact h2) (by rw [e]; exact hext.trans h3)
          simp only [wpOp, ho]
          unfold HStepE at hs'
          split at hs'
          · exact hs'.elim
          · rename_i c hg
            have hwant : Region.wanted o (yielded ops a.tmps) = on c := by
              cases c with
              | none => exact gcond_none hg _
              | some g => exact gcond_ok hrep hg
            have off : en i = none → (∃ r', r i = mk c r') → on c = false → wpAny P .any ops Q fuel (listed.setIfInBounds i true) (a.put o.dst undef) w' := by
              rintro h0 ⟨r', h1⟩ h2
              refine noobj undef w' ρ h0 ?_ hho (Ext.refl hho)
              rw [h1]
              cases c with
              | none => cases h2
              | some g =>
                simp only [on, Option.getD_some] at h2
                subst h2
                simp only [mk, Rep]
                exact ⟨fun h => (by cases h), fun _ => trivial⟩
            have yes : ∀ {ρ2 : Nat → Option Nat} {H2 : AH} {w2 : World} {r' : AV} {x : Value}, on c = true → r i = mk c r' → Rep ρ2 H2 w2 r' x → Rep ρ2 H2 w2 (r i) x := by
              intro ρ2 H2 w2 r' x h1 h2 h3
              rw [h2]
              cases c with
              | none => exact h3
              | some g =>
                simp only [on, Option.getD_some] at h1
                subst h1
                simp only [mk, Rep]
                exact ⟨fun _ => h3, fun h => (by cases h)⟩
            split at hs'
            · rename_i φ r' hp
              obtain ⟨h1, h2, h3⟩ := hs'
              cases hon : on c with
              | true =>
                simp only [hwant, hon, if_true]
                refine .inl ?_
                obtain ⟨x, hx, hr⟩ := apure_ok hho hrep (apure_mono hsub hp) (h1 hon)
                simp only [Oper.wp, hx, Oper.upon]
                exact noobj x w' ρ h3 (yes hon h2 hr) hho (Ext.refl hho)
              | false =>
                simp only [hwant, hon, Bool.false_eq_true, if_false]
                exact off h3 ⟨r', h2⟩ hon
            · rename_i hp
              rcases hs' with ⟨rfl, φ, H2, hn, h1, h3⟩ | ⟨h2, hon, φ, hi, h1⟩ | ⟨h2, ⟨hon, r', hr'⟩ | ⟨φ, f, args, r', hc, h1, h3, h4⟩⟩
              · simp only [hwant, on, Option.getD_none, if_true]
                refine .inl ?_
                have hsi : (en i).isSome = true := by rw [h3]; rfl
                have hcur : HE H0 en (fun k => listed.getD k false) n = HE H0 en (fun _ => true) i := by
                  rw [← HE_upto (H0 := H0) (en := en) n (show i ≤ n by omega)]
                  refine HE_congr n fun k hkn hsk => ?_
                  rcases Nat.lt_trichotomy k i with h | h | h
                  · rw [hwait k (growOk_spec hgr k i h hin (hgrow k hkn hsk) (hgrow i hin hsi))]; simp [h]
                  · subst h; rw [hi0']; simp
                  · rw [hnot k (growOk_spec hgr i k h hkn (hgrow i hin hsi) (hgrow k hkn hsk)) hkn]; simp; omega
                rw [← hcur] at hn
                obtain ⟨ψ, ha1, ha2⟩ := aapp_eff hn h1
                obtain ⟨nx, w2, ρ2, x, hx, hnx, hr, k3, k4⟩ := aeff_ok hho hrep ha1 ha2
                have hHE := HE_put (H0 := H0) (p := fun k => listed.getD k false) h3 n hin fun k h hkn hsk => hnot k (growOk_spec hgr i k h hkn (hgrow i hin hsi) (hgrow k hkn hsk)) hkn
                have fin : wpAny P .any ops Q fuel (listed.setIfInBounds i true) (a.put o.dst x) w2 := by
                  refine next x w2 ρ2 ?_ ?_ ?_ ?_
                  · rw [hHE]; exact hr
                  · rw [hHE]; exact k4.to0
                  · rw [hHE]; exact k3
                  · rw [hHE]; exact hext.trans k4
                rcases hnx with rfl | ⟨rfl, rfl⟩
                · simp only [Oper.wp, hx, Oper.upon]; exact fin
                · simp only [Oper.wp, hx, Oper.upon]; exact fin
              · simp only [hwant, hon, if_true]
                refine .inl ?_
                obtain ⟨obj, x, hx, hr⟩ := aimm_ok hho hrep hi h1
                simp only [Oper.wp, hx, Oper.upon]
                exact noobj x _ ρ h2 hr (alloc_grown hho obj).1 (alloc_grown hho obj).2
              · simp only [hwant, hon, Bool.false_eq_true, if_false]
                exact off h2 ⟨r', hr'⟩ hon
              · cases hon : on c with
                | true =>
                  simp only [hwant, hon, if_true]
                  refine .inl ?_
                  obtain ⟨q1, q2⟩ := h3 hon (HE H0 en (fun k => listed.getD k false) n)
                  obtain ⟨xs, hx, hr⟩ := acall_run hrep hc (h1 hon) q1
                  simp only [Oper.wp, hx, Oper.upon]
                  refine (q2 ρ w' xs hho hr).mono ?_
                  rintro e w2 ⟨r2, H2, ρ2, x, ⟨rfl, rfl⟩, rfl, k2, k3, k4⟩
                  exact noobj x w2 ρ2 h2 (yes hon h4 k4) k2 k3
                | false =>
                  simp only [hwant, hon, Bool.false_eq_true, if_false]
                  exact off h2 ⟨r', h4⟩ hon
  -- the start
  have hH0 : HE H0 en (fun k => (Array.replicate ops.size false).getD k false) n = H0 := by
    rw [HE_congr (q := fun _ => false) n fun k _ _ => rep_false _ _]
    have : ∀ k, HE H0 en (fun _ => false) k = H0 := by
      intro k
      induction k with
      | zero => rfl
      | succ k ih => simp only [HE, ih, Bool.false_eq_true, if_false]
    exact this n
  have hT0 : TD T0 dst r (fun k => (Array.replicate ops.size false).getD k false) n = T0 := by
    rw [TD_congr (q := fun _ => false) n fun k _ => rep_false _ _]
    have : ∀ k, TD T0 dst r (fun _ => false) k = T0 := by
      intro k
      induction k with
      | zero => rfl
      | succ k ih => simp only [TD, ih, Bool.false_eq_true, if_false]
    exact this n
  have hc0 : count (fun k => (Array.replicate ops.size false).getD k false) n = 0 := by
    have : ∀ k, count (fun k => (Array.replicate ops.size false).getD k false) k = 0 := by
      intro k
      induction k with
      | zero => rfl
      | succ k ih =>
        simp only [count, ih]
        have : (Array.replicate ops.size false).getD k false = false := rep_false _ _
        rw [this]
        rfl
    exact this n
  refine main ops.size _ a w ρs (by simp) (fun k _ => rep_false _ _) (by rw [hc0]; rfl) ?_ ?_ ?_ hdf hN fun k o _ hl => ?_
  · rw [hH0, hT0]; exact hT
  · rw [hH0]; exact hh
  · rw [hH0]; exact Ext.refl hh
  · have : (Array.replicate ops.size false).getD k false = false := rep_false _ _
    rw [this] at hl
    cases hl
end Go.Sim
namespace Go.Sim
variable {P : Program} {ρ : Nat → Option Nat} {H : AH} {w : World}
def aone (P : Program) (ops : Array Oper) (i : Nat) (C : Tm → AH → Prop) (T : Tm) (H : AH) : Prop :=
  match ops[i]? with
  | some o => aops P ops [o] C T H
  | none => C T H
def aany (P : Program) (ops : Array Oper) (K : Tm → AH → Prop) : Nat → Array Bool → Tm → AH → Prop
  | 0, listed, T, H => Region.ready .any ops listed = [] ∧ K T H
  | f + 1, listed, T, H => (Region.ready .any ops listed = [] → K T H) ∧ ∀ i ∈ Region.ready .any ops listed, aone P ops i (aany P ops K f (listed.setIfInBounds i true)) T H
theorem operWp_then {o : Oper} {a : Act} {K : Act → World → Prop} {K2 : Act → World → Prop} {Q : Exit → Act → World → Prop} (h : o.wp P a w K (Exit.then K2 Q)) : o.wp P a w K Q := by
  unfold Oper.wp at *
  generalize (execOp a.eval o).run P w = r at *
  cases r with
  | ok n w' =>
    cases n <;> simp only [Oper.upon] at h ⊢ <;>
      first
        | exact h
        | (refine Calls.mono h fun e w'' he => ?_; cases e <;> exact he)
  | halt x w' => cases x <;> simp only [Oper.upon] at h ⊢ <;> exact h
theorem conc_single {ρ0 : Nat → Option Nat} {H0 : AH} {w0 : World} {N : Nat} {K K' : Tm → AH → Prop} {a : Act} (h : Conc ρ0 H0 w0 N K a w) (hk : ∀ T H, K T H → K' T H) : Conc ρ0 H0 w0 N K' a w :=
  let ⟨T, H, ρ, h1, h2⟩ := h
  ⟨T, H, ρ, hk T H h1, h2⟩
theorem aany_ok {ρ0 : Nat → Option Nat} {H0 : AH} {w0 : World} {N : Nat} {ops : Array Oper} {K : Tm → AH → Prop} {Q : Exit → Act → World → Prop} (hQ : ∀ a w, Conc ρ0 H0 w0 N K a w → Q .normal a w) (hd : ∀ o ∈ ops.toList, ∀ d, o.dst = some d → d < N) :
    ∀ (f : Nat) (listed : Array Bool) (a : Act) (w : World), Conc ρ0 H0 w0 N (aany P ops K f listed) a w → wpAny P .any ops Q f listed a w
  | 0, listed, a, w, h => by
    obtain ⟨T, H, ρ, ⟨h1, h2⟩, h3⟩ := h
    exact ⟨h1, hQ a w ⟨T, H, ρ, h2, h3⟩⟩
  | f + 1, listed, a, w, h => by
    obtain ⟨T, H, ρ, ⟨h1, h2⟩, h3⟩ := h
    refine ⟨fun hr => hQ a w ⟨T, H, ρ, h1 hr, h3⟩, fun i hi => ?_⟩
    have h4 := h2 i hi
    unfold aone at h4
    unfold wpOp
    split at h4
    · rename_i o ho
      simp only [ho]
      have hmem : o ∈ ops.toList := by rw [← Array.getElem?_toList] at ho; exact List.mem_of_getElem? ho
      have := aops_ok (P := P) (ops := ops) (Q := Exit.then (wpAny P .any ops Q f (listed.setIfInBounds i true)) Q) (ρ0 := ρ0) (H0 := H0) (w0 := w0) (N := N) (fun a w hc => aany_ok hQ hd f _ a w hc) [o] (fun o' ho' d hd' => by
        simp at ho'
        subst ho'
        exact hd o' hmem d hd') a w ⟨T, H, ρ, h4, h3⟩
      simp only [wpList] at this
      split
      · rename_i hw
        rw [if_pos hw] at this
        rcases this with h | h
        · exact .inl (operWp_then h)
        · exact .inr h
      · rename_i hw
        rw [if_neg hw] at this
        exact this
    · rename_i ho
      simp only [ho]
      exact aany_ok hQ hd f _ a w ⟨T, H, ρ, h4, h3⟩
def chainOk (ops : Array Oper) (n : Nat) : Bool :=
  (List.range ops.size).all fun j => decide (j < n) || ((List.range j).all (fun i => waits ops j i) && (match ops[j]? with | some o => o.after.toList.all fun e => !Region.binds .any e || decide (e.on < j) | none => true))
theorem ready_chain {ops : Array Oper} {n k : Nat} (hc : chainOk ops n = true) (hn : n ≤ k) (hk : k < ops.size) : Region.ready .any ops (tailStart k ops.size) = [k] := by
  have hget : ∀ j b, (tailStart k ops.size).getD j b = if j < ops.size then decide (j < k) else b := by
    intro j b
    rw [Array.getD_eq_getD_getElem?]
    by_cases hj : j < ops.size
    · simp [tailStart, hj]
    · simp [tailStart, hj]
  have hall : ∀ j ∈ Region.ready .any ops (tailStart k ops.size), j = k := by
    intro j hj
    rw [mem_ready] at hj
    obtain ⟨h0, o, ho, hall⟩ := hj
    have hjs : j < ops.size := (Array.getElem?_eq_some_iff.1 ho).1
    rw [hget, if_pos hjs] at h0
    have hkj : k ≤ j := by simpa using h0
    rcases Nat.lt_or_ge k j with h | h
    · have := List.all_eq_true.1 hc j (List.mem_range.2 hjs)
      rw [show decide (j < n) = false by simp; omega] at this
      simp only [Bool.false_or, Bool.and_eq_true] at this
      have hw := List.all_eq_true.1 this.1 k (List.mem_range.2 h)
      obtain ⟨o', ho', e, he, hb, heq⟩ := waits_spec hw
      rw [ho] at ho'
      injection ho' with ho'
      subst ho'
      have := hall e he hb
      rw [heq, hget, if_pos hk] at this
      simp at this
    · omega
  have hmem : k ∈ Region.ready .any ops (tailStart k ops.size) := by
    rw [mem_ready]
    refine ⟨by rw [hget, if_pos hk]; simp, ops[k], Array.getElem?_eq_getElem hk, fun e he hb => ?_⟩
    have := List.all_eq_true.1 hc k (List.mem_range.2 hk)
    rw [show decide (k < n) = false by simp; omega] at this
    simp only [Bool.false_or, Bool.and_eq_true, Array.getElem?_eq_getElem hk] at this
    have h2 := List.all_eq_true.1 this.2 e (by simpa using he)
    have h3 : e.on < k := by simpa [hb] using h2
    rw [hget, if_pos (by omega)]
    simpa using h3
  have hnd : (Region.ready .any ops (tailStart k ops.size)).Nodup := List.Nodup.sublist List.filter_sublist List.nodup_range
  cases hl : Region.ready .any ops (tailStart k ops.size) with
  | nil => rw [hl] at hmem; cases hmem
  | cons x l =>
    rw [hl] at hall hnd
    have hx := hall x (by simp)
    subst hx
    cases l with
    | nil => rfl
    | cons y l =>
      have hy := hall y (by simp)
      subst hy
      simp at hnd
theorem tailStart_set {k m : Nat} (hk : k < m) : (tailStart k m).setIfInBounds k true = tailStart (k + 1) m := by
  apply Array.ext
  · simp [tailStart]
  · intro j h1 h2
    simp only [tailStart, Array.size_setIfInBounds, Array.size_map, Array.size_range] at h1
    rw [Array.getElem_setIfInBounds]
    · simp only [tailStart, Array.getElem_map, Array.getElem_range]
      by_cases e : k = j
      · subst e; simp
      · rw [if_neg e]
        have : (j < k) ↔ (j < k + 1) := by omega
        simp [this]
    · simpa [tailStart] using h1
theorem ready_done {ops : Array Oper} : Region.ready .any ops (tailStart ops.size ops.size) = [] := by
  rw [List.eq_nil_iff_forall_not_mem]
  intro j hj
  rw [mem_ready] at hj
  obtain ⟨h0, o, ho, _⟩ := hj
  have hjs : j < ops.size := (Array.getElem?_eq_some_iff.1 ho).1
  rw [Array.getD_eq_getD_getElem?] at h0
  simp [tailStart, hjs] at h0
theorem aops_one {ops : Array Oper} {o : Oper} {l : List Oper} {K : Tm → AH → Prop} {T : Tm} {H : AH} (h : aops P ops (o :: l) K T H) : aops P ops [o] (aops P ops l K) T H := by
  simp only [aops] at h ⊢
  exact h
theorem aany_chain {ops : Array Oper} {n : Nat} {K : Tm → AH → Prop} (hc : chainOk ops n = true) : ∀ (f k : Nat) (T : Tm) (H : AH), n ≤ k → f + k = ops.size → aops P ops (ops.toList.drop k) K T H → aany P ops K f (tailStart k ops.size) T H
  | 0, k, T, H, hn, hf, h => by
    obtain rfl : k = ops.size := by omega
    refine ⟨ready_done, ?_⟩
    rw [List.drop_of_length_le (by simp)] at h
    exact h
  | f + 1, k, T, H, hn, hf, h => by
    have hk : k < ops.size := by omega
    have hr := ready_chain hc hn hk
    refine ⟨fun h0 => (by rw [hr] at h0; cases h0), fun i hi => ?_⟩
    rw [hr] at hi
    obtain rfl : i = k := by simpa using hi
    have ho : ops[i]? = some ops[i] := Array.getElem?_eq_getElem hk
    simp only [aone, ho]
    have hd : ops.toList.drop i = ops[i] :: ops.toList.drop (i + 1) := by
      rw [List.drop_eq_getElem_cons (by simpa using hk)]
      rfl
    rw [hd] at h
    have h1 := aops_one h
    have mono : ∀ {K1 K2 : Tm → AH → Prop} {T : Tm} {H : AH}, (∀ T H, K1 T H → K2 T H) → aops P ops [ops[i]] K1 T H → aops P ops [ops[i]] K2 T H := by
      intro K1 K2 T H hk h
      simp only [aops] at h ⊢
      split at h
      · exact h
      · split at h
        · exact ⟨h.1, hk _ _ h.2⟩
        · split at h
          · exact ⟨h.1, hk _ _ h.2⟩
          · split at h
            · exact ⟨h.1, h.2.mono fun r H' hr => hk _ _ hr⟩
            · split at h
              · exact ⟨h.1, fun b hb => hk _ _ (h.2 b hb)⟩
              · split at h
                · exact ⟨h.1, fun x hx => hk _ _ (h.2 x hx)⟩
                · exact h
      · split at h
        · exact ⟨h.1, hk _ _ h.2⟩
        · exact GLeaf.mono hk h
    refine mono (fun T H h => ?_) h1
    rw [tailStart_set hk]
    exact aany_chain hc f (i + 1) T H (by omega) (by omega) h
def AReg (P : Program) (ops : Array Oper) (K : Tm → AH → Prop) (T : Tm) (H : AH) : Prop :=
  (∃ (im : List Nat) (n : Nat), headOk ops n = true ∧ ahead P im ops H (ops.toList.take n) (aany P ops K (ops.size - n) (tailStart n ops.size)) T H) ∨
  ∃ (Hp : AH) (n : Nat), headOk ops n = true ∧ growOk ops n = true ∧ (∀ j o, Hp.obj j = some o → H.obj j = some o) ∧ aheff P Hp ops (ops.toList.take n) (aany P ops K (ops.size - n) (tailStart n ops.size)) T H
theorem areg_chain {ops : Array Oper} {K : Tm → AH → Prop} {T : Tm} {H : AH} (n : Nat) (h1 : headOk ops n = true) (h2 : chainOk ops n = true) (im : List Nat) (h : ahead P im ops H (ops.toList.take n) (aops P ops (ops.toList.drop n) K) T H) : AReg P ops K T H := by
  refine .inl ⟨im, n, h1, ?_⟩
  have mono : ∀ (l : List Oper) (T : Tm) (H1 : AH), ahead P im ops H l (aops P ops (ops.toList.drop n) K) T H1 → ahead P im ops H l (aany P ops K (ops.size - n) (tailStart n ops.size)) T H1 := by
    intro l
    induction l with
    | nil => intro T H1 h; exact aany_chain h2 _ n T H1 (Nat.le_refl _) (by have := (headOk_spec h1).le; omega) h
    | cons o l ih =>
      intro T H1 h
      simp only [ahead] at h ⊢
      split at h
      · exact h
      · split at h
        · exact ⟨h.1, ih _ _ h.2⟩
        · split at h
          · exact ⟨h.1, ih _ _ h.2⟩
          · split at h
            · exact ⟨h.1, ih _ _ h.2⟩
            · split at h
              · exact ⟨h.1, ih _ _ h.2⟩
              · split at h
                · obtain ⟨k1, r, k2, k3⟩ := h
                  exact ⟨k1, r, k2, ih _ _ k3⟩
                · exact h
      · split at h
        · exact ⟨h.1, ih _ _ h.2⟩
        · split at h
          · obtain ⟨k1, r, k2, k3⟩ := h
            exact ⟨k1, r, k2, ih _ _ k3⟩
          · rcases h with ⟨h0, h2⟩ | ⟨h0, h2⟩
            · exact .inl ⟨h0, ih _ _ h2⟩
            · split at h2
              · exact .inr ⟨h0, h2.1, ih _ _ h2.2⟩
              · split at h2
                · exact .inr ⟨h0, h2.1, ih _ _ h2.2⟩
                · exact h2.elim
  exact mono _ _ _ h
theorem aregE_chain {ops : Array Oper} {K : Tm → AH → Prop} {T : Tm} {H : AH} (Hp : AH) (n : Nat) (h1 : headOk ops n = true) (h2 : chainOk ops n = true) (h3 : growOk ops n = true) (hp : ∀ j o, Hp.obj j = some o → H.obj j = some o) (h : aheff P Hp ops (ops.toList.take n) (aops P ops (ops.toList.drop n) K) T H) : AReg P ops K T H :=
  .inr ⟨Hp, n, h1, h3, hp, aheff_mono (fun T H h => aany_chain h2 _ n T H (Nat.le_refl _) (by have := (headOk_spec h1).le; omega) h) _ _ _ h⟩
def okOps (N : Nat) (ops : Array Oper) : Bool := ops.toList.all fun o => match o.dst with | some d => decide (d < N) | none => true
def okCode (N : Nat) : Code → Bool
  | .region _ ops _ => okOps N ops
  | .seq a b => okCode N a && okCode N b
  | .cond _ a b => okCode N a && okCode N b
  | .block _ c => okCode N c
  | .loop c => okCode N c
  | .scope c => okCode N c
  | .rangeFunc _ ps a b => ps.toList.all (fun p => decide (p < N)) && okCode N a && okCode N b
  | _ => true
theorem okOps_spec {N : Nat} {ops : Array Oper} (h : okOps N ops = true) : ∀ o ∈ ops.toList, ∀ d, o.dst = some d → d < N := by
  intro o ho d hd
  have := List.all_eq_true.1 h o ho
  rw [hd] at this
  simpa using this
def thn (C : Tm → AH → Prop) (Q : Exit → Tm → AH → Prop) : Exit → Tm → AH → Prop
  | .normal, T, H => C T H
  | e, T, H => Q e T H
def inb (id : Nat) (Q : Exit → Tm → AH → Prop) : Exit → Tm → AH → Prop
  | .exit id', T, H => if id' = id then Q .normal T H else Q (.exit id') T H
  | e, T, H => Q e T H
def Wk (n0 : Nat) (R : Tm → AH → Prop) (T : Tm) (H : AH) : Prop := R T H ∨ (∃ π T' H', Weak π n0 T H T' H' ∧ R T' H') ∨ ∃ z d, tget T d = .nilS ∧ R ((d, .rsl H.nxt z 0 0) :: T) (H.add (.cells z [] 0))
theorem Wk.mono {n0 : Nat} {R R' : Tm → AH → Prop} (hr : ∀ T H, R T H → R' T H) {T : Tm} {H : AH} (h : Wk n0 R T H) : Wk n0 R' T H := by
  rcases h with h | ⟨π, T', H', h1, h2⟩ | ⟨z, d, h1, h2⟩
  · exact .inl (hr _ _ h)
  · exact .inr (.inl ⟨π, T', H', h1, hr _ _ h2⟩)
  · exact .inr (.inr ⟨z, d, h1, hr _ _ h2⟩)
def QW (n0 : Nat) (Q : Exit → Tm → AH → Prop) (e : Exit) (T : Tm) (H : AH) : Prop := Wk n0 (Q e) T H
def ALoop (n0 : Nat) (body : (Exit → Tm → AH → Prop) → Tm → AH → Prop) (Q : Exit → Tm → AH → Prop) (T : Tm) (H : AH) : Prop :=
  ∃ (I : Nat → Tm → AH → Prop) (n : Nat), Wk n0 (I n) T H ∧ ∀ n T H, I n T H → body (thn (fun T' H' => ∃ n', n' < n ∧ Wk n0 (I n') T' H') (QW n0 Q)) T H
def ASem (P : Program) (n0 : Nat) (c : Code) (Q : Exit → Tm → AH → Prop) (T : Tm) (H : AH) : Prop :=
  ∀ (ρ0 : Nat → Option Nat) (H0 : AH) (w0 : World) (N : Nat) (Qc : Exit → Act → World → Prop), H0.nxt = n0 → okCode N c = true → (∀ e a w, Conc ρ0 H0 w0 N (Q e) a w → Qc e a w) →
    ∀ a w, Conc ρ0 H0 w0 N (fun T' H' => T' = T ∧ H' = H) a w → c.wp P Qc a w
def acond (v : AV) (A B : Prop) : Prop :=
  match v with
  | .lit (.bool b) => (b = true → A) ∧ (b = false → B)
  | _ => False
def aw (P : Program) (n0 : Nat) : Code → (Exit → Tm → AH → Prop) → Tm → AH → Prop
  | .skip, Q, T, H => Q .normal T H
  | .region _ ops draw, Q, T, H => if draw then Wk n0 (AReg P ops (Q .normal)) T H else aops P ops ops.toList (Q .normal) T H
  | .seq a b, Q, T, H => aw P n0 a (thn (aw P n0 b Q) Q) T H
  | .cond c x y, Q, T, H => acond (ev T c) (aw P n0 x Q T H) (aw P n0 y Q T H)
  | .block id c, Q, T, H => aw P n0 c (inb id Q) T H
  | .loop c, Q, T, H => ALoop n0 (aw P n0 c) Q T H
  | .exit id, Q, T, H => Q (.exit id) T H
  | .goto l, Q, T, H => Q (.goto l) T H
  | .label _, Q, T, H => Q .normal T H
  | .ret, Q, T, H => Q .ret T H
  | .scope c, Q, T, H => ASem P n0 (.scope c) Q T H
  | .rangeFunc f ps x y, Q, T, H => ASem P n0 (.rangeFunc f ps x y) Q T H
  | .refuse _, _, _, _ => False
theorem conc_wk {ρ0 : Nat → Option Nat} {H0 : AH} {w0 : World} {N : Nat} {R : Tm → AH → Prop} {a : Act} (h : Conc ρ0 H0 w0 N (Wk H0.nxt R) a w) : Conc ρ0 H0 w0 N R a w := by
  obtain ⟨T, H, ρ, hR | ⟨π, T', H', hk, hR⟩ | ⟨z, d, hd, hR⟩, h1, h2, h3, h4⟩ := h
  · exact ⟨T, H, ρ, hR, h1, h2, h3, h4⟩
  · exact ⟨T', H', _, hR, repT_seal h2 hk h1, holds_weak h2 hk, ext_weak h3 hk, h4⟩
  · refine ⟨_, _, ρ, hR, fun t => ?_, h2.ghost z, h3.trans (Ext.ghost h2 _), h4⟩
    simp only [tget]
    split
    · rename_i e
      subst e
      have := h1 d
      rw [hd] at this
      simp only [Rep] at this ⊢
      exact .inr ⟨trivial, Nat.lt_succ_self _, none, this⟩
    · exact Rep.ext (Ext.ghost h2 _) _ _ (h1 t)
theorem aw_ok {n0 : Nat} (hm : P.follows .mixedOrders = true) : ∀ (c : Code) (ρ0 : Nat → Option Nat) (H0 : AH) (w0 : World) (N : Nat), H0.nxt = n0 → okCode N c = true → ∀ (Q : Exit → Tm → AH → Prop) (Qc : Exit → Act → World → Prop),
    (∀ e a w, Conc ρ0 H0 w0 N (Q e) a w → Qc e a w) → ∀ a w, Conc ρ0 H0 w0 N (aw P n0 c Q) a w → c.wp P Qc a w := by
  intro c
  induction c with
  | skip => intro ρ0 H0 w0 N _ _ Q Qc hQ a w h; exact wp_skip (hQ _ a w h)
  | label l => intro ρ0 H0 w0 N _ _ Q Qc hQ a w h; exact wp_label (hQ _ a w h)
  | exit id => intro ρ0 H0 w0 N _ _ Q Qc hQ a w h; exact wp_exit (hQ _ a w h)
  | goto l => intro ρ0 H0 w0 N _ _ Q Qc hQ a w h; exact wp_goto (hQ _ a w h)
  | ret => intro ρ0 H0 w0 N _ _ Q Qc hQ a w h; exact wp_ret (hQ _ a w h)
  | refuse s => intro ρ0 H0 w0 N _ _ Q Qc hQ a w ⟨T, H, ρ, h, _⟩; exact h.elim
  | scope c _ =>
    intro ρ0 H0 w0 N hn hok Q Qc hQ a w ⟨T, H, ρ, h, h'⟩
    exact h ρ0 H0 w0 N Qc hn hok hQ a w ⟨T, H, ρ, ⟨rfl, rfl⟩, h'⟩
  | rangeFunc f ps x y _ _ =>
    intro ρ0 H0 w0 N hn hok Q Qc hQ a w ⟨T, H, ρ, h, h'⟩
    exact h ρ0 H0 w0 N Qc hn hok hQ a w ⟨T, H, ρ, ⟨rfl, rfl⟩, h'⟩
  | seq x y ihx ihy =>
    intro ρ0 H0 w0 N hn hok Q Qc hQ a w h
    simp only [okCode, Bool.and_eq_true] at hok
    refine wp_seq (ihx ρ0 H0 w0 N hn hok.1 (thn (aw P n0 y Q) Q) _ (fun e a' w' hc => ?_) a w h)
    cases e with
    | normal => exact ihy ρ0 H0 w0 N hn hok.2 Q Qc hQ a' w' hc
    | exit id => exact hQ _ a' w' hc
    | goto l => exact hQ _ a' w' hc
    | ret => exact hQ _ a' w' hc
    | panic ch => exact hQ _ a' w' hc
    | outgrown => exact hQ _ a' w' hc
  | cond c x y ihx ihy =>
    intro ρ0 H0 w0 N hn hok Q Qc hQ a w ⟨T, H, ρ, h, h1, h2, h3⟩
    simp only [okCode, Bool.and_eq_true] at hok
    simp only [aw] at h
    unfold acond at h
    split at h
    · rename_i b hb
      have hr := rep_ev h1 c
      rw [hb] at hr
      simp only [Rep] at hr
      cases b with
      | true => exact wp_cond_true hr (ihx ρ0 H0 w0 N hn hok.1 Q Qc hQ a w ⟨T, H, ρ, h.1 rfl, h1, h2, h3⟩)
      | false => exact wp_cond_false hr (ihy ρ0 H0 w0 N hn hok.2 Q Qc hQ a w ⟨T, H, ρ, h.2 rfl, h1, h2, h3⟩)
    · exact h.elim
  | block id c ih =>
    intro ρ0 H0 w0 N hn hok Q Qc hQ a w h
    refine wp_block (ih ρ0 H0 w0 N hn hok (inb id Q) _ (fun e a' w' hc => ?_) a w h)
    cases e with
    | normal => exact hQ _ a' w' hc
    | exit id' =>
      simp only [Exit.inBlock]
      by_cases e : id' = id
      · rw [if_pos e]
        exact hQ _ a' w' (conc_single hc fun T H h => by simpa [inb, e] using h)
      · rw [if_neg e]
        exact hQ _ a' w' (conc_single hc fun T H h => by simpa [inb, e] using h)
    | goto l => exact hQ _ a' w' hc
    | ret => exact hQ _ a' w' hc
    | panic ch => exact hQ _ a' w' hc
    | outgrown => exact hQ _ a' w' hc
  | loop c ih =>
    intro ρ0 H0 w0 N hn hok Q Qc hQ a w ⟨T, H, ρ, ⟨I, n, h1, h2⟩, h3⟩
    subst hn
    refine wp_loop_ghost (fun n a w => Conc ρ0 H0 w0 N (I n) a w) n (conc_wk ⟨T, H, ρ, h1, h3⟩) fun n a w hI => ?_
    obtain ⟨T, H, ρ, hI, h4⟩ := hI
    refine ih ρ0 H0 w0 N rfl hok _ _ (fun e a' w' hc => ?_) a w ⟨T, H, ρ, h2 n T H hI, h4⟩
    cases e with
    | normal =>
      obtain ⟨T', H', ρ', ⟨n', hlt, hw⟩, h5⟩ := hc
      exact ⟨n', hlt, conc_wk ⟨T', H', ρ', hw, h5⟩⟩
    | exit id => exact hQ _ a' w' (conc_wk hc)
    | goto l => exact hQ _ a' w' (conc_wk hc)
    | ret => exact hQ _ a' w' (conc_wk hc)
    | panic ch => exact hQ _ a' w' (conc_wk hc)
    | outgrown => exact hQ _ a' w' (conc_wk hc)
  | region id ops draw =>
    intro ρ0 H0 w0 N hn hok Q Qc hQ a w hc
    have hd := okOps_spec hok
    cases draw with
    | false =>
      obtain ⟨T, H, ρ, h, h1, h2, h3, h4, h5⟩ := hc
      simp only [aw, Bool.false_eq_true, if_false] at h
      refine wp_region ?_
      have e := wpOps_eq_wpList (P := P) (Q := Qc) (ops := ops) ops.toList 0 (fun j => by rw [Nat.zero_add, Array.getElem?_toList])
      rw [Array.length_toList] at e
      rw [List.range_eq_range', e]
      exact aops_ok (hQ .normal) _ hd a w ⟨T, H, ρ, h, h1, h2, h3, h4, h5⟩
    | true =>
      subst hn
      have hc' : Conc ρ0 H0 w0 N (AReg P ops (Q .normal)) a w := conc_wk (conc_single hc fun T H h => by simpa only [aw, if_true] using h)
      obtain ⟨T, H, ρ, h, h1, h2, h3, h4, h5⟩ := hc'
      have hdr : (w.drew).heap = w.heap := rfl
      refine wp_region_any hm ?_
      rcases h with ⟨im, n, hk, hh⟩ | ⟨Hp, n, hk, hgr, hp, hh⟩
      · refine ahead_ok (ρ0 := ρ0) (Hb := H0) (w0 := w0) (N := N) (headOk_spec hk) hd hh (fun a w hc => aany_ok (hQ .normal) hd _ _ a w hc) (ρs := ρ) (w := w.drew) ?_ ?_ ?_ h4 h5
        · exact h1.ext (Ext.heap h2 rfl rfl rfl rfl)
        · exact h2.heap rfl rfl rfl rfl
        · exact h3.trans (Ext.heap h2 rfl rfl rfl rfl)
      · refine aheff_ok (ρ0 := ρ0) (Hb := H0) (w0 := w0) (N := N) (headOk_spec hk) hgr hd hp hh (fun a w hc => aany_ok (hQ .normal) hd _ _ a w hc) (ρs := ρ) (w := w.drew) ?_ ?_ ?_ h4 h5
        · exact h1.ext (Ext.heap h2 rfl rfl rfl rfl)
        · exact h2.heap rfl rfl rfl rfl
        · exact h3.trans (Ext.heap h2 rfl rfl rfl rfl)
def initT : Nat → List AV → Tm
  | _, [] => []
  | k, v :: vs => (k, v) :: initT (k + 1) vs
def ares1 (P : Program) (H : AH) (T : Tm) : ResultVar → Option (Prop × AV)
  | .tmp t => some (True, tget T t)
  | .cell a t => aload P t H (tget T a)
def aresC (p : Option (Prop × AV)) (q : Option (Prop × List AV)) : Option (Prop × List AV) :=
  match p, q with
  | some (φ, v), some (ψ, vs) => some (φ ∧ ψ, v :: vs)
  | _, _ => none
def aresL (P : Program) (H : AH) (T : Tm) : List ResultVar → Option (Prop × List AV)
  | [] => some (True, [])
  | r :: rs => aresC (ares1 P H T r) (aresL P H T rs)
def aresT : Option (Prop × List AV) → Option (Prop × AV)
  | some (φ, [v]) => some (φ, v)
  | some (φ, vs) => some (φ, .tup vs)
  | none => none
def ares (P : Program) (H : AH) (rs : List ResultVar) (T : Tm) : Option (Prop × AV) := aresT (aresL P H T rs)
def RetOk (P : Program) (n0 : Nat) (rs : List ResultVar) (K : AV → AH → Prop) (T : Tm) (H : AH) : Prop :=
  match ares P H rs T with
  | some (φ, r) => φ ∧ (K r H ∨ ∃ r' H', K r' H' ∧ ∃ π, Weak π n0 [(0, r)] H [(0, r')] H')
  | none => False
def retQ (P : Program) (n0 : Nat) (rs : List ResultVar) (K : AV → AH → Prop) : Exit → Tm → AH → Prop
  | .normal, T, H => RetOk P n0 rs K T H
  | .ret, T, H => RetOk P n0 rs K T H
  | _, _, _ => False
theorem tget_init : ∀ (k : Nat) (vs : List AV) (t : Nat), tget (initT k vs) t = if t < k then .any else (vs[t - k]?).getD .any
  | k, [], t => by simp [initT, tget]
  | k, v :: vs, t => by
    simp only [initT, tget]
    by_cases e : k = t
    · subst e; simp
    · rw [if_neg e, tget_init (k + 1) vs t]
      by_cases h : t < k
      · rw [if_pos h, if_pos (by omega)]
      · rw [if_neg h, if_neg (by omega), show t - k = (t - (k + 1)) + 1 by omega]
        simp
def resF (tmps : Array Value) : ResultVar → Sem Value
  | .tmp t => pure (tmps.getD t undef)
  | .cell a t => do loadVar t (← asAddr (tmps.getD a undef))
theorem results_eq (fn : Func) (tmps : Array Value) : results fn tmps = (do let vs ← fn.results.mapM (resF tmps); pure (if h : vs.size = 1 then vs[0] else .tuple vs)) := by
  unfold results
  congr 1
theorem aresL_ok (hh : Holds ρ H w) {T : Tm} {tmps : Array Value} (hT : RepT ρ H w T tmps) : ∀ {l : List ResultVar} {φ : Prop} {vs : List AV}, aresL P H T l = some (φ, vs) → φ →
    ∃ xs, (l.mapM (resF tmps)).run P w = .ok xs w ∧ RepL ρ H w vs xs
  | [], φ, vs, h, _ => by
    simp only [aresL, Option.some.injEq, Prod.mk.injEq] at h
    obtain ⟨_, rfl⟩ := h
    exact ⟨[], by simp, by simp only [RepL]⟩
  | r :: l, φ, vs, h, hφ => by
    simp only [aresL, aresC] at h
    split at h
    · rename_i φ1 v ψ us h1 h2
      simp only [Option.some.injEq, Prod.mk.injEq] at h
      obtain ⟨rfl, rfl⟩ := h
      obtain ⟨xs, h3, h4⟩ := aresL_ok hh hT h2 hφ.2
      have key : ∃ x, (resF tmps r).run P w = .ok x w ∧ Rep ρ H w v x := by
        cases r with
        | tmp t =>
          simp only [ares1, Option.some.injEq, Prod.mk.injEq] at h1
          obtain ⟨_, rfl⟩ := h1
          exact ⟨tmps.getD t undef, by simp only [resF, Sem.run_pure], hT t⟩
        | cell a t =>
          simp only [ares1] at h1
          have hr := hT a
          obtain ⟨y, hy, hry⟩ := aload_ok hh h1 hφ.1 hr
          have hp : ∃ A, tmps.getD a undef = .pointer (some A) := by
            generalize tget T a = u at h1 hr
            unfold aload at h1
            split at h1
            · simp only [Rep] at hr
              obtain ⟨b, _, he⟩ := hr
              exact ⟨_, he⟩
            · simp only [Rep] at hr
              obtain ⟨A, _, he, _⟩ := hr
              exact ⟨_, he⟩
            · cases h1
          obtain ⟨A, hA⟩ := hp
          rw [hA] at hy
          refine ⟨y, ?_, hry⟩
          simp only [Instr.loadAt, Instr.sureAddr, Sem.run_bind, Sem.run_pure, Result.andThen_ok] at hy
          simp only [resF, hA, asAddr, Sem.run_bind, Sem.run_pure, Result.andThen_ok]
          exact hy
      obtain ⟨x, h5, h6⟩ := key
      refine ⟨x :: xs, ?_, ?_⟩
      · simp only [List.mapM_cons, Sem.run_bind, Sem.run_pure, Result.andThen_ok, h3, h5]
      · simp only [RepL]
        exact ⟨_, _, rfl, h6, h4⟩
    · cases h
theorem ares_ok (hh : Holds ρ H w) {rs : Array ResultVar} {fn : Func} (hrs : fn.results = rs) {T : Tm} {tmps : Array Value} {φ : Prop} {r : AV} (h : ares P H rs.toList T = some (φ, r)) (hφ : φ) (hT : RepT ρ H w T tmps) :
    ∃ x, (results fn tmps).run P w = .ok x w ∧ Rep ρ H w r x := by
  have hres : ∀ xs, (rs.toList.mapM (resF tmps)).run P w = .ok xs w →
      (results fn tmps).run P w = .ok (if h : xs.toArray.size = 1 then xs.toArray[0] else .tuple xs.toArray) w := by
    intro xs hx
    rw [results_eq, hrs, Array.mapM_eq_mapM_toList]
    simp only [Sem.run_bind, Sem.run_map]
    rw [hx]
    simp only [Result.andThen_ok, Sem.run_pure]
  unfold ares aresT at h
  split at h
  · rename_i ψ v he
    simp only [Option.some.injEq, Prod.mk.injEq] at h
    obtain ⟨rfl, rfl⟩ := h
    obtain ⟨xs, h1, h2⟩ := aresL_ok hh hT he hφ
    simp only [RepL] at h2
    obtain ⟨x, ys, rfl, h3, rfl⟩ := h2
    exact ⟨x, by have := hres _ h1; simpa using this, h3⟩
  · rename_i ψ vs hne he
    simp only [Option.some.injEq, Prod.mk.injEq] at h
    obtain ⟨rfl, rfl⟩ := h
    obtain ⟨xs, h1, h2⟩ := aresL_ok hh hT he hφ
    refine ⟨_, hres xs h1, ?_⟩
    rw [dif_neg ?_]
    · simp only [Rep]
      exact ⟨xs, rfl, h2⟩
    · intro h3
      have h4 : vs.length = 1 := by rw [← h2.length]; simpa using h3
      match vs, h4 with
      | [v], _ => exact hne v rfl
  · cases h
theorem acalls_of_aw {f : FuncId} {fn : Func} {c : Code} {rs : Array ResultVar} {args : List AV} {K : AV → AH → Prop} (hf : P.funcs[f]? = some fn) (hb : fn.body = some c) (hrs : fn.results = rs) (hcall : callable P f = true) (hm : P.follows .mixedOrders = true)
    (hok : okCode fn.ntmps c = true) (hargs : args.length ≤ fn.ntmps) (h : aw P H.nxt c (retQ P H.nxt rs.toList K) (initT 0 args) H) : ACalls P f args H K := by
  refine ⟨hcall, fun ρ w xs hh hr => ?_⟩
  refine calls_of_wp hf hb ?_
  refine aw_ok hm c ρ H w fn.ntmps rfl hok _ _ (fun e a w' hc => ?_) _ w ⟨initT 0 args, H, ρ, h, ?_, hh, Ext.refl hh, rfl, ?_⟩
  · have fin : Conc ρ H w fn.ntmps (RetOk P H.nxt rs.toList K) a w' → a.defers = [] ∧ ∃ v, (results fn a.tmps).run P w' = .ok v w' ∧ ∃ r H' ρ' x, K r H' ∧ Ending.returned v = .returned x ∧ Holds ρ' H' w' ∧ Ext ρ H w ρ' H' w' ∧ Rep ρ' H' w' r x := by
      rintro ⟨T, H1, ρ1, h1, h2, h3, h4, h5, h6⟩
      unfold RetOk at h1
      split at h1
      · rename_i φ r hr
        obtain ⟨hφ, h1⟩ := h1
        obtain ⟨x, hx, hrx⟩ := ares_ok (P := P) h3 hrs hr hφ h2
        rcases h1 with hK | ⟨r', H', hK, π, hk⟩
        · exact ⟨h5, x, hx, _, _, _, x, hK, rfl, h3, h4, hrx⟩
        refine ⟨h5, x, hx, r', H', _, x, hK, rfl, holds_weak h3 hk, ext_weak h4 hk, ?_⟩
        have := repT_seal (tmps := #[x]) h3 hk (fun t => by
          simp only [tget]
          split
          · rename_i e; subst e; exact hrx
          · simp only [Rep])
        have h0 := this 0
        simpa [tget] using h0
      · exact h1.elim
    cases e with
    | normal => exact fin hc
    | ret => exact fin hc
    | exit id => obtain ⟨_, _, _, h1, _⟩ := hc; exact h1.elim
    | goto l => obtain ⟨_, _, _, h1, _⟩ := hc; exact h1.elim
    | panic ch => obtain ⟨_, _, _, h1, _⟩ := hc; exact h1.elim
    | outgrown => obtain ⟨_, _, _, h1, _⟩ := hc; exact h1.elim
  · intro t
    rw [tget_init]
    simp only [Nat.not_lt_zero, if_false, Nat.sub_zero]
    cases hv : args[t]? with
    | none => simp only [Option.getD_none, Rep]
    | some v =>
      obtain ⟨x, hx, hrx⟩ := hr.get hv
      have : (xs.toArray ++ Array.replicate (fn.ntmps - xs.toArray.size) undef).getD t undef = x := by
        rw [Array.getD_eq_getD_getElem?, Array.getElem?_append_left (by simpa using (List.getElem?_eq_some_iff.1 hx).1)]
        simp [hx]
      rw [this]
      exact hrx
  · simp only [Array.size_append, List.size_toArray, Array.size_replicate, hr.length]
    omega
end Go.Sim
namespace Go.Sim
variable {P : Program} {ρ : Nat → Option Nat} {H : AH} {w : World}
mutual
def Scoped (n : Nat) : AV → Prop
  | .lit _ => True
  | .agg cs => ScopedL n cs
  | .tup vs => ScopedL n vs
  | .sl es => ScopedLL n es
  | .esl => True
  | .rsl i _ _ _ => i < n
  | .ptr i _ _ _ => i < n
  | .iptr cs => ScopedL n cs
  | .clo _ f c => ScopedL n f ∧ ScopedL n c
  | .mp i => i < n
  | .gv g v => g = true → Scoped n v
  | .any => True
def ScopedL (n : Nat) : List AV → Prop
  | [] => True
  | v :: vs => Scoped n v ∧ ScopedL n vs
def ScopedLL (n : Nat) : List (List AV) → Prop
  | [] => True
  | v :: vs => ScopedL n v ∧ ScopedLL n vs
end
mutual
theorem scoped_of_rep (hh : Holds ρ H w) : ∀ (v : AV) (x : Value), Rep ρ H w v x → Scoped H.nxt v
  | .lit _, _, _ => by simp only [Scoped]
  | .agg cs, x, h => by
    simp only [Rep] at h
    obtain ⟨xs, _, h⟩ := h
    simp only [Scoped]
    exact scopedL_of_rep hh cs xs h
  | .tup cs, x, h => by
    simp only [Rep] at h
    obtain ⟨xs, _, h⟩ := h
    simp only [Scoped]
    exact scopedL_of_rep hh cs xs h
  | .sl es, x, h => by
    simp only [Rep] at h
    obtain ⟨_, _, _, _, _, h⟩ := h
    simp only [Scoped]
    cases es with
    | nil => simp only [ScopedLL]
    | cons e es =>
      obtain ⟨_, _, xss, _, _, h, _⟩ := h (by simp)
      exact scopedLL_of_rep hh _ xss h
  | .esl, _, _ => by simp only [Scoped]
  | .rsl i z o n, x, h => by
    simp only [Rep] at h
    simp only [Scoped]
    rcases h with ⟨b, _, _, _, _, hb, _⟩ | ⟨_, h, _⟩
    · exact (hh.bound _ _ hb).1
    · exact h
  | .ptr i z e c, x, h => by
    simp only [Rep] at h
    obtain ⟨b, hb, _⟩ := h
    simp only [Scoped]
    exact (hh.bound _ _ hb).1
  | .iptr cs, x, h => by
    simp only [Rep] at h
    obtain ⟨_, xs, _, h, _⟩ := h
    simp only [Scoped]
    exact scopedL_of_rep hh cs xs h
  | .clo fn f c, x, h => by
    simp only [Rep] at h
    obtain ⟨fs, ks, _, h1, h2⟩ := h
    simp only [Scoped]
    exact ⟨scopedL_of_rep hh f fs h1, scopedL_of_rep hh c ks h2⟩
  | .mp i, x, h => by
    simp only [Rep] at h
    obtain ⟨b, hb, _⟩ := h
    simp only [Scoped]
    exact (hh.bound _ _ hb).1
  | .gv g v, x, h => by
    simp only [Rep] at h
    simp only [Scoped]
    exact fun hg => scoped_of_rep hh v x (h.1 hg)
  | .any, _, _ => by simp only [Scoped]
theorem scopedL_of_rep (hh : Holds ρ H w) : ∀ (vs : List AV) (xs : List Value), RepL ρ H w vs xs → ScopedL H.nxt vs
  | [], _, _ => by simp only [ScopedL]
  | v :: vs, xs, h => by
    simp only [RepL] at h
    obtain ⟨y, ys, _, h1, h2⟩ := h
    simp only [ScopedL]
    exact ⟨scoped_of_rep hh v y h1, scopedL_of_rep hh vs ys h2⟩
theorem scopedLL_of_rep (hh : Holds ρ H w) : ∀ (vs : List (List AV)) (xs : List (List Value)), RepLL ρ H w vs xs → ScopedLL H.nxt vs
  | [], _, _ => by simp only [ScopedLL]
  | v :: vs, xs, h => by
    simp only [RepLL] at h
    obtain ⟨y, ys, _, h1, h2⟩ := h
    simp only [ScopedLL]
    exact ⟨scopedL_of_rep hh v y h1, scopedLL_of_rep hh vs ys h2⟩
end
mutual
theorem seal_scoped {H H' : AH} {n : Nat} (hn : n ≤ H'.nxt) : ∀ v : AV, Scoped n v → Seal some H H' v v
  | .lit v, _ => by simp only [Seal]
  | .agg cs, h => by simp only [Seal]; exact sealL_scoped hn cs h
  | .tup cs, h => by simp only [Seal]; exact sealL_scoped hn cs h
  | .sl es, h => by simp only [Seal]; exact sealLL_scoped hn es h
  | .esl, _ => by simp only [Seal]; exact .inl trivial
  | .rsl i z o k, h => by simp only [Scoped] at h; simp only [Seal]; exact .inl ⟨_, rfl, rfl, by omega⟩
  | .ptr i z e c, h => by simp only [Scoped] at h; simp only [Seal]; exact ⟨_, rfl, rfl, by omega⟩
  | .iptr cs, h => by simp only [Seal]; exact sealL_scoped hn cs h
  | .clo f a b, h => by simp only [Seal]; exact ⟨trivial, sealL_scoped hn a h.1, sealL_scoped hn b h.2⟩
  | .mp i, h => by simp only [Scoped] at h; simp only [Seal]; exact ⟨_, rfl, rfl, by omega⟩
  | .gv g v, h => by simp only [Scoped] at h; simp only [Seal]; exact ⟨trivial, fun hg => seal_scoped hn v (h hg)⟩
  | .any, _ => by simp only [Seal]
theorem sealL_scoped {H H' : AH} {n : Nat} (hn : n ≤ H'.nxt) : ∀ vs : List AV, ScopedL n vs → SealL some H H' vs vs
  | [], _ => by simp only [SealL]
  | v :: vs, h => by simp only [SealL]; exact ⟨seal_scoped hn v h.1, sealL_scoped hn vs h.2⟩
theorem sealLL_scoped {H H' : AH} {n : Nat} (hn : n ≤ H'.nxt) : ∀ vs : List (List AV), ScopedLL n vs → SealLL some H H' vs vs
  | [], _ => by simp only [SealLL]
  | v :: vs, h => by simp only [SealLL]; exact ⟨sealL_scoped hn v h.1, sealLL_scoped hn vs h.2⟩
end
mutual
theorem scoped_pure (n : Nat) : ∀ v : AV, Pure v → Scoped n v
  | .lit v, _ => by simp only [Scoped]
  | .agg cs, h => by simp only [Scoped]; exact scopedL_pure n cs h
  | .tup cs, h => by simp only [Scoped]; exact scopedL_pure n cs h
  | .sl es, h => by simp only [Scoped]; exact scopedLL_pure n es h
  | .esl, _ => by simp only [Scoped]
  | .rsl i z o k, h => by simp only [Pure] at h
  | .ptr i z e c, h => by simp only [Pure] at h
  | .iptr cs, h => by simp only [Scoped]; exact scopedL_pure n cs h
  | .clo f a b, h => by simp only [Scoped]; exact ⟨scopedL_pure n a h.1, scopedL_pure n b h.2⟩
  | .mp i, h => by simp only [Pure] at h
  | .gv g v, h => by simp only [Scoped]; exact fun _ => scoped_pure n v h
  | .any, _ => by simp only [Scoped]
theorem scopedL_pure (n : Nat) : ∀ vs : List AV, PureL vs → ScopedL n vs
  | [], _ => by simp only [ScopedL]
  | v :: vs, h => by simp only [ScopedL]; exact ⟨scoped_pure n v h.1, scopedL_pure n vs h.2⟩
theorem scopedLL_pure (n : Nat) : ∀ vs : List (List AV), PureLL vs → ScopedLL n vs
  | [], _ => by simp only [ScopedLL]
  | v :: vs, h => by simp only [ScopedLL]; exact ⟨scopedL_pure n v h.1, scopedLL_pure n vs h.2⟩
end
def ScopedO (n : Nat) : AObj → Prop
  | .cells z es fz => ScopedLL n es ∧ (∀ e ∈ es, e.length = z) ∧ fz ≤ es.length
  | .amap kvs => ScopedL n (kvs.map (·.2))
  | .amit m _ _ => m < n
  | .anit => True
def HSc (H : AH) : Prop := ∀ i o, H.obj i = some o → i < H.nxt ∧ ScopedO H.nxt o
theorem hsc_of_holds (hh : Holds ρ H w) : HSc H := by
  intro i o ho
  refine ⟨hh.lt i o ho, ?_⟩
  cases o with
  | cells z es fz =>
    simp only [ScopedO]
    rcases hh.obj i _ ho with ⟨b, ccs, t, xss, _, _, h1, h2, h3, _⟩ | ⟨_, rfl, rfl⟩
    · exact ⟨scopedLL_of_rep hh es xss h2, h1, h3⟩
    · exact ⟨by simp only [ScopedLL], by simp, by simp⟩
  | amap kvs =>
    obtain ⟨b, es, clock, _, _, _, h1, _⟩ := hh.obj i _ ho
    simp only [ScopedO]
    exact scopedL_of_rep hh _ _ h1
  | amit m n seen =>
    obtain ⟨b, bm, _, h1, _⟩ := hh.obj i _ ho
    exact (hh.bound _ _ h1).1
  | anit => trivial
theorem sealO_scoped {H H' : AH} {n : Nat} (hn : n ≤ H'.nxt) {o : AObj} (h : ScopedO n o) : SealO some H H' o o := by
  cases o with
  | cells z es fz => exact ⟨es, fz, rfl, sealLL_scoped hn es h.1, h.2.1, Nat.le_refl _, h.2.2⟩
  | amap kvs => exact ⟨kvs, rfl, rfl, sealL_scoped hn _ h⟩
  | amit m k seen => exact ⟨m, rfl, rfl, Nat.lt_of_lt_of_le h hn⟩
  | anit => rfl
def AH.plus (H : AH) (l : List (Option AObj)) : AH := { obj := fun j => if j < H.nxt then H.obj j else (l[j - H.nxt]?).join, nxt := H.nxt + l.length }
theorem plus_obj (H : AH) (l : List (Option AObj)) (k : Nat) : (H.plus l).obj (H.nxt + k) = (l[k]?).join := by
  simp only [AH.plus]
  rw [if_neg (by omega), Nat.add_sub_cancel_left]
theorem plus_nxt (H : AH) (l : List (Option AObj)) : (H.plus l).nxt = H.nxt + l.length := rfl
theorem ah_ext {A B : AH} (h : ∀ j, A.obj j = B.obj j) (hn : A.nxt = B.nxt) : A = B := by
  cases A; cases B
  simp only at h hn
  have := funext h
  subst this hn
  rfl
theorem plus_nil (hs : HSc H) : H.plus [] = H := by
  refine ah_ext (fun j => ?_) rfl
  simp only [AH.plus]
  split
  · rfl
  · rename_i h
    cases ho : H.obj j with
    | none => simp
    | some o => exact absurd (hs j o ho).1 h
theorem plus_add (H : AH) (l : List (Option AObj)) (o : AObj) : (H.plus l).add o = H.plus (l ++ [some o]) := by
  refine ah_ext (fun j => ?_) (by simp [AH.plus, AH.add, Nat.add_assoc])
  show (if j = H.nxt + l.length then some o else (H.plus l).obj j) = (H.plus (l ++ [some o])).obj j
  simp only [AH.plus]
  by_cases h : j = H.nxt + l.length
  · subst h
    rw [if_pos rfl, if_neg (by omega), Nat.add_sub_cancel_left]
    simp
  · rw [if_neg h]
    split
    · rfl
    · rename_i h2
      rw [List.getElem?_append]
      split
      · rfl
      · rw [List.getElem?_eq_none (by omega), List.getElem?_eq_none (by simp; omega)]
theorem plus_set (H : AH) (l : List (Option AObj)) (k : Nat) (o : AObj) (hk : k < l.length) : (H.plus l).set (H.nxt + k) o = H.plus (l.set k (some o)) := by
  refine ah_ext (fun j => ?_) (by simp [AH.plus, AH.set])
  simp only [AH.plus, AH.set]
  by_cases h : j = H.nxt + k
  · subst h
    rw [if_pos rfl, if_neg (by omega), Nat.add_sub_cancel_left]
    simp [hk]
  · rw [if_neg h]
    split
    · rfl
    · rw [List.getElem?_set, if_neg (by omega)]
theorem plus_del (H : AH) (l : List (Option AObj)) (k : Nat) : (H.plus l).del (H.nxt + k) = H.plus (l.set k none) := by
  refine ah_ext (fun j => ?_) (by simp [AH.plus, AH.del])
  simp only [AH.plus, AH.del]
  by_cases h : j = H.nxt + k
  · subst h
    rw [if_pos rfl, if_neg (by omega), Nat.add_sub_cancel_left, List.getElem?_set]
    simp
    split <;> rfl
  · rw [if_neg h]
    split
    · rfl
    · rw [List.getElem?_set, if_neg (by omega)]
def SealOs (H H' : AH) : List (Option AObj) → List (Option AObj) → Prop
  | _, [] => True
  | _ :: l, none :: l' => SealOs H H' l l'
  | some o :: l, some o' :: l' => SealO some H H' o o' ∧ SealOs H H' l l'
  | _, _ => False
theorem sealOs_get {H H' : AH} : ∀ {l l' : List (Option AObj)}, SealOs H H' l l' → l'.length ≤ l.length ∧ ∀ (k : Nat) (o' : AObj), l'[k]? = some (some o') → ∃ o : AObj, l[k]? = some (some o) ∧ SealO some H H' o o'
  | l, [], _ => ⟨by simp, fun k o' h => by simp at h⟩
  | [], x :: l', h => by cases x <;> simp only [SealOs] at h
  | x :: l, none :: l', h => by
    have h' : SealOs H H' l l' := by cases x <;> simpa only [SealOs] using h
    obtain ⟨h1, h2⟩ := sealOs_get h'
    refine ⟨by simpa using h1, fun k o' hk => ?_⟩
    cases k with
    | zero => simp at hk
    | succ k => simpa using h2 k o' (by simpa using hk)
  | none :: l, some o' :: l', h => by simp only [SealOs] at h
  | some o :: l, some o' :: l', h => by
    simp only [SealOs] at h
    obtain ⟨h1, h2⟩ := sealOs_get h.2
    refine ⟨by simpa using h1, fun k o'' hk => ?_⟩
    cases k with
    | zero => simp at hk; subst hk; exact ⟨o, rfl, h.1⟩
    | succ k => simpa using h2 k o'' (by simpa using hk)
theorem weak_plus (hs : HSc H) {T T' : Tm} {l l' : List (Option AObj)} (ht : SealT some (H.plus l) (H.plus l') T T') (ho : SealOs (H.plus l) (H.plus l') l l') : Weak some H.nxt T (H.plus l) T' (H.plus l') where
  low := Nat.le_add_right _ _
  fix := fun _ _ => rfl
  inj := fun i j k h1 h2 => by injection h1 with h1; injection h2 with h2; omega
  tm := ht
  lt := fun i o h => by
    simp only [AH.plus] at h ⊢
    split at h
    · omega
    · rcases Nat.lt_or_ge (i - H.nxt) l'.length with h1 | h1
      · omega
      · rw [List.getElem?_eq_none h1] at h; cases h
  ob := fun i o h => by
    by_cases hi : i < H.nxt
    · have h0 := h
      simp only [AH.plus, if_pos hi] at h
      exact .inl ⟨i, o, rfl, by simp only [AH.plus, if_pos hi]; exact h, sealO_scoped (n := H.nxt) (Nat.le_add_right _ _) (hs i o h).2⟩
    · obtain ⟨k, rfl⟩ : ∃ k, i = H.nxt + k := ⟨i - H.nxt, by omega⟩
      rw [plus_obj] at h
      cases hk : l'[k]? with
      | none => rw [hk] at h; cases h
      | some y =>
        rw [hk] at h
        simp only [Option.join_some] at h
        subst h
        obtain ⟨o0, h1, h2⟩ := (sealOs_get ho).2 k o hk
        exact .inl ⟨_, o0, rfl, by rw [plus_obj, h1]; rfl, h2⟩
theorem retok_plus (hs : HSc H) {rs : List ResultVar} {T : Tm} {l : List (Option AObj)} {r r' : AV} {K : AV → AH → Prop} {φ : Prop} (hr : ares P (H.plus l) rs T = some (φ, r)) (hφ : φ) (h : Seal some (H.plus l) H r r') (hk : K r' H) : RetOk P H.nxt rs K T (H.plus l) := by
  unfold RetOk
  rw [hr]
  refine ⟨hφ, .inr ⟨r', H, hk, some, ?_⟩⟩
  have e := plus_nil hs
  have := weak_plus (T := [(0, r)]) (T' := [(0, r')]) (l := l) (l' := []) hs (by rw [e]; simp only [SealT, tget, if_true]; exact ⟨h, trivial⟩) (by cases l <;> simp only [SealOs])
  rwa [e] at this
theorem callq {f : FuncId} {args : List AV} {r : AV} {d : Option Nat} {C : Tm → AH → Prop} {T : Tm} (hq : Quiet P f args r) (h : C (tput T d r) H) : ACallK P f args d C T H :=
  (hq H).mono fun r' H' ⟨h1, h2⟩ => by subst h1 h2; exact h
theorem gcallq {c : Bool} {f : FuncId} {args : List AV} (r : AV) {d : Option Nat} {C : Tm → AH → Prop} {T : Tm} (hq : c = true → Quiet P f args r) (h : C (tput T d (.gv c r)) H) : GCallK P c f args d C T H :=
  ⟨r, hq, h⟩
theorem ACalls.weak {f : FuncId} {args args' : List AV} {H' : AH} {K : AV → AH → Prop} (hk : Weak some H.nxt [] H [] H') (ha : SealL some H H' args args') (h : ACalls P f args' H' K) : ACalls P f args H K := by
  refine ⟨h.1, fun ρ w xs hh hr => ?_⟩
  refine (h.2 _ w xs (holds_weak hh hk) (repL_seal hh hk _ _ _ ha hr)).mono ?_
  rintro e w' ⟨r, H2, ρ2, x, h1, h2, h3, h4, h5⟩
  exact ⟨r, H2, ρ2, x, h1, h2, h3, (ext_weak (Ext.refl hh) hk).trans h4, h5⟩
theorem weak_freeze (hs : HSc H) {k z fz n : Nat} {es : List (List AV)} (hk : H.obj k = some (.cells z es fz)) (hf : fz ≤ n) (hn : n ≤ es.length) : Weak some H.nxt [] H [] (H.set k (.cells z es n)) where
  low := Nat.le_refl _
  fix := fun _ _ => rfl
  inj := fun i j k h1 h2 => by injection h1 with h1; injection h2 with h2; omega
  tm := by simp only [SealT]
  lt := fun i o h => by
    simp only [AH.set] at h ⊢
    split at h
    · rename_i e; subst e; exact (hs _ _ hk).1
    · exact (hs _ _ h).1
  ob := fun i o h => by
    simp only [AH.set] at h
    split at h
    · rename_i e
      subst e
      injection h with h
      subst h
      refine .inl ⟨_, _, rfl, hk, es, n, rfl, sealLL_scoped (n := H.nxt) (show H.nxt ≤ (H.set _ _).nxt from Nat.le_refl _) es (hs _ _ hk).2.1, (hs _ _ hk).2.2.1, hf, hn⟩
    · exact .inl ⟨_, o, rfl, h, sealO_scoped (n := H.nxt) (show H.nxt ≤ (H.set k (.cells z es n)).nxt from Nat.le_refl _) (hs _ _ h).2⟩
theorem ACalls.freeze {f : FuncId} {args args' : List AV} {K : AV → AH → Prop} {k z fz n : Nat} {es : List (List AV)} (hk : H.obj k = some (.cells z es fz)) (hf : fz ≤ n) (hn : n ≤ es.length) (ha : SealL some H (H.set k (.cells z es n)) args args')
    (h : ACalls P f args' (H.set k (.cells z es n)) K) : ACalls P f args H K := by
  refine ⟨h.1, fun ρ w xs hh hr => ?_⟩
  have hw := weak_freeze (hsc_of_holds hh) hk hf hn
  refine (h.2 _ w xs (holds_weak hh hw) (repL_seal hh hw _ _ _ ha hr)).mono ?_
  rintro e w' ⟨r, H2, ρ2, x, h1, h2, h3, h4, h5⟩
  exact ⟨r, H2, ρ2, x, h1, h2, h3, (ext_weak (Ext.refl hh) hw).trans h4, h5⟩
theorem weak_refl (hs : HSc H) : Weak some H.nxt [] H [] H where
  low := Nat.le_refl _
  fix := fun _ _ => rfl
  inj := fun i j k h1 h2 => by injection h1 with h1; injection h2 with h2; omega
  tm := by simp only [SealT]
  lt := fun i o h => (hs _ _ h).1
  ob := fun i o h => .inl ⟨_, o, rfl, h, sealO_scoped (n := H.nxt) (Nat.le_refl _) (hs _ _ h).2⟩
theorem calla {f : FuncId} {args : List AV} {d : Option Nat} {C : Tm → AH → Prop} {T : Tm} (args' : List AV) {r : AV} (hq : Quiet P f args' r) (ha : SealL some H H args args') (h : C (tput T d r) H) : ACallK P f args d C T H := by
  have hc : ACalls P f args' H fun r H' => C (tput T d r) H' := callq hq h
  refine ⟨hc.1, fun ρ w xs hh hr => ?_⟩
  have hw := weak_refl (hsc_of_holds hh)
  refine (hc.2 _ w xs (holds_weak hh hw) (repL_seal hh hw _ _ _ ha hr)).mono ?_
  rintro e w' ⟨r, H2, ρ2, x, h1, h2, h3, h4, h5⟩
  exact ⟨r, H2, ρ2, x, h1, h2, h3, (ext_weak (Ext.refl hh) hw).trans h4, h5⟩
theorem fzk (H : AH) {f : FuncId} {args : List AV} {d : Option Nat} {C : Tm → AH → Prop} {T : Tm} {l : List (Option AObj)} (k n : Nat) {z fz : Nat} {es : List (List AV)} (args' : List AV) (hk : l[k]? = some (some (.cells z es fz))) (hf : fz ≤ n) (hn : n ≤ es.length)
    (ha : SealL some (H.plus l) (H.plus (l.set k (some (.cells z es n)))) args args') (h : ACallK P f args' d C T (H.plus (l.set k (some (.cells z es n))))) : ACallK P f args d C T (H.plus l) := by
  have hlt : k < l.length := by
    rcases Nat.lt_or_ge k l.length with h | h
    · exact h
    · rw [List.getElem?_eq_none h] at hk; cases hk
  refine ACalls.freeze (k := H.nxt + k) (z := z) (fz := fz) (n := n) (es := es) (args' := args') (by rw [plus_obj, hk]; rfl) hf hn ?_ ?_
  · rw [plus_set _ _ _ _ hlt]; exact ha
  · rw [plus_set _ _ _ _ hlt]; exact h
theorem acalls_sc {f : FuncId} {fn : Func} {c : Code} {rs : Array ResultVar} {args : List AV} {K : AV → AH → Prop} (hf : P.funcs[f]? = some fn) (hb : fn.body = some c) (hrs : fn.results = rs) (hcall : callable P f = true) (hm : P.follows .mixedOrders = true)
    (hok : okCode fn.ntmps c = true) (hargs : args.length ≤ fn.ntmps) (h : HSc H → ScopedL H.nxt args → aw P H.nxt c (retQ P H.nxt rs.toList K) (initT 0 args) (H.plus [])) : ACalls P f args H K := by
  refine ⟨hcall, fun ρ w xs hh hr => ?_⟩
  have hs := hsc_of_holds hh
  have h' := h hs (scopedL_of_rep hh _ _ hr)
  rw [plus_nil hs] at h'
  exact (acalls_of_aw hf hb hrs hcall hm hok hargs h').2 ρ w xs hh hr
theorem quiet_sc {f : FuncId} {fn : Func} {c : Code} {rs : Array ResultVar} {args : List AV} {r : AV} (hf : P.funcs[f]? = some fn) (hb : fn.body = some c) (hrs : fn.results = rs) (hcall : callable P f = true) (hm : P.follows .mixedOrders = true)
    (hok : okCode fn.ntmps c = true) (hargs : args.length ≤ fn.ntmps) (h : ∀ H, HSc H → aw P H.nxt c (retQ P H.nxt rs.toList fun r' H' => r' = r ∧ H' = H) (initT 0 args) (H.plus [])) : Quiet P f args r :=
  fun H => acalls_sc hf hb hrs hcall hm hok hargs fun hs _ => h H hs
theorem aops_mono {ops : Array Oper} {K K' : Tm → AH → Prop} (hk : ∀ T H, K T H → K' T H) : ∀ (l : List Oper) (T : Tm) (H : AH), aops P ops l K T H → aops P ops l K' T H
  | [], T, H, h => hk T H h
  | o :: l, T, H, h => by
    simp only [aops] at h ⊢
    split at h
    · exact h
    · split at h
      · exact ⟨h.1, aops_mono hk l _ _ h.2⟩
      · split at h
        · exact ⟨h.1, aops_mono hk l _ _ h.2⟩
        · split at h
          · exact ⟨h.1, h.2.mono fun r H' hr => aops_mono hk l _ _ hr⟩
          · split at h
            · exact ⟨h.1, fun b hb => aops_mono hk l _ _ (h.2 b hb)⟩
            · split at h
              · exact ⟨h.1, fun x hx => aops_mono hk l _ _ (h.2 x hx)⟩
              · exact h
    · split at h
      · exact ⟨h.1, aops_mono hk l _ _ h.2⟩
      · exact GLeaf.mono (aops_mono hk l) h
theorem ahead_mono {im : List Nat} {ops : Array Oper} {H0 : AH} {K K' : Tm → AH → Prop} (hk : ∀ T H, K T H → K' T H) : ∀ (l : List Oper) (T : Tm) (H : AH), ahead P im ops H0 l K T H → ahead P im ops H0 l K' T H
  | [], T, H, h => hk T H h
  | o :: l, T, H, h => by
    simp only [ahead] at h ⊢
    split at h
    · exact h
    · split at h
      · exact ⟨h.1, ahead_mono hk l _ _ h.2⟩
      · split at h
        · exact ⟨h.1, ahead_mono hk l _ _ h.2⟩
        · split at h
          · exact ⟨h.1, ahead_mono hk l _ _ h.2⟩
          · split at h
            · exact ⟨h.1, ahead_mono hk l _ _ h.2⟩
            · split at h
              · obtain ⟨k1, r, k2, k3⟩ := h
                exact ⟨k1, r, k2, ahead_mono hk l _ _ k3⟩
              · exact h
    · split at h
      · exact ⟨h.1, ahead_mono hk l _ _ h.2⟩
      · split at h
        · obtain ⟨k1, r, k2, k3⟩ := h
          exact ⟨k1, r, k2, ahead_mono hk l _ _ k3⟩
        · rcases h with ⟨h0, h2⟩ | ⟨h0, h2⟩
          · exact .inl ⟨h0, ahead_mono hk l _ _ h2⟩
          · split at h2
            · exact .inr ⟨h0, h2.1, ahead_mono hk l _ _ h2.2⟩
            · split at h2
              · exact .inr ⟨h0, h2.1, ahead_mono hk l _ _ h2.2⟩
              · exact h2.elim
theorem aany_mono {ops : Array Oper} {K K' : Tm → AH → Prop} (hk : ∀ T H, K T H → K' T H) : ∀ (f : Nat) (ls : Array Bool) (T : Tm) (H : AH), aany P ops K f ls T H → aany P ops K' f ls T H
  | 0, ls, T, H, h => ⟨h.1, hk T H h.2⟩
  | f + 1, ls, T, H, h => by
    refine ⟨fun hr => hk T H (h.1 hr), fun i hi => ?_⟩
    have := h.2 i hi
    unfold aone at this ⊢
    split
    · rename_i o ho
      rw [ho] at this
      exact aops_mono (fun T H h => aany_mono hk f _ T H h) _ _ _ this
    · rename_i ho
      rw [ho] at this
      exact aany_mono hk f _ T H this
theorem aw_mono {n0 : Nat} : ∀ (c : Code) (Q Q' : Exit → Tm → AH → Prop) (T : Tm) (H : AH), (∀ e T H, Q e T H → Q' e T H) → aw P n0 c Q T H → aw P n0 c Q' T H := by
  intro c
  induction c with
  | skip => intro Q Q' T H hq h; exact hq _ _ _ h
  | label l => intro Q Q' T H hq h; exact hq _ _ _ h
  | exit id => intro Q Q' T H hq h; exact hq _ _ _ h
  | goto l => intro Q Q' T H hq h; exact hq _ _ _ h
  | ret => intro Q Q' T H hq h; exact hq _ _ _ h
  | refuse s => intro Q Q' T H hq h; exact h
  | scope c _ =>
    intro Q Q' T H hq h ρ0 H0 w0 N Qc hn hok hQ
    exact h ρ0 H0 w0 N Qc hn hok fun e a w hc => hQ e a w (conc_single hc fun T H h => hq e T H h)
  | rangeFunc f ps x y _ _ =>
    intro Q Q' T H hq h ρ0 H0 w0 N Qc hn hok hQ
    exact h ρ0 H0 w0 N Qc hn hok fun e a w hc => hQ e a w (conc_single hc fun T H h => hq e T H h)
  | seq x y ihx ihy =>
    intro Q Q' T H hq h
    refine ihx _ _ T H (fun e T H he => ?_) h
    cases e with
    | normal => exact ihy _ _ T H hq he
    | exit id => exact hq _ _ _ he
    | goto l => exact hq _ _ _ he
    | ret => exact hq _ _ _ he
    | panic ch => exact hq _ _ _ he
    | outgrown => exact hq _ _ _ he
  | cond c x y ihx ihy =>
    intro Q Q' T H hq h
    simp only [aw] at h ⊢
    unfold acond at h ⊢
    split at h
    · exact ⟨fun hb => ihx _ _ T H hq (h.1 hb), fun hb => ihy _ _ T H hq (h.2 hb)⟩
    · exact h
  | block id c ih =>
    intro Q Q' T H hq h
    refine ih _ _ T H (fun e T H he => ?_) h
    cases e with
    | exit id' =>
      simp only [inb] at he ⊢
      split at he
      · rename_i e; rw [if_pos e]; exact hq _ _ _ he
      · rename_i e; rw [if_neg e]; exact hq _ _ _ he
    | normal => exact hq _ _ _ he
    | goto l => exact hq _ _ _ he
    | ret => exact hq _ _ _ he
    | panic ch => exact hq _ _ _ he
    | outgrown => exact hq _ _ _ he
  | loop c ih =>
    intro Q Q' T H hq h
    obtain ⟨I, n, h1, h2⟩ := h
    refine ⟨I, n, h1, fun n T H hI => ih _ _ T H (fun e T H he => ?_) (h2 n T H hI)⟩
    cases e with
    | normal => exact he
    | exit id => exact he.mono (hq _)
    | goto l => exact he.mono (hq _)
    | ret => exact he.mono (hq _)
    | panic ch => exact he.mono (hq _)
    | outgrown => exact he.mono (hq _)
  | region id ops draw =>
    intro Q Q' T H hq h
    simp only [aw] at h ⊢
    split
    · rename_i hd
      rw [if_pos hd] at h
      have key : ∀ T H, AReg P ops (Q .normal) T H → AReg P ops (Q' .normal) T H := by
        rintro T H (⟨im, n, h1, h2⟩ | ⟨Hp, n, h1, h2, h3, h4⟩)
        · exact .inl ⟨im, n, h1, ahead_mono (fun T H h => aany_mono (fun T H h => hq _ _ _ h) _ _ _ _ h) _ _ _ h2⟩
        · exact .inr ⟨Hp, n, h1, h2, h3, aheff_mono (fun T H h => aany_mono (fun T H h => hq _ _ _ h) _ _ _ _ h) _ _ _ h4⟩
      rcases h with h | ⟨π, T', H', h1, h2⟩ | ⟨z, d, h1, h2⟩
      · exact .inl (key _ _ h)
      · exact .inr (.inl ⟨π, T', H', h1, key _ _ h2⟩)
      · exact .inr (.inr ⟨z, d, h1, key _ _ h2⟩)
    · rename_i hd
      rw [if_neg hd] at h
      exact aops_mono (fun T H h => hq _ _ _ h) _ _ _ h
def Next {σ : Type} (H : AH) (inv : σ → Prop) (μ : σ → Nat) (Tf : σ → Tm) (Hf : σ → List (Option AObj)) (s : σ) (T' : Tm) (H' : AH) : Prop :=
  ∃ l', H' = H.plus l' ∧ ∃ s', inv s' ∧ μ s' < μ s ∧ SealT some (H.plus l') (H.plus (Hf s')) T' (Tf s') ∧ SealOs (H.plus l') (H.plus (Hf s')) l' (Hf s')
theorem plus_low (H : AH) (l : List (Option AObj)) {j : Nat} (h : j < H.nxt) : (H.plus l).obj j = H.obj j := by simp only [AH.plus]; rw [if_pos h]
theorem plus_setlow (H : AH) (l : List (Option AObj)) {j : Nat} (h : j < H.nxt) (o : AObj) : (H.plus l).set j o = (H.set j o).plus l := by
  refine ah_ext (fun q => ?_) rfl
  show (if q = j then some o else (if q < H.nxt then H.obj q else (l[q - H.nxt]?).join)) = (if q < H.nxt then (if q = j then some o else H.obj q) else (l[q - H.nxt]?).join)
  by_cases e : q = j
  · subst e; rw [if_pos rfl, if_pos h, if_pos rfl]
  · rw [if_neg e, if_neg e]
structure St (σ : Type) where
  inv : σ → AH → (Nat → Prop) → Prop
  stable : ∀ {s H H' B}, inv s H B → (∀ q, B q → H'.obj q = H.obj q) → H.nxt ≤ H'.nxt → inv s H' B
  low : ∀ {s H B}, inv s H B → ∀ q, B q → q < H.nxt
def Moves {σ : Type} (I : St σ) (s' : σ) (H : AH) (B : Nat → Prop) (H' : AH) : Prop :=
  H.nxt ≤ H'.nxt ∧ (∀ q, q < H.nxt → ¬ B q → H'.obj q = H.obj q) ∧ ∃ B', I.inv s' H' B' ∧ ∀ q, B' q → B q ∨ H.nxt ≤ q
theorem Moves.refl {σ : Type} {I : St σ} {s : σ} {H : AH} {B : Nat → Prop} (h : I.inv s H B) : Moves I s H B H := ⟨Nat.le_refl _, fun _ _ _ => rfl, B, h, fun q hq => .inl hq⟩
theorem Moves.trans {σ : Type} {I : St σ} {s1 s2 : σ} {H1 H2 H3 : AH} {B : Nat → Prop} (h : Moves I s1 H1 B H2) (k : ∀ B', I.inv s1 H2 B' → Moves I s2 H2 B' H3) : Moves I s2 H1 B H3 := by
  obtain ⟨h1, h2, B', h3, h4⟩ := h
  obtain ⟨k1, k2, B'', k3, k4⟩ := k B' h3
  refine ⟨by omega, fun q hq hb => ?_, B'', k3, fun q hq => ?_⟩
  · rw [k2 q (by omega) (fun hB => by rcases h4 q hB with h | h; exact hb h; omega), h2 q hq hb]
  · rcases k4 q hq with h | h
    · exact h4 q h
    · right; omega
theorem St.grow {σ : Type} {I : St σ} {s : σ} {H : AH} {B : Nat → Prop} (h : I.inv s H B) (l : List (Option AObj)) : I.inv s (H.plus l) B :=
  I.stable h (fun q hq => plus_low H l (I.low h q hq)) (Nat.le_add_right _ _)
theorem Moves.grow {σ : Type} {I : St σ} {s : σ} {H H' : AH} {B : Nat → Prop} {l : List (Option AObj)} (h : Moves I s (H.plus l) B H') (hB : ∀ q, B q → q < H.nxt) : Moves I s H B H' := by
  obtain ⟨h1, h2, B', h3, h4⟩ := h
  simp only [plus_nxt] at h1 h2 h4
  refine ⟨by omega, fun q hq hb => ?_, B', h3, fun q hq => ?_⟩
  · rw [h2 q (by omega) hb, plus_low H l hq]
  · rcases h4 q hq with h | h
    · exact .inl h
    · right; omega
theorem Moves.own {σ : Type} {I : St σ} {s : σ} {H H' : AH} {B : Nat → Prop} {l : List (Option AObj)} {k : Nat} (h : Moves I s (H.plus l) B H') (hB : ∀ q, B q → q < H.nxt) (hk : k < l.length) (l' : List (Option AObj)) :
    (H'.plus l').obj (H.nxt + k) = (l[k]?).join := by
  obtain ⟨h1, h2, _⟩ := h
  simp only [plus_nxt] at h1 h2
  rw [plus_low H' l' (by omega), h2 _ (by omega) (fun hb => by have := hB _ hb; omega), plus_obj]
end Go.Sim
