/- Regions that draw their order: what reads, calls quietly, or adds an object may come in any order; what stands behind all of that in its own. Conditions: none. -/
import Derived.Test.YtnoajklojkmonaaGreatSimG
set_option linter.unusedVariables false
set_option linter.unusedSimpArgs false
namespace Go.Sim

variable {P : Program} {ρ : Nat → Option Nat} {H : AH} {w : World}

/-! ### An operation that adds one object -/
def anew (P : Program) (T : Tm) : Op → Option (Prop × (Nat → AV) × AObj)
  | .alloc t => (tzero P t).map fun zs => (True, fun i => .ptr i zs.length 0 0, .cells zs.length [zs.map .lit] 0)
  | .box t x => some (gokL T [x] ∧ (ev T x).core.fit = true, fun i => .ptr i (acells (ev T x).core).length 0 0, .cells (acells (ev T x).core).length [acells (ev T x).core] 0)
  | .buildSlice t n ps =>
    match tzeroE P t with
    | some (zs, _) => (asets (List.replicate n (zs.map .lit)) zs.length (ps.toList.map fun (i, x) => (i, (ev T x).core))).map fun (φ, es) =>
        (gokL T (ps.toList.map (·.2)) ∧ φ ∧ n * zs.length ≤ 16777216, fun i => .rsl i zs.length 0 n, .cells zs.length es 0)
    | none => none
  | _ => none

theorem gokL_mem {T : Tm} : ∀ {l : List (Nat × Operand)}, gokL T (l.map (·.2)) → ∀ y ∈ l, (ev T y.2).grd = true
  | [], _, y, hy => by cases hy
  | z :: l, hl, y, hy => by
    simp only [List.map_cons, gokL] at hl
    cases hy with
    | head => exact hl.1
    | tail _ hy => exact gokL_mem hl.2 y hy

theorem var_fact {t : TypeId} {vs : List AV} {xs : Array Value} (hr : RepL ρ H w vs xs.toList) {ρ' : Nat → Option Nat} {H' : AH} {i : Nat} (he : Ext0 ρ H w ρ' H' (w.alloc (.cells xs t))) (hi : ρ' i = some w.heap.size) :
    Rep ρ' H' (w.alloc (.cells xs t)) (.ptr i vs.length 0 0) (.pointer (some ⟨w.heap.size, 0, none⟩)) ∧ ObjOk ρ' H' (w.alloc (.cells xs t)) i (.cells vs.length [vs] 0) := by
  refine ⟨?_, ?_⟩
  · simp only [Rep]
    exact ⟨_, hi, by simp⟩
  · exact ObjOk.row (more := []) hi (heap_push_new w _) (by simp) (RepLL.one (RepL.ext0 he _ _ hr)) (by simp) (by simp)

theorem anew_ok {T : Tm} {a : Act} {o : Oper} {φ : Prop} {f : Nat → AV} {ob : AObj} (ht : RepT ρ H w T a.tmps) (h : anew P T o.op = some (φ, f, ob)) (hφ : φ) :
    ∃ obj x, (execOp a.eval o).run P w = .ok (.value x) (w.alloc obj) ∧ ∀ (ρ' : Nat → Option Nat) (H' : AH) (i : Nat), Ext0 ρ H w ρ' H' (w.alloc obj) → ρ' i = some w.heap.size →
      Rep ρ' H' (w.alloc obj) (f i) x ∧ ObjOk ρ' H' (w.alloc obj) i ob := by
  unfold anew at h
  unfold execOp
  split at h
  · rename_i t heq
    simp only [heq]
    simp only [Option.map_eq_some_iff, Prod.mk.injEq] at h
    obtain ⟨zs, hz, rfl, rfl, rfl⟩ := h
    simp only [tzero, Option.map_eq_some_iff, Option.bind_eq_some_iff] at hz
    obtain ⟨z, ⟨i, hi, hz⟩, rfl⟩ := hz
    have hzero : (zeroValue t).run P w = .ok z w := by simp [zeroValue, typeInfo, hi, hz]
    refine ⟨.cells z.cells t, .pointer (some ⟨w.heap.size, 0, none⟩), by simp only [Instr.alloc, Sem.run_bind, hzero, Result.andThen_ok, newVar, run_newRow, Sem.run_pure], fun ρ' H' i he hi => ?_⟩
    have := var_fact (t := t) (vs := z.cells.toList.map .lit) (xs := z.cells) (rep_lits ρ H w _) he hi
    simp only [List.length_map] at this
    exact this
  · rename_i t x heq
    simp only [heq]
    simp only [Option.some.injEq, Prod.mk.injEq] at h
    obtain ⟨rfl, rfl, rfl⟩ := h
    refine ⟨.cells (a.eval x).cells t, .pointer (some ⟨w.heap.size, 0, none⟩), by simp only [Instr.box, newVar, Sem.run_bind, run_newRow, Result.andThen_ok, Sem.run_pure], fun ρ' H' i he hi => ?_⟩
    exact var_fact (acells_ok hφ.2 (rep_evc ht hφ.1.1)) he hi
  · rename_i t n ps heq
    split at h
    · rename_i zs by_ hz
      simp only [heq]
      simp only [Option.map_eq_some_iff, Prod.mk.injEq] at h
      obtain ⟨⟨ψ, es⟩, h1, rfl, rfl, rfl⟩ := h
      obtain ⟨hg, hψ, hn⟩ := hφ
      obtain ⟨e, i, z, hu, hi, hzv, rfl, hsz, hpos, _, hcs, hzero, hsize⟩ := tzeroE_ok hz w
      have key : ∀ (j : Nat) u v, (ps.toList.map fun (i, x) => (i, (ev T x).core))[j]? = some u → (ps.map fun (i, x) => (i, a.eval x)).toList[j]? = some v → Rep ρ H w u.2 v.2 := by
        intro j u v hu hv
        simp only [Array.toList_map, List.getElem?_map, Option.map_eq_some_iff] at hu hv
        obtain ⟨⟨i1, x1⟩, hx1, rfl⟩ := hu
        obtain ⟨⟨i2, x2⟩, hx2, rfl⟩ := hv
        rw [hx1] at hx2
        injection hx2 with hx2
        injection hx2 with _ hx2
        subst hx2
        exact rep_evc ht (gokL_mem hg _ (List.mem_of_getElem? hx1))
      obtain ⟨yss, h2, h3, h4, h5⟩ := asets_ok (ps := (ps.map fun (i, x) => (i, a.eval x)).toList) h1 hψ (rep_replicate n _) (fun e he => by rw [(List.mem_replicate.1 he).2]; simp) (by simp) key
      have h5' : es.length = n := by rw [h5]; simp
      have hz' := zeros_flat z.cells (by simpa using hpos) n
      have hl : z.cells.toList.length = z.cells.size := by simp
      have h6 : ((Array.range (n * z.cells.toList.length)).map (z.cells[· % z.cells.size]!)) = (List.replicate n z.cells.toList).flatten.toArray := by
        apply Array.ext'
        rw [hl, hz']
      have hnot : ¬ (n * z.cells.toList.length > 2 ^ 24) := by omega
      have hmax : n ≤ maxLen := by
        have : n ≤ n * z.cells.toList.length := Nat.le_mul_of_pos_right _ hpos
        simp only [maxLen]; omega
      have hrun : (Instr.buildSlice t n (ps.map fun (i, x) => (i, a.eval x))).run P w = .ok (.slice (some ⟨w.heap.size, 0, none⟩) n n) (w.alloc (.cells yss.flatten.toArray e)) := by
        by_cases h0 : n * z.cells.toList.length = 0
        · have hn0 : n = 0 := by
            rcases Nat.mul_eq_zero.1 h0 with h | h
            · exact h
            · omega
          subst hn0
          have e0 : ((Array.range (0 * z.cells.toList.length)).map ((#[] : Array Value)[· % (#[] : Array Value).size]!)) = (List.replicate 0 z.cells.toList).flatten.toArray := by simp
          simp only [Instr.buildSlice, Sem.run_bind, run_underlying hu, Result.andThen_ok, hsize, if_neg hnot, if_pos h0, Sem.run_pure, e0, h2, run_newRow, Sem.run_ite]
        · simp only [Instr.buildSlice, Sem.run_bind, run_underlying hu, Result.andThen_ok, hsize, if_neg hnot, if_neg h0, hzero, Sem.run_pure, h6, h2, run_newRow, Sem.run_ite]
      refine ⟨.cells yss.flatten.toArray e, .slice (some ⟨w.heap.size, 0, none⟩) n n, by simp only [Sem.run_bind, hrun, Result.andThen_ok, Sem.run_pure], fun ρ' H' k he hk => ⟨?_, ?_⟩⟩
      · simp only [Rep]
        refine .inl ⟨_, n, _, e, (0, 0), hk, by simp, Nat.le_refl _, hmax, heap_push_new w _, ?_⟩
        simp only [List.size_toArray, flat_length (h3.elem_length h4), h3.length, h5', Nat.zero_add]
        exact Nat.le_refl _
      · exact ObjOk.row (more := []) hk (heap_push_new w _) (by simp) (RepLL.ext0 he _ _ h3) h4 (by simp)
    · cases h
  · cases h

/-- A new block at a number that was set aside. -/
theorem Ext0.allocAt (hh : Holds ρ H w) (obj : Obj) (o : AObj) {i : Nat} (hi : ρ i = none) : Ext0 ρ H w (upd ρ i (some w.heap.size)) (H.set i o) (w.alloc obj) where
  agree := fun j b hj => by
    simp only [upd]
    rw [if_neg (by intro e; subst e; rw [hi] at hj; cases hj)]
    exact hj
  imm := fun a v hc hI => by
    have hlt : a.block < w.heap.size := World.block_lt_of_cell? w a hc
    refine ⟨by rw [← hc]; simp only [World.cell?, heap_push_old w obj _ hlt], fun j z es fz ho hρ => ?_⟩
    simp only [AH.set] at ho
    simp only [upd] at hρ
    split at ho
    · rename_i h
      rw [if_pos h] at hρ
      injection hρ with hρ
      omega
    · rename_i h
      rw [if_neg h] at hρ
      exact hI j z es fz ho hρ
  shape := fun b cs t fr hc => ⟨cs, by rw [heap_push_old w obj b (Array.getElem?_eq_some_iff.1 hc).1]; exact hc, rfl⟩
  nxt := Nat.le_refl _

theorem ObjOk.ext0 {ρ' : Nat → Option Nat} {H' : AH} {w' : World} {i : Nat} {o : AObj} (he : Ext0 ρ H w ρ' H' w') (h : ObjOk ρ H w i o)
    (hb : ∀ b, ρ i = some b → w'.heap[b]? = w.heap[b]?) (hn : ρ i = none → ρ' i = none) : ObjOk ρ' H' w' i o := by
  cases o with
  | cells z es fz =>
    rcases h with ⟨b, ccs, t, xss, h1, h2, h3, h4, h5, h6, h7⟩ | ⟨h1, h2, h3⟩
    · exact .inl ⟨b, ccs, t, xss, he.agree _ _ h1, by rw [hb b h1]; exact h2, h3, RepLL.ext0 he _ _ h4, h5, h6, h7⟩
    · exact .inr ⟨hn h1, h2, h3⟩
  | amap kvs =>
    obtain ⟨b, es, clock, h1, h2, h3, h4, h5⟩ := h
    exact ⟨b, es, clock, he.agree _ _ h1, by rw [hb b h1]; exact h2, h3, RepL.ext0 he _ _ h4, h5⟩

theorem Holds.allocAt (hh : Holds ρ H w) (obj : Obj) (o : AObj) {i : Nat} (hi : ρ i = none) (hlt : i < H.nxt) (hfree : H.obj i = none) (hok : ObjOk (upd ρ i (some w.heap.size)) (H.set i o) (w.alloc obj) i o) :
    Holds (upd ρ i (some w.heap.size)) (H.set i o) (w.alloc obj) where
  obj := fun j o' ho => by
    by_cases hj : j = i
    · subst hj
      simp only [AH.set, if_true] at ho
      injection ho with ho
      subst ho
      exact hok
    · simp only [AH.set] at ho
      rw [if_neg hj] at ho
      refine (hh.obj j o' ho).ext0 (Ext0.allocAt hh obj o hi) (fun b hb => heap_push_old w obj b (hh.bound j b hb).2) fun h => ?_
      simp only [upd]
      rw [if_neg hj]
      exact h
  inj := fun j l b oj ol hj hl hbj hbl => by
    simp only [AH.set] at hj hl
    simp only [upd] at hbj hbl
    by_cases h1 : j = i <;> by_cases h2 : l = i
    · rw [h1, h2]
    · rw [if_pos h1] at hbj
      rw [if_neg h2] at hbl
      injection hbj with hbj
      have := (hh.bound l b hbl).2
      omega
    · rw [if_neg h1] at hbj
      rw [if_pos h2] at hbl
      injection hbl with hbl
      have := (hh.bound j b hbj).2
      omega
    · rw [if_neg h1] at hj hbj
      rw [if_neg h2] at hl hbl
      exact hh.inj j l b oj ol hj hl hbj hbl
  lt := fun j o' ho => by
    simp only [AH.set] at ho ⊢
    split at ho
    · rename_i h; rw [h]; exact hlt
    · exact hh.lt j o' ho
  bound := fun j b hj => by
    rw [size_push]
    simp only [upd] at hj
    simp only [AH.set]
    split at hj
    · rename_i h
      injection hj with hj
      rw [h]
      omega
    · have := hh.bound j b hj; omega

/-- From a start on. -/
theorem Ext.thenAlloc {ρ0 : Nat → Option Nat} {H0 : AH} {w0 : World} (he : Ext ρ0 H0 w0 ρ H w) (hh : Holds ρ H w) (obj : Obj) (o : AObj) {i : Nat} (hi : ρ i = none) (hlow : H0.nxt ≤ i) : Ext ρ0 H0 w0 (upd ρ i (some w.heap.size)) (H.set i o) (w.alloc obj) where
  old := he.old
  agree := fun j b hj => (Ext0.allocAt hh obj o hi).agree j b (he.agree j b hj)
  new := fun j b hj => by
    simp only [upd] at hj
    split at hj
    · rename_i h
      injection hj with hj
      exact .inr ⟨by omega, .inl (by have := he.size; omega)⟩
    · exact he.new j b hj
  live := fun j o' ho hj => by
    simp only [AH.set] at ho
    split at ho
    · omega
    · exact he.live j o' ho hj
  nxt := he.nxt
  imm := fun a v hc hI => let ⟨h1, h2⟩ := he.imm a v hc hI; (Ext0.allocAt hh obj o hi).imm a v h1 h2
  size := by rw [size_push]; have := he.size; omega
  rest := fun b hb hno => by rw [heap_push_old w obj b (Nat.lt_of_lt_of_le hb he.size)]; exact he.rest b hb hno
  shape := fun b cs t fr hc => by
    obtain ⟨cs', h1, h2⟩ := he.shape b cs t fr hc
    exact ⟨cs', by rw [heap_push_old w obj b (Array.getElem?_eq_some_iff.1 h1).1]; exact h1, h2⟩
  os := he.os
  tape := he.tape
  output := he.output


/-! ### The head of a region -/
def mk (c : Option Bool) (r : AV) : AV :=
  match c with
  | none => r
  | some g => .gv g r
def on (c : Option Bool) : Bool := c.getD true

/-- A store into all of a new object of one element. -/
def astoreN (P : Program) (T : Tm) : Op → Option (Prop × Nat × AObj)
  | .store t x v =>
    match (ev T x).core with
    | .ptr i z 0 0 => some (gokL T [x, v] ∧ (ev T v).core.fit = true ∧ (acells (ev T v).core).all AV.one = true ∧ (tload P t).map (·.1) = some z ∧ (acells (ev T v).core).length = z, i, .cells z [acells (ev T v).core] 0)
    | _ => none
  | _ => none

/-- What an operation of the head yields: its value, and the object that it adds, or sets; what it reads is H0's. -/
def HeadStep (P : Program) (ops : Array Oper) (H0 : AH) (T : Tm) (nid : Nat) (o : Oper) (r : AV) (ob : Option (Bool × Nat × AObj)) : Prop :=
  match gcond ops T o with
  | none => False
  | some c =>
    match apure P H0 T o.op with
    | some (φ, r') => (on c = true → φ) ∧ r = mk c r' ∧ ob = none
    | none =>
      (c = none ∧ ∃ φ f o', anew P T o.op = some (φ, f, o') ∧ φ ∧ r = f nid ∧ ob = some (true, nid, o')) ∨
      (c = none ∧ ∃ φ i o', astoreN P T o.op = some (φ, i, o') ∧ φ ∧ r = .any ∧ ob = some (false, i, o')) ∨
      (ob = none ∧ ((on c = false ∧ ∃ r', r = mk c r') ∨ ∃ φ f args r', acallee T o.op = some (φ, f, args) ∧ (on c = true → φ) ∧ (on c = true → Quiet P f args r') ∧ r = mk c r'))

def addO (H : AH) : Option (Bool × Nat × AObj) → AH
  | some (true, _, o) => H.add o
  | some (false, i, o) => H.set i o
  | none => H

/-- The head in the text's order. -/
def ahead (P : Program) (ops : Array Oper) (H0 : AH) : List Oper → (Tm → AH → Prop) → Tm → AH → Prop
  | [], K, T, H => K T H
  | o :: rest, K, T, H =>
    match gcond ops T o with
    | none => False
    | some none =>
      match apure P H0 T o.op with
      | some (φ, r) => φ ∧ ahead P ops H0 rest K (tput T o.dst r) H
      | none =>
        match anew P T o.op with
        | some (φ, f, ob) => φ ∧ ahead P ops H0 rest K (tput T o.dst (f H.nxt)) (H.add ob)
        | none =>
          match astoreN P T o.op with
          | some (φ, i, ob) => φ ∧ ahead P ops H0 rest K (tput T o.dst .any) (H.set i ob)
          | none =>
            match acallee T o.op with
            | some (φ, f, args) => φ ∧ ∃ r, Quiet P f args r ∧ ahead P ops H0 rest K (tput T o.dst r) H
            | none => False
    | some (some c) =>
      match apure P H0 T o.op with
      | some (φ, r) => (c = true → φ) ∧ ahead P ops H0 rest K (tput T o.dst (.gv c r)) H
      | none =>
        match acallee T o.op with
        | some (φ, f, args) => (c = true → φ) ∧ GCallK P c f args o.dst (ahead P ops H0 rest K) T H
        | none => c = false ∧ ahead P ops H0 rest K (tput T o.dst (.gv c .any)) H

def HSteps (P : Program) (ops : Array Oper) (H0 : AH) : List Oper → List (AV × Option (Bool × Nat × AObj)) → Tm → AH → Tm → AH → Prop
  | [], rs, T, H, T', H' => rs = [] ∧ T' = T ∧ H' = H
  | o :: l, rs, T, H, T', H' => ∃ r ob rs', rs = (r, ob) :: rs' ∧ HeadStep P ops H0 T H.nxt o r ob ∧ HSteps P ops H0 l rs' (tput T o.dst r) (addO H ob) T' H'

theorem ahead_steps {ops : Array Oper} {H0 : AH} {K : Tm → AH → Prop} : ∀ (l : List Oper) (T : Tm) (H : AH), ahead P ops H0 l K T H → ∃ rs T' H', HSteps P ops H0 l rs T H T' H' ∧ K T' H'
  | [], T, H, h => ⟨[], T, H, ⟨rfl, rfl, rfl⟩, h⟩
  | o :: l, T, H, h => by
    have go : ∀ r ob, HeadStep P ops H0 T H.nxt o r ob → ahead P ops H0 l K (tput T o.dst r) (addO H ob) → ∃ rs T' H', HSteps P ops H0 (o :: l) rs T H T' H' ∧ K T' H' := by
      intro r ob h1 h2
      obtain ⟨rs, T', H', h3, h4⟩ := ahead_steps l _ _ h2
      exact ⟨(r, ob) :: rs, T', H', ⟨r, ob, rs, rfl, h1, h3⟩, h4⟩
    simp only [ahead] at h
    split at h
    · exact h.elim
    · rename_i hg
      split at h
      · rename_i φ r hp
        exact go r none (by simp only [HeadStep, hg, hp]; exact ⟨fun _ => h.1, rfl, trivial⟩) h.2
      · rename_i hp
        split at h
        · rename_i φ f ob hn
          exact go (f H.nxt) (some (true, H.nxt, ob)) (by simp only [HeadStep, hg, hp]; exact .inl ⟨trivial, φ, f, ob, hn, h.1, rfl, rfl⟩) h.2
        · rename_i hn
          split at h
          · rename_i φ i ob hst
            exact go .any (some (false, i, ob)) (by simp only [HeadStep, hg, hp]; exact .inr (.inl ⟨trivial, φ, i, ob, hst, h.1, trivial, rfl⟩)) h.2
          · split at h
            · rename_i φ f args hc
              obtain ⟨h1, r, h2, h3⟩ := h
              exact go r none (by simp only [HeadStep, hg, hp]; exact .inr (.inr ⟨trivial, .inr ⟨φ, f, args, r, hc, fun _ => h1, fun _ => h2, rfl⟩⟩)) h3
            · exact h.elim
    · rename_i c hg
      split at h
      · rename_i φ r hp
        exact go (.gv c r) none (by simp only [HeadStep, hg, hp]; exact ⟨h.1, rfl, trivial⟩) h.2
      · rename_i hp
        split at h
        · rename_i φ f args hc
          obtain ⟨h1, r, h2, h3⟩ := h
          exact go (.gv c r) none (by simp only [HeadStep, hg, hp]; exact .inr (.inr ⟨trivial, .inr ⟨φ, f, args, r, hc, h1, h2, rfl⟩⟩)) h3
        · exact go (.gv c .any) none (by simp only [HeadStep, hg, hp]; exact .inr (.inr ⟨trivial, .inl ⟨h.1, .any, rfl⟩⟩)) h.2

/-! ### Any order -/
/-- The writers that count, up to n. -/
def TD (T0 : Tm) (dst : Nat → Option Nat) (r : Nat → AV) (p : Nat → Bool) : Nat → Tm
  | 0 => T0
  | n + 1 => if p n then tput (TD T0 dst r p n) (dst n) (r n) else TD T0 dst r p n

theorem TD_agree {T0 : Tm} {dst : Nat → Option Nat} {r : Nat → AV} {p q : Nat → Bool} {t : Nat} : ∀ n, (∀ i, i < n → dst i = some t → p i = q i) → tget (TD T0 dst r p n) t = tget (TD T0 dst r q n) t
  | 0, _ => rfl
  | n + 1, h => by
    have ih := TD_agree (T0 := T0) (r := r) n fun i hi => h i (by omega)
    simp only [TD]
    by_cases hd : dst n = some t
    · have := h n (by omega) hd
      rw [this]
      split
      · simp only [hd, tput, tget, if_true]
      · exact ih
    · have skip : ∀ (b : Bool) (X : Tm), tget (if b then tput X (dst n) (r n) else X) t = tget X t := by
        intro b X
        cases b
        · rfl
        · cases hdn : dst n with
          | none => simp [tput]
          | some d =>
            simp only [if_true, tput, tget]
            rw [if_neg (by intro e; subst e; exact hd hdn)]
      rw [skip, skip]
      exact ih

theorem TD_upto {T0 : Tm} {dst : Nat → Option Nat} {r : Nat → AV} {j : Nat} : ∀ n, j ≤ n → TD T0 dst r (fun i => decide (i < j)) n = TD T0 dst r (fun _ => true) j
  | 0, h => by obtain rfl : j = 0 := by omega
               rfl
  | n + 1, h => by
    simp only [TD]
    by_cases hj : j ≤ n
    · rw [if_neg (by simp; omega)]
      exact TD_upto n hj
    · obtain rfl : j = n + 1 := by omega
      rw [if_pos (by simp)]
      simp only [TD, if_true]
      have : ∀ m, m ≤ n → TD T0 dst r (fun i => decide (i < n + 1)) m = TD T0 dst r (fun _ => true) m := by
        intro m
        induction m with
        | zero => intro _; rfl
        | succ m ih => intro hm; simp only [TD, if_true]; rw [if_pos (by simp; omega), ih (by omega)]
      rw [this n (Nat.le_refl _)]

/-- The objects that count, up to n. -/
def HD (H0 : AH) (m : Nat) (id : Nat → Nat) (ob : Nat → Option AObj) (p : Nat → Bool) : Nat → AH
  | 0 => { H0 with nxt := H0.nxt + m }
  | n + 1 => match p n, ob n with
    | true, some o => (HD H0 m id ob p n).set (id n) o
    | _, _ => HD H0 m id ob p n

theorem HD_nxt {H0 : AH} {m : Nat} {id : Nat → Nat} {ob : Nat → Option AObj} {p : Nat → Bool} : ∀ n, (HD H0 m id ob p n).nxt = H0.nxt + m
  | 0 => rfl
  | n + 1 => by
    simp only [HD]
    split
    · simp only [AH.set]; exact HD_nxt n
    · exact HD_nxt n

theorem HD_low {H0 : AH} {m : Nat} {id : Nat → Nat} {ob : Nat → Option AObj} {p : Nat → Bool} {i : Nat} : ∀ n, (∀ k, k < n → p k = true → (ob k).isSome = true → id k ≠ i) → (HD H0 m id ob p n).obj i = H0.obj i
  | 0, _ => rfl
  | n + 1, h => by
    have ih := HD_low (H0 := H0) (m := m) n fun k hk => h k (by omega)
    simp only [HD]
    split
    · rename_i o hp ho
      simp only [AH.set]
      rw [if_neg fun e => h n (by omega) hp (by simp [ho]) e.symm]
      exact ih
    · exact ih

theorem HD_put {H0 : AH} {m : Nat} {id : Nat → Nat} {ob : Nat → Option AObj} {p : Nat → Bool} {j : Nat} {o : AObj} (hj : p j = false) (ho : ob j = some o) : ∀ n, (∀ k, j < k → k < n → p k = true → (ob k).isSome = true → id k ≠ id j) → j < n →
    HD H0 m id ob (fun k => p k || decide (k = j)) n = (HD H0 m id ob p n).set (id j) o
  | 0, _, h => by omega
  | n + 1, hid, h => by
    have same : ∀ k, k ≤ j → HD H0 m id ob (fun k => p k || decide (k = j)) k = HD H0 m id ob p k := by
      intro k
      induction k with
      | zero => intro _; rfl
      | succ k ih =>
        intro hk
        have e : (p k || decide (k = j)) = p k := by simp; omega
        simp only [HD, ih (by omega), e]
    by_cases hjn : j = n
    · subst hjn
      simp only [HD, same j (Nat.le_refl _), ho, hj, decide_true, Bool.or_true]
    · have ih := HD_put (H0 := H0) (m := m) hj ho n (fun k h1 h2 => hid k h1 (by omega)) (by omega)
      have e : (p n || decide (n = j)) = p n := by simp [Ne.symm hjn]
      simp only [HD, ih, e]
      split
      · rename_i o' hp ho'
        have hne := hid n (by omega) (by omega) hp (by simp [ho'])
        simp only [AH.set, AH.mk.injEq, and_true]
        funext k
        by_cases h1 : k = id n <;> by_cases h2 : k = id j
        · exact absurd (h1.symm.trans h2) hne
        · simp [h1, hne]
        · simp [h2, Ne.symm hne]
        · simp [h1, h2]
      · rfl

theorem HD_at {H0 : AH} {m : Nat} {id : Nat → Nat} {ob : Nat → Option AObj} {p : Nat → Bool} {j : Nat} {o : AObj} (hj : p j = true) (ho : ob j = some o) : ∀ n, (∀ k, j < k → k < n → p k = true → (ob k).isSome = true → id k ≠ id j) → j < n →
    (HD H0 m id ob p n).obj (id j) = some o
  | 0, _, h => by omega
  | n + 1, hid, h => by
    by_cases hjn : j = n
    · subst hjn
      simp only [HD, hj, ho, AH.set, if_true]
    · have ih := HD_at (H0 := H0) (m := m) hj ho n (fun k h1 h2 => hid k h1 (by omega)) (by omega)
      simp only [HD]
      split
      · rename_i o' hp ho'
        simp only [AH.set]
        rw [if_neg (Ne.symm (hid n (by omega) (by omega) hp (by simp [ho'])))]
        exact ih
      · exact ih

theorem HD_none {H0 : AH} {m : Nat} {id : Nat → Nat} {ob : Nat → Option AObj} {p : Nat → Bool} {j : Nat} (ho : ob j = none) : ∀ n, HD H0 m id ob (fun k => p k || decide (k = j)) n = HD H0 m id ob p n
  | 0 => rfl
  | n + 1 => by
    simp only [HD, HD_none ho n]
    by_cases hjn : n = j
    · subst hjn
      simp [ho]
    · simp [hjn]

end Go.Sim
