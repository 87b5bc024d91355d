/- The operations that make memory, or write into a call's own, over abstract values. Conditions: none. -/
import Derived.Test.YtnoajklojkmonaaGreatSimC
import Derived.Laws.CopyRow
import Derived.Laws.MakeOwn
set_option linter.unusedVariables false
set_option linter.unusedSimpArgs false
namespace Go.Sim

variable {P : Program} {ρ : Nat → Option Nat} {H : AH} {w : World}

def upd (ρ : Nat → Option Nat) (i : Nat) (b : Option Nat) : Nat → Option Nat := fun j => if j = i then b else ρ j
def AH.del (H : AH) (i : Nat) : AH := { obj := fun j => if j = i then none else H.obj j, nxt := H.nxt }

theorem ObjOk.ext {ρ' : Nat → Option Nat} {H' : AH} {w' : World} {i : Nat} {o : AObj} (he : Ext ρ H w ρ' H' w') (hi : i < H.nxt) (h : ObjOk ρ H w i o)
    (hb : ∀ b, ρ i = some b → w'.heap[b]? = w.heap[b]?) : ObjOk ρ' H' w' i o := by
  cases o with
  | cells z es fz =>
    rcases h with ⟨b, ccs, t, xss, h1, h2, h3, h4, h5, h6, h7⟩ | ⟨h1, h2, h3⟩
    · exact .inl ⟨b, ccs, t, xss, he.agree _ _ h1, by rw [hb b h1]; exact h2, h3, RepLL.ext he _ _ h4, h5, h6, h7⟩
    · refine .inr ⟨?_, h2, h3⟩
      cases h : ρ' i with
      | none => rfl
      | some b =>
        rcases he.new i b h with h' | ⟨h', _⟩
        · rw [h1] at h'; cases h'
        · omega
  | amap kvs =>
    obtain ⟨b, es, clock, h1, h2, h3, h4, h5⟩ := h
    exact ⟨b, es, clock, he.agree _ _ h1, by rw [hb b h1]; exact h2, h3, RepL.ext he _ _ h4, h5⟩

/-- The same memory, as many draws later. -/
theorem Ext.heap {w' : World} (hh : Holds ρ H w) (h : w'.heap = w.heap) (h1 : w'.os = w.os) (h2 : w'.tape = w.tape) (h3 : w'.output = w.output) : Ext ρ H w ρ H w' where
  old := fun i b hi => (hh.bound i b hi).1
  agree := fun _ _ h => h
  new := fun _ _ h => .inl h
  live := fun _ o h _ => ⟨o, h⟩
  nxt := Nat.le_refl _
  imm := fun a v hc hi => ⟨by rw [← hc]; simp [World.cell?, h], hi⟩
  size := by rw [h]; exact Nat.le_refl _
  rest := fun b _ _ => by rw [h]
  shape := fun b cs t fr hc => ⟨cs, by rw [h]; exact hc, rfl⟩
  os := h1
  tape := h2
  output := h3

theorem Holds.heap {w' : World} (hh : Holds ρ H w) (h : w'.heap = w.heap) (h1 : w'.os = w.os) (h2 : w'.tape = w.tape) (h3 : w'.output = w.output) : Holds ρ H w' where
  obj := fun i o ho => (hh.obj i o ho).ext (Ext.heap hh h h1 h2 h3) (hh.lt i o ho) (fun b _ => by rw [h])
  inj := hh.inj
  lt := hh.lt
  bound := fun i b hi => ⟨(hh.bound i b hi).1, by rw [h]; exact (hh.bound i b hi).2⟩

theorem heap_push_old (w : World) (o : Obj) (k : Nat) (h : k < w.heap.size) : (w.alloc o).heap[k]? = w.heap[k]? := by
  show (w.heap.push o)[k]? = _
  rw [Array.getElem?_push, if_neg (by omega)]
theorem heap_push_new (w : World) (o : Obj) : (w.alloc o).heap[w.heap.size]? = some o := by
  show (w.heap.push o)[w.heap.size]? = _
  simp
theorem size_push (w : World) (o : Obj) : (w.alloc o).heap.size = w.heap.size + 1 := by
  show (w.heap.push o).size = _
  simp

/-- A new block, a new object. -/
theorem Ext.alloc (hh : Holds ρ H w) (obj : Obj) (o : AObj) : Ext ρ H w (upd ρ H.nxt (some w.heap.size)) (H.add o) (w.alloc obj) where
  old := fun i b hi => (hh.bound i b hi).1
  agree := fun i b hi => by
    have := (hh.bound i b hi).1
    simp only [upd]
    rw [if_neg (by omega)]
    exact hi
  new := fun i b hi => by
    simp only [upd] at hi
    split at hi
    · rename_i h
      subst h
      injection hi with hi
      exact .inr ⟨Nat.le_refl _, .inl (by omega)⟩
    · exact .inl hi
  live := fun i o' ho hi => by
    simp only [AH.add] at ho
    rw [if_neg (by omega)] at ho
    exact ⟨o', ho⟩
  nxt := by simp [AH.add]
  imm := fun a v hc hi => by
    have hlt : a.block < w.heap.size := World.block_lt_of_cell? w a hc
    refine ⟨by rw [← hc]; simp only [World.cell?, heap_push_old w obj _ hlt], fun i z es fz ho hρ => ?_⟩
    simp only [AH.add] at ho
    simp only [upd] at hρ
    split at ho
    · rename_i h
      rw [if_pos h] at hρ
      injection hρ with hρ
      omega
    · rename_i h
      rw [if_neg h] at hρ
      exact hi i z es fz ho hρ
  size := by rw [size_push]; omega
  rest := fun b hb _ => heap_push_old w obj b hb
  shape := fun b cs t fr hc => ⟨cs, by rw [heap_push_old w obj b (Array.getElem?_eq_some_iff.1 hc).1]; exact hc, rfl⟩
  os := rfl
  tape := rfl
  output := rfl

theorem Holds.alloc (hh : Holds ρ H w) (obj : Obj) (o : AObj) (hok : ObjOk (upd ρ H.nxt (some w.heap.size)) (H.add o) (w.alloc obj) H.nxt o) :
    Holds (upd ρ H.nxt (some w.heap.size)) (H.add o) (w.alloc obj) where
  obj := fun i o' ho => by
    simp only [AH.add] at ho
    split at ho
    · rename_i h
      subst h
      injection ho with ho
      subst ho
      exact hok
    · have hi := hh.lt i o' ho
      exact (hh.obj i o' ho).ext (Ext.alloc hh obj o) hi fun b hb => heap_push_old w obj b (hh.bound i b hb).2
  inj := fun i j b oi oj hi hj hbi hbj => by
    simp only [AH.add] at hi hj
    simp only [upd] at hbi hbj
    by_cases h1 : i = H.nxt <;> by_cases h2 : j = H.nxt
    · rw [h1, h2]
    · rw [if_pos h1] at hbi
      rw [if_neg h2] at hbj
      injection hbi with hbi
      have := (hh.bound j b hbj).2
      omega
    · rw [if_neg h1] at hbi
      rw [if_pos h2] at hbj
      injection hbj with hbj
      have := (hh.bound i b hbi).2
      omega
    · rw [if_neg h1] at hi hbi
      rw [if_neg h2] at hj hbj
      exact hh.inj i j b oi oj hi hj hbi hbj
  lt := fun i o' ho => by
    simp only [AH.add] at ho ⊢
    split at ho
    · omega
    · have := hh.lt i o' ho; omega
  bound := fun i b hi => by
    simp only [upd] at hi
    rw [size_push]
    simp only [AH.add]
    split at hi
    · injection hi with hi
      omega
    · have := hh.bound i b hi; omega

/-- A new object that has no block yet. -/
theorem Ext.ghost (hh : Holds ρ H w) (o : AObj) : Ext ρ H w ρ (H.add o) w where
  old := fun i b hi => (hh.bound i b hi).1
  agree := fun _ _ h => h
  new := fun _ _ h => .inl h
  live := fun i o' ho hi => by
    simp only [AH.add] at ho
    rw [if_neg (by omega)] at ho
    exact ⟨o', ho⟩
  nxt := by simp [AH.add]
  imm := fun a v hc hi => ⟨hc, fun i z es fz ho hρ => by
    simp only [AH.add] at ho
    split at ho
    · rename_i h
      have := (hh.bound i _ hρ).1
      omega
    · exact hi i z es fz ho hρ⟩
  size := Nat.le_refl _
  rest := fun _ _ _ => rfl
  shape := fun b cs t fr hc => ⟨cs, hc, rfl⟩
  os := rfl
  tape := rfl
  output := rfl

theorem Holds.ghost (hh : Holds ρ H w) (z : Nat) : Holds ρ (H.add (.cells z [] 0)) w where
  obj := fun i o' ho => by
    simp only [AH.add] at ho
    split at ho
    · rename_i h
      injection ho with ho
      subst ho
      refine .inr ⟨?_, rfl, rfl⟩
      cases hb : ρ i with
      | none => rfl
      | some b => have := (hh.bound i b hb).1; omega
    · exact (hh.obj i o' ho).ext (Ext.ghost hh _) (hh.lt i o' ho) fun _ _ => rfl
  inj := fun i j b oi oj hi hj hbi hbj => by
    have h1 := (hh.bound i b hbi).1
    have h2 := (hh.bound j b hbj).1
    simp only [AH.add] at hi hj
    rw [if_neg (by omega)] at hi hj
    exact hh.inj i j b oi oj hi hj hbi hbj
  lt := fun i o' ho => by
    simp only [AH.add] at ho ⊢
    split at ho
    · omega
    · have := hh.lt i o' ho; omega
  bound := fun i b hi => by
    have := hh.bound i b hi
    simp only [AH.add]
    omega

/-- The cells of elements of one size, one behind the other. -/
theorem flat_get {z : Nat} : ∀ {xss : List (List Value)}, (∀ xs ∈ xss, xs.length = z) → ∀ {j k : Nat} {xs : List Value} {v : Value}, xss[j]? = some xs → xs[k]? = some v → xss.flatten[j * z + k]? = some v
  | [], _, j, k, xs, v, hj, _ => by simp at hj
  | ys :: xss, hz, j, k, xs, v, hj, hk => by
    have hy := hz ys (by simp)
    cases j with
    | zero =>
      simp at hj
      subst hj
      simp only [List.flatten_cons, Nat.zero_mul, Nat.zero_add]
      rw [List.getElem?_append_left (List.getElem?_eq_some_iff.1 hk).1]
      exact hk
    | succ j =>
      simp at hj
      have := flat_get (z := z) (fun xs h => hz xs (by simp [h])) hj hk
      simp only [List.flatten_cons]
      rw [List.getElem?_append_right (by rw [hy, Nat.succ_mul]; omega)]
      rw [hy, Nat.succ_mul, show j * z + z + k - z = j * z + k by omega]
      exact this
theorem flat_length {z : Nat} : ∀ {xss : List (List Value)}, (∀ xs ∈ xss, xs.length = z) → xss.flatten.length = xss.length * z
  | [], _ => by simp
  | ys :: xss, hz => by
    have ih := flat_length (z := z) (xss := xss) fun xs h => hz xs (by simp [h])
    simp only [List.flatten_cons, List.length_append, List.length_cons, hz ys (by simp), ih, Nat.succ_mul]
    omega

theorem flat_set {z : Nat} : ∀ {xss : List (List Value)} {i : Nat} {ys : List Value}, (∀ xs ∈ xss, xs.length = z) → ys.length = z → i < xss.length →
    (xss.set i ys).flatten = xss.flatten.take (i * z) ++ ys ++ xss.flatten.drop (i * z + z)
  | [], i, ys, _, _, h => by simp at h
  | xs :: xss, i, ys, hz, hy, hi => by
    have hx := hz xs (by simp)
    cases i with
    | zero =>
      simp only [List.set_cons_zero, List.flatten_cons, Nat.zero_mul, List.take_zero, List.nil_append, Nat.zero_add]
      rw [List.drop_append, List.drop_of_length_le (by omega), hx]
      simp
    | succ i =>
      have ih := flat_set (z := z) (xss := xss) (i := i) (ys := ys) (fun xs h => hz xs (by simp [h])) hy (by simpa using hi)
      simp only [List.set_cons_succ, List.flatten_cons, ih]
      rw [List.take_append, List.drop_append, List.take_of_length_le (l := xs) (by rw [hx, Nat.succ_mul]; omega), List.drop_of_length_le (l := xs) (by rw [hx, Nat.succ_mul]; omega), hx]
      rw [show (i + 1) * z - z = i * z by rw [Nat.succ_mul]; omega, show (i + 1) * z + z - z = i * z + z by rw [Nat.succ_mul]; omega]
      simp

/-- A new row of cells is an object. -/
theorem ObjOk.row {w' : World} {i b z fz : Nat} {es : List (List AV)} {xss : List (List Value)} {ccs : Array Value} {t : TypeId} {more : List Value} (hρ : ρ i = some b) (hb : w'.heap[b]? = some (.cells ccs t (0, 0)))
    (hc : ccs.toList = xss.flatten ++ more) (hr : RepLL ρ H w' es xss) (hz : ∀ e ∈ es, e.length = z) (hf : fz ≤ es.length) : ObjOk ρ H w' i (.cells z es fz) := by
  have hxz := hr.elem_length hz
  refine .inl ⟨b, ccs, t, xss, hρ, hb, hz, hr, hf, ?_, fun j k xs v hj hk => ?_⟩
  · have := congrArg List.length hc
    simp only [Array.length_toList, List.length_append, flat_length hxz, hr.length] at this
    omega
  · have h1 := flat_get hxz hj hk
    rw [← Array.getElem?_toList, hc, List.getElem?_append_left (List.getElem?_eq_some_iff.1 h1).1]
    exact h1

theorem run_newRow (e : TypeId) (cs : Array Value) (w : World) : (newRow e cs).run P w = .ok ⟨w.heap.size, 0, none⟩ (w.alloc (.cells cs e)) := rfl

theorem upd_self (i : Nat) (b : Option Nat) : upd ρ i b i = b := by simp [upd]

theorem RepLL.one {vs : List AV} {xs : List Value} (h : RepL ρ H w vs xs) : RepLL ρ H w [vs] [xs] := by
  simp only [RepLL]; exact ⟨xs, [], rfl, h, rfl⟩

/-- What an operation leaves that may have written. -/
def Made (P : Program) (ρ : Nat → Option Nat) (H : AH) (w : World) (s : Sem Value) (r : AV) (H' : AH) : Prop :=
  ∃ x w' ρ', s.run P w = .ok x w' ∧ Rep ρ' H' w' r x ∧ Holds ρ' H' w' ∧ Ext ρ H w ρ' H' w'

theorem made_var (hh : Holds ρ H w) (t : TypeId) {vs : List AV} {xs : Array Value} (hr : RepL ρ H w vs xs.toList) :
    Rep (upd ρ H.nxt (some w.heap.size)) (H.add (.cells vs.length [vs] 0)) (w.alloc (.cells xs t)) (.ptr H.nxt vs.length 0 0) (.pointer (some ⟨w.heap.size, 0, none⟩)) ∧
    Holds (upd ρ H.nxt (some w.heap.size)) (H.add (.cells vs.length [vs] 0)) (w.alloc (.cells xs t)) ∧ Ext ρ H w (upd ρ H.nxt (some w.heap.size)) (H.add (.cells vs.length [vs] 0)) (w.alloc (.cells xs t)) := by
  have he := Ext.alloc hh (.cells xs t) (.cells vs.length [vs] 0)
  refine ⟨?_, hh.alloc _ _ ?_, he⟩
  · simp only [Rep]
    exact ⟨_, upd_self _ _, by simp⟩
  · exact ObjOk.row (more := []) (upd_self _ _) (heap_push_new w _) (by simp) (RepLL.one (RepL.ext he _ _ hr)) (by simp) (by simp)

theorem made_alloc (hh : Holds ρ H w) {t : TypeId} {zs : List Value} (hz : tzero P t = some zs) :
    Made P ρ H w (Instr.alloc t true (.tuple #[])) (.ptr H.nxt zs.length 0 0) (H.add (.cells zs.length [zs.map .lit] 0)) := by
  simp only [tzero, Option.map_eq_some_iff, Option.bind_eq_some_iff] at hz
  obtain ⟨z, ⟨i, hi, hz⟩, rfl⟩ := hz
  have hzero : (zeroValue t).run P w = .ok z w := by simp [zeroValue, typeInfo, hi, hz]
  have := made_var hh t (vs := z.cells.toList.map .lit) (xs := z.cells) (rep_lits ρ H w _)
  simp only [List.length_map] at this
  exact ⟨_, _, _, by simp only [Instr.alloc, Sem.run_bind, hzero, Result.andThen_ok, newVar, run_newRow, Sem.run_pure], this⟩

theorem made_box (hh : Holds ρ H w) {t : TypeId} {v : AV} {x : Value} (hf : v.fit = true) (hr : Rep ρ H w v x) :
    Made P ρ H w (Instr.box t x) (.ptr H.nxt (acells v).length 0 0) (H.add (.cells (acells v).length [acells v] 0)) :=
  ⟨_, _, _, by simp only [Instr.box, newVar, Sem.run_bind, run_newRow, Result.andThen_ok, Sem.run_pure], made_var hh t (acells_ok hf hr)⟩

/-! ### A slice's literal -/
def tzeroE (P : Program) (t : TypeId) : Option (List Value × Nat) :=
  match P.underlying t with
  | some (.slice e) => (P.info? e).bind fun i => (i.zero).bind fun z => if z.cells.size = i.size ∧ 0 < i.size then some (z.cells.toList, i.bytes) else none
  | _ => none
theorem tzeroE_ok {t : TypeId} {zs : List Value} {by_ : Nat} (h : tzeroE P t = some (zs, by_)) (w : World) :
    ∃ e i z, P.underlying t = some (.slice e) ∧ P.info? e = some i ∧ i.zero = some z ∧ zs = z.cells.toList ∧ i.size = zs.length ∧ 0 < zs.length ∧ i.bytes = by_ ∧ z.cells.size = i.size ∧
      (zeroValue e).run P w = .ok z w ∧ (sizeOf e).run P w = .ok zs.length w := by
  unfold tzeroE at h
  split at h
  · rename_i e hu
    simp only [Option.bind_eq_some_iff] at h
    obtain ⟨i, hi, z, hz, h⟩ := h
    split at h
    · rename_i hc
      simp only [Option.some.injEq, Prod.mk.injEq] at h
      obtain ⟨rfl, rfl⟩ := h
      have hl : i.size = z.cells.toList.length := by rw [Array.length_toList, hc.1]
      exact ⟨e, i, z, hu, hi, hz, rfl, hl, by omega, rfl, hc.1, by simp [zeroValue, typeInfo, hi, hz], by simp [sizeOf, typeInfo, hi, hl]⟩
    · cases h
  · cases h

def asets : List (List AV) → Nat → List (Nat × AV) → Option (Prop × List (List AV))
  | es, _, [] => some (True, es)
  | es, z, (i, v) :: rest => (asets (es.set i (acells v)) z rest).map fun (φ, r) => (v.fit = true ∧ (acells v).length = z ∧ i < es.length ∧ φ, r)

theorem asets_ok {z : Nat} : ∀ {parts : List (Nat × AV)} {ps : List (Nat × Value)} {es : List (List AV)} {xss : List (List Value)} {φ : Prop} {r : List (List AV)},
    asets es z parts = some (φ, r) → φ → RepLL ρ H w es xss → (∀ e ∈ es, e.length = z) → parts.map (·.1) = ps.map (·.1) → (∀ (j : Nat) u v, parts[j]? = some u → ps[j]? = some v → Rep ρ H w u.2 v.2) →
    ∃ yss, Instr.fill (fun i => some (i * z, z)) xss.flatten.toArray ps = some yss.flatten.toArray ∧ RepLL ρ H w r yss ∧ (∀ e ∈ r, e.length = z) ∧ r.length = es.length
  | [], ps, es, xss, φ, r, h, _, hr, hz, hm, _ => by
    simp only [asets, Option.some.injEq, Prod.mk.injEq] at h
    obtain ⟨rfl, rfl⟩ := h
    have : ps = [] := by simpa using hm.symm
    subst this
    exact ⟨xss, by simp [Instr.fill], hr, hz, rfl⟩
  | (i, v) :: parts, [], es, xss, φ, r, h, _, hr, _, hm, _ => by simp at hm
  | (i, v) :: parts, (i', y) :: ps, es, xss, φ, r, h, hφ, hr, hz, hm, hp => by
    simp only [List.map_cons, List.cons.injEq] at hm
    obtain ⟨rfl, hm⟩ := hm
    simp only [asets, Option.map_eq_some_iff, Prod.mk.injEq] at h
    obtain ⟨⟨ψ, r'⟩, h1, rfl, rfl⟩ := h
    obtain ⟨hf, hl, hi, hψ⟩ := hφ
    have hv : Rep ρ H w v y := hp 0 _ _ rfl rfl
    have hc := acells_ok hf hv
    have hcl : y.cells.size = z := by rw [← hl, ← hc.length]; simp
    have hxz := hr.elem_length hz
    have hfl := flat_length hxz
    have hi' : i < xss.length := by rw [hr.length]; exact hi
    have hle : i * z + z ≤ xss.flatten.length := by
      rw [hfl, ← Nat.succ_mul]
      exact Nat.mul_le_mul_right _ hi'
    simp only [Instr.fill, hcl]
    have hcond : (decide (z ≠ z) || decide (i * z + z > xss.flatten.toArray.size)) = false := by
      simp only [ne_eq, not_true, decide_false, Bool.false_or, decide_eq_false_iff_not, List.size_toArray]
      omega
    simp only [hcond, Bool.false_eq_true, if_false]
    have e1 : y.cells.zipIdx.foldl (fun cs (c, j) => cs.setIfInBounds (i * z + j) c) xss.flatten.toArray = (xss.set i y.cells.toList).flatten.toArray := by
      apply Array.ext'
      have := foldl_splice (i * z) y.cells.toList 0 xss.flatten.toArray (by simp only [List.size_toArray, Array.length_toList, hcl]; omega)
      rw [← Array.foldl_toList, Array.toList_zipIdx, this, flat_set hxz (by rw [Array.length_toList]; exact hcl) hi']
      simp only [Nat.add_zero, Array.length_toList, hcl]
    rw [e1]
    have hr' : RepLL ρ H w (es.set i (acells v)) (xss.set i y.cells.toList) := by
      refine RepLL.mk (by simp [hr.length]) fun j u x hu hx => ?_
      by_cases hij : i = j
      · subst hij
        rw [List.getElem?_set_self hi] at hu
        rw [List.getElem?_set_self hi'] at hx
        injection hu with hu
        injection hx with hx
        subst hu hx
        exact hc
      · rw [List.getElem?_set_ne hij] at hu hx
        exact hr.get_both hu hx
    have hz' : ∀ e ∈ es.set i (acells v), e.length = z := by
      intro e he
      rcases List.mem_or_eq_of_mem_set he with h | h
      · exact hz e h
      · subst h; exact hl
    obtain ⟨yss, h2, h3, h4, h5⟩ := asets_ok h1 hψ hr' hz' hm (fun j u v' hu hv' => hp (j + 1) u v' (by simpa using hu) (by simpa using hv'))
    exact ⟨yss, h2, h3, h4, by rw [h5]; simp⟩

theorem zeros_flat (zs : Array Value) (hz : 0 < zs.size) (n : Nat) : ((Array.range (n * zs.size)).map (zs[· % zs.size]!)).toList = (List.replicate n zs.toList).flatten := by
  apply List.ext_getElem?
  intro k
  simp only [Array.toList_map, Array.toList_range, List.getElem?_map]
  have hall : ∀ xs ∈ List.replicate n zs.toList, xs.length = zs.size := by
    intro xs hx
    rw [(List.mem_replicate.1 hx).2, Array.length_toList]
  by_cases hk : k < n * zs.size
  · have h1 : k / zs.size < n := Nat.div_lt_of_lt_mul (by rw [Nat.mul_comm]; exact hk)
    have h2 : k % zs.size < zs.size := Nat.mod_lt _ hz
    have h3 := flat_get hall (j := k / zs.size) (k := k % zs.size) (xs := zs.toList) (v := zs[k % zs.size]) (by simp [h1]) (by simp [h2])
    rw [show k / zs.size * zs.size + k % zs.size = k by rw [Nat.mul_comm]; exact Nat.div_add_mod k zs.size] at h3
    rw [h3]
    simp [hk, h2]
  · rw [List.getElem?_eq_none (by simpa using hk)]
    rw [List.getElem?_eq_none (by rw [flat_length hall, List.length_replicate]; omega)]
    rfl

theorem rep_replicate (n : Nat) (zs : List Value) : RepLL ρ H w (List.replicate n (zs.map .lit)) (List.replicate n zs) := by
  refine RepLL.mk (by simp) fun j u x hu hx => ?_
  rw [List.getElem?_replicate] at hu hx
  split at hu
  · rename_i h
    rw [if_pos h] at hx
    injection hu with hu
    injection hx with hx
    subst hu hx
    exact rep_lits ρ H w _
  · cases hu

theorem made_row (hh : Holds ρ H w) (t : TypeId) {es : List (List AV)} {xss : List (List Value)} {z : Nat} (hr : RepLL ρ H w es xss) (hz : ∀ e ∈ es, e.length = z) (hl : es.length ≤ maxLen) :
    Rep (upd ρ H.nxt (some w.heap.size)) (H.add (.cells z es 0)) (w.alloc (.cells xss.flatten.toArray t)) (.rsl H.nxt z 0 es.length) (.slice (some ⟨w.heap.size, 0, none⟩) es.length es.length) ∧
    Holds (upd ρ H.nxt (some w.heap.size)) (H.add (.cells z es 0)) (w.alloc (.cells xss.flatten.toArray t)) ∧ Ext ρ H w (upd ρ H.nxt (some w.heap.size)) (H.add (.cells z es 0)) (w.alloc (.cells xss.flatten.toArray t)) := by
  have he := Ext.alloc hh (.cells xss.flatten.toArray t) (.cells z es 0)
  refine ⟨?_, hh.alloc _ _ ?_, he⟩
  · simp only [Rep]
    refine .inl ⟨_, es.length, _, t, (0, 0), upd_self _ _, by simp, Nat.le_refl _, hl, heap_push_new w _, ?_⟩
    simp only [List.size_toArray, flat_length (hr.elem_length hz), hr.length, Nat.zero_add]
    exact Nat.le_refl _
  · exact ObjOk.row (more := []) (upd_self _ _) (heap_push_new w _) (by simp) (RepLL.ext he _ _ hr) hz (by simp)

def abuildSlice (P : Program) (t : TypeId) (n : Nat) (H : AH) (parts : List (Nat × AV)) : Option (Prop × AV × AH) :=
  match tzeroE P t with
  | some (zs, _) => (asets (List.replicate n (zs.map .lit)) zs.length parts).map fun (φ, es) => (φ ∧ n * zs.length ≤ 16777216, .rsl H.nxt zs.length 0 n, H.add (.cells zs.length es 0))
  | none => none

theorem made_buildSlice (hh : Holds ρ H w) {t : TypeId} {n : Nat} {parts : List (Nat × AV)} {ps : Array (Nat × Value)} {φ : Prop} {r : AV} {H' : AH} (h : abuildSlice P t n H parts = some (φ, r, H')) (hφ : φ)
    (hm : parts.map (·.1) = ps.toList.map (·.1)) (hp : ∀ (j : Nat) u v, parts[j]? = some u → ps.toList[j]? = some v → Rep ρ H w u.2 v.2) :
    Made P ρ H w (Instr.buildSlice t n ps) r H' := by
  unfold abuildSlice at h
  split at h
  · rename_i zs by_ hz
    simp only [Option.map_eq_some_iff, Prod.mk.injEq] at h
    obtain ⟨⟨ψ, es⟩, h1, rfl, rfl, rfl⟩ := h
    obtain ⟨hψ, hn⟩ := hφ
    obtain ⟨e, i, z, hu, hi, hzv, rfl, hsz, hpos, _, hcs, hzero, hsize⟩ := tzeroE_ok hz w
    obtain ⟨yss, h2, h3, h4, h5⟩ := asets_ok (ps := ps.toList) h1 hψ (rep_replicate n _) (fun e he => by rw [(List.mem_replicate.1 he).2]; simp) hm hp
    have h5' : es.length = n := by rw [h5]; simp
    have hmade := made_row hh e h3 h4 (by rw [h5']; have : n ≤ n * z.cells.toList.length := Nat.le_mul_of_pos_right _ hpos; simp only [maxLen]; omega)
    rw [h5'] at hmade
    refine ⟨_, _, _, ?_, hmade⟩
    have hz' := zeros_flat z.cells (by simpa using hpos) n
    have hl : z.cells.toList.length = z.cells.size := by simp
    have h6 : ((Array.range (n * z.cells.toList.length)).map (z.cells[· % z.cells.size]!)) = (List.replicate n z.cells.toList).flatten.toArray := by
      apply Array.ext'
      rw [hl, hz']
    have hnot : ¬ (n * z.cells.toList.length > 2 ^ 24) := by omega
    by_cases h0 : n * z.cells.toList.length = 0
    · have hn0 : n = 0 := by
        rcases Nat.mul_eq_zero.1 h0 with h | h
        · exact h
        · omega
      subst hn0
      have e0 : ((Array.range (0 * z.cells.toList.length)).map ((#[] : Array Value)[· % (#[] : Array Value).size]!)) = (List.replicate 0 z.cells.toList).flatten.toArray := by simp
      simp only [Instr.buildSlice, Sem.run_bind, run_underlying hu, Result.andThen_ok, hsize, if_neg hnot, if_pos h0, Sem.run_pure, e0, h2, run_newRow, Sem.run_ite]
    · simp only [Instr.buildSlice, Sem.run_bind, run_underlying hu, Result.andThen_ok, hsize, if_neg hnot, if_neg h0, hzero, Sem.run_pure, h6, h2, run_newRow, Sem.run_ite]
  · cases h

end Go.Sim
