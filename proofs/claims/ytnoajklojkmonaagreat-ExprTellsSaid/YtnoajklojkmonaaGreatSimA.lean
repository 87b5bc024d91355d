/- A reader of this model's memory through abstract values: what an abstract value says of a value in a world, and that it stays so when the world grows. Conditions: none. -/
import Derived.Below
import Derived.Laws.Cells
import Derived.Tactics
import Derived.WalkKit
set_option linter.unusedVariables false
set_option linter.unusedSimpArgs false
namespace Go.Sim

/-- An abstract value. 'sl': a slice that nobody writes any more, its elements by cells; 'esl': an empty one without room; 'rsl i z o n': of the object i, of elements of z cells, from the element o on, n of them; 'ptr i z e c': to the cell c of the element e of the object i; 'iptr': to cells that nobody writes any more; 'gv g v': v, if g. -/
inductive AV where
  | lit (v : Value)
  | agg (cs : List AV)
  | tup (vs : List AV)
  | sl (es : List (List AV))
  | esl
  | rsl (i z off len : Nat)
  | ptr (i z e c : Nat)
  | iptr (cs : List AV)
  | clo (fn : Fn) (first caps : List AV)
  | mp (i : Nat)
  | gv (g : Bool) (v : AV)
  | any

inductive AObj where
  | cells (z : Nat) (es : List (List AV)) (fz : Nat)
  | amap (kvs : List (Value × AV))

structure AH where
  obj : Nat → Option AObj
  nxt : Nat

abbrev AV.int (n : Int) : AV := .lit (.int .i64 n)
abbrev AV.bool (b : Bool) : AV := .lit (.bool b)
abbrev AV.nilS : AV := .lit (.slice none 0 0)

def AH.set (H : AH) (i : Nat) (o : AObj) : AH := { obj := fun j => if j = i then some o else H.obj j, nxt := H.nxt }
def AH.add (H : AH) (o : AObj) : AH := { obj := fun j => if j = H.nxt then some o else H.obj j, nxt := H.nxt + 1 }

/-- Nobody will write this cell. -/
def Imm (ρ : Nat → Option Nat) (H : AH) (a : Addr) : Prop :=
  ∀ i z es fz, H.obj i = some (.cells z es fz) → ρ i = some a.block → a.off < fz * z

def CellsAt (ρ : Nat → Option Nat) (H : AH) (w : World) (a : Addr) (xs : List Value) : Prop :=
  ∀ j v, xs[j]? = some v → w.cell? (a.add j) = some v ∧ Imm ρ H (a.add j)

mutual
def Rep (ρ : Nat → Option Nat) (H : AH) (w : World) : AV → Value → Prop
  | .lit v, x => x = v
  | .agg cs, x => ∃ xs : List Value, x = .agg xs.toArray ∧ RepL ρ H w cs xs
  | .tup vs, x => ∃ xs : List Value, x = .tuple xs.toArray ∧ RepL ρ H w vs xs
  | .sl es, x => ∃ A cap, x = .slice A es.length cap ∧ es.length ≤ cap ∧ cap ≤ maxLen ∧
      (es ≠ [] → ∃ a z xss, A = some a ∧ (∀ e ∈ es, e.length = z) ∧ RepLL ρ H w es xss ∧ ∀ (j : Nat) xs, xss[j]? = some xs → CellsAt ρ H w (a.add (j * z)) xs)
  | .esl, x => ∃ A, x = .slice A 0 0
  | .rsl i z off len, x =>
      (∃ b cap ccs t fr, ρ i = some b ∧ x = .slice (some ⟨b, off * z, none⟩) len cap ∧ len ≤ cap ∧ cap ≤ maxLen ∧ w.heap[b]? = some (.cells ccs t fr) ∧ (off + cap) * z ≤ ccs.size) ∨
      (len = 0 ∧ i < H.nxt ∧ ∃ A, x = .slice A 0 0)
  | .ptr i z e c, x => ∃ b, ρ i = some b ∧ x = .pointer (some ⟨b, e * z + c, none⟩)
  | .iptr cs, x => ∃ a xs, x = .pointer (some a) ∧ RepL ρ H w cs xs ∧ CellsAt ρ H w a xs
  | .clo fn first caps, x => ∃ fs ks : List Value, x = .func fn fs.toArray ks.toArray ∧ RepL ρ H w first fs ∧ RepL ρ H w caps ks
  | .mp i, x => ∃ b, ρ i = some b ∧ x = .map (some b)
  | .gv g v, x => (g = true → Rep ρ H w v x) ∧ (g = false → x = undef)
  | .any, _ => True
def RepL (ρ : Nat → Option Nat) (H : AH) (w : World) : List AV → List Value → Prop
  | [], xs => xs = []
  | v :: vs, xs => ∃ y ys, xs = y :: ys ∧ Rep ρ H w v y ∧ RepL ρ H w vs ys
def RepLL (ρ : Nat → Option Nat) (H : AH) (w : World) : List (List AV) → List (List Value) → Prop
  | [], xs => xs = []
  | v :: vs, xs => ∃ y ys, xs = y :: ys ∧ RepL ρ H w v y ∧ RepLL ρ H w vs ys
end

/-- An object lies in memory as it is told. -/
def ObjOk (ρ : Nat → Option Nat) (H : AH) (w : World) (i : Nat) : AObj → Prop
  | .cells z es fz =>
    (∃ b ccs t xss, ρ i = some b ∧ w.heap[b]? = some (.cells ccs t (0, 0)) ∧ (∀ e ∈ es, e.length = z) ∧ RepLL ρ H w es xss ∧ fz ≤ es.length ∧ es.length * z ≤ ccs.size ∧
      ∀ (j k : Nat) xs v, xss[j]? = some xs → xs[k]? = some v → ccs[j * z + k]? = some v) ∨ (ρ i = none ∧ es = [] ∧ fz = 0)
  | .amap kvs => ∃ b es clock, ρ i = some b ∧ w.heap[b]? = some (.map es clock) ∧ (∀ e ∈ es.toList, e.born < clock) ∧ RepL ρ H w (kvs.map (·.2)) (es.toList.map (·.val)) ∧ kvs.map (·.1) = es.toList.map (·.key)

structure Holds (ρ : Nat → Option Nat) (H : AH) (w : World) : Prop where
  obj : ∀ i o, H.obj i = some o → ObjOk ρ H w i o
  inj : ∀ i j b oi oj, H.obj i = some oi → H.obj j = some oj → ρ i = some b → ρ j = some b → i = j
  lt : ∀ i o, H.obj i = some o → i < H.nxt
  bound : ∀ i b, ρ i = some b → i < H.nxt ∧ b < w.heap.size

structure Ext (ρ : Nat → Option Nat) (H : AH) (w : World) (ρ' : Nat → Option Nat) (H' : AH) (w' : World) : Prop where
  old : ∀ i b, ρ i = some b → i < H.nxt
  agree : ∀ i b, ρ i = some b → ρ' i = some b
  new : ∀ i b, ρ' i = some b → ρ i = some b ∨ (H.nxt ≤ i ∧ (w.heap.size ≤ b ∨ ∃ j o, H.obj j = some o ∧ ρ j = some b))
  live : ∀ i o, H'.obj i = some o → i < H.nxt → ∃ o', H.obj i = some o'
  nxt : H.nxt ≤ H'.nxt
  imm : ∀ (a : Addr) (v : Value), w.cell? a = some v → Imm ρ H a → w'.cell? a = some v ∧ Imm ρ' H' a
  size : w.heap.size ≤ w'.heap.size
  rest : ∀ (b : Nat), b < w.heap.size → (∀ i o, H.obj i = some o → ρ i ≠ some b) → w'.heap[b]? = w.heap[b]?
  shape : ∀ (b : Nat) (cs : Array Value) (t : TypeId) (fr : Nat × Nat), w.heap[b]? = some (.cells cs t fr) → ∃ cs', w'.heap[b]? = some (.cells cs' t fr) ∧ cs'.size = cs.size
  os : w'.os = w.os
  tape : w'.tape = w.tape
  output : w'.output = w.output

theorem Ext.refl {ρ : Nat → Option Nat} {H : AH} {w : World} (h : Holds ρ H w) : Ext ρ H w ρ H w :=
  ⟨fun i b h1 => (h.bound i b h1).1, fun _ _ h => h, fun _ _ h => .inl h, fun _ o h _ => ⟨o, h⟩, Nat.le_refl _, fun _ _ h k => ⟨h, k⟩, Nat.le_refl _, fun _ _ _ => rfl, fun _ cs _ _ h => ⟨cs, h, rfl⟩, rfl, rfl, rfl⟩

/-- What a value's reading rests on. -/
structure Ext0 (ρ : Nat → Option Nat) (H : AH) (w : World) (ρ' : Nat → Option Nat) (H' : AH) (w' : World) : Prop where
  agree : ∀ i b, ρ i = some b → ρ' i = some b
  imm : ∀ (a : Addr) (v : Value), w.cell? a = some v → Imm ρ H a → w'.cell? a = some v ∧ Imm ρ' H' a
  shape : ∀ (b : Nat) (cs : Array Value) (t : TypeId) (fr : Nat × Nat), w.heap[b]? = some (.cells cs t fr) → ∃ cs', w'.heap[b]? = some (.cells cs' t fr) ∧ cs'.size = cs.size
  nxt : H.nxt ≤ H'.nxt

theorem Ext.to0 {ρ : Nat → Option Nat} {H : AH} {w : World} {ρ' : Nat → Option Nat} {H' : AH} {w' : World} (h : Ext ρ H w ρ' H' w') : Ext0 ρ H w ρ' H' w' := ⟨h.agree, h.imm, h.shape, h.nxt⟩

theorem CellsAt.ext0 {ρ : Nat → Option Nat} {H : AH} {w : World} {ρ' : Nat → Option Nat} {H' : AH} {w' : World} {a : Addr} {xs : List Value}
    (he : Ext0 ρ H w ρ' H' w') (h : CellsAt ρ H w a xs) : CellsAt ρ' H' w' a xs :=
  fun j v hv => he.imm _ _ (h j v hv).1 (h j v hv).2

mutual
theorem Rep.ext0 {ρ : Nat → Option Nat} {H : AH} {w : World} {ρ' : Nat → Option Nat} {H' : AH} {w' : World} (he : Ext0 ρ H w ρ' H' w') :
    ∀ (v : AV) (x : Value), Rep ρ H w v x → Rep ρ' H' w' v x
  | .lit v, x, h => by simpa only [Rep] using h
  | .agg cs, x, h => by
    simp only [Rep] at h ⊢
    obtain ⟨xs, rfl, h⟩ := h
    exact ⟨xs, rfl, RepL.ext0 he cs xs h⟩
  | .tup cs, x, h => by
    simp only [Rep] at h ⊢
    obtain ⟨xs, rfl, h⟩ := h
    exact ⟨xs, rfl, RepL.ext0 he cs xs h⟩
  | .sl es, x, h => by
    simp only [Rep] at h ⊢
    obtain ⟨A, cap, rfl, h1, h2, h3⟩ := h
    refine ⟨A, cap, rfl, h1, h2, fun hne => ?_⟩
    obtain ⟨a, z, xss, rfl, h4, h5, h6⟩ := h3 hne
    exact ⟨a, z, xss, rfl, h4, RepLL.ext0 he es xss h5, fun j xs hj => (h6 j xs hj).ext0 he⟩
  | .esl, x, h => by simpa only [Rep] using h
  | .rsl i z off len, x, h => by
    simp only [Rep] at h ⊢
    rcases h with ⟨b, cap, ccs, t, fr, h1, rfl, h2, h3, h4, h5⟩ | h
    · obtain ⟨cs', h6, h7⟩ := he.shape _ _ _ _ h4
      exact .inl ⟨b, cap, cs', t, fr, he.agree _ _ h1, rfl, h2, h3, h6, by omega⟩
    · exact .inr ⟨h.1, Nat.lt_of_lt_of_le h.2.1 he.nxt, h.2.2⟩
  | .ptr i z e c, x, h => by
    simp only [Rep] at h ⊢
    obtain ⟨b, h1, rfl⟩ := h
    exact ⟨b, he.agree _ _ h1, rfl⟩
  | .iptr cs, x, h => by
    simp only [Rep] at h ⊢
    obtain ⟨a, xs, rfl, h1, h2⟩ := h
    exact ⟨a, xs, rfl, RepL.ext0 he cs xs h1, h2.ext0 he⟩
  | .clo fn first caps, x, h => by
    simp only [Rep] at h ⊢
    obtain ⟨fs, ks, rfl, h1, h2⟩ := h
    exact ⟨fs, ks, rfl, RepL.ext0 he first fs h1, RepL.ext0 he caps ks h2⟩
  | .mp i, x, h => by
    simp only [Rep] at h ⊢
    obtain ⟨b, h1, rfl⟩ := h
    exact ⟨b, he.agree _ _ h1, rfl⟩
  | .gv g v, x, h => by
    simp only [Rep] at h ⊢
    exact ⟨fun hg => Rep.ext0 he v x (h.1 hg), h.2⟩
  | .any, x, h => by simp only [Rep]
theorem RepL.ext0 {ρ : Nat → Option Nat} {H : AH} {w : World} {ρ' : Nat → Option Nat} {H' : AH} {w' : World} (he : Ext0 ρ H w ρ' H' w') :
    ∀ (vs : List AV) (xs : List Value), RepL ρ H w vs xs → RepL ρ' H' w' vs xs
  | [], xs, h => by simpa only [RepL] using h
  | v :: vs, xs, h => by
    simp only [RepL] at h ⊢
    obtain ⟨y, ys, rfl, h1, h2⟩ := h
    exact ⟨y, ys, rfl, Rep.ext0 he v y h1, RepL.ext0 he vs ys h2⟩
theorem RepLL.ext0 {ρ : Nat → Option Nat} {H : AH} {w : World} {ρ' : Nat → Option Nat} {H' : AH} {w' : World} (he : Ext0 ρ H w ρ' H' w') :
    ∀ (vs : List (List AV)) (xs : List (List Value)), RepLL ρ H w vs xs → RepLL ρ' H' w' vs xs
  | [], xs, h => by simpa only [RepLL] using h
  | v :: vs, xs, h => by
    simp only [RepLL] at h ⊢
    obtain ⟨y, ys, rfl, h1, h2⟩ := h
    exact ⟨y, ys, rfl, RepL.ext0 he v y h1, RepLL.ext0 he vs ys h2⟩
end

section
variable {ρ : Nat → Option Nat} {H : AH} {w : World} {ρ' : Nat → Option Nat} {H' : AH} {w' : World}
theorem CellsAt.ext {a : Addr} {xs : List Value} (he : Ext ρ H w ρ' H' w') (h : CellsAt ρ H w a xs) : CellsAt ρ' H' w' a xs := h.ext0 he.to0
theorem Rep.ext (he : Ext ρ H w ρ' H' w') (v : AV) (x : Value) (h : Rep ρ H w v x) : Rep ρ' H' w' v x := Rep.ext0 he.to0 v x h
theorem RepL.ext (he : Ext ρ H w ρ' H' w') (v : List AV) (x : List Value) (h : RepL ρ H w v x) : RepL ρ' H' w' v x := RepL.ext0 he.to0 v x h
theorem RepLL.ext (he : Ext ρ H w ρ' H' w') (v : List (List AV)) (x : List (List Value)) (h : RepLL ρ H w v x) : RepLL ρ' H' w' v x := RepLL.ext0 he.to0 v x h
end

section
variable {ρ : Nat → Option Nat} {H : AH} {w : World}

theorem RepL.length : ∀ {vs : List AV} {xs : List Value}, RepL ρ H w vs xs → xs.length = vs.length
  | [], xs, h => by simp only [RepL] at h; subst h; rfl
  | v :: vs, xs, h => by
    simp only [RepL] at h
    obtain ⟨y, ys, rfl, h1, h2⟩ := h
    simp [RepL.length h2]

theorem RepLL.length : ∀ {vs : List (List AV)} {xs : List (List Value)}, RepLL ρ H w vs xs → xs.length = vs.length
  | [], xs, h => by simp only [RepLL] at h; subst h; rfl
  | v :: vs, xs, h => by
    simp only [RepLL] at h
    obtain ⟨y, ys, rfl, h1, h2⟩ := h
    simp [RepLL.length h2]

theorem RepL.get : ∀ {vs : List AV} {xs : List Value}, RepL ρ H w vs xs → ∀ {j : Nat} {v}, vs[j]? = some v → ∃ x, xs[j]? = some x ∧ Rep ρ H w v x
  | [], xs, h, j, v, hv => by simp at hv
  | u :: vs, xs, h, j, v, hv => by
    simp only [RepL] at h
    obtain ⟨y, ys, rfl, h1, h2⟩ := h
    cases j with
    | zero => simp at hv; subst hv; exact ⟨y, rfl, h1⟩
    | succ j => simp at hv; obtain ⟨x, hx, hr⟩ := RepL.get h2 hv; exact ⟨x, by simpa using hx, hr⟩

theorem RepLL.get : ∀ {vs : List (List AV)} {xs : List (List Value)}, RepLL ρ H w vs xs → ∀ {j : Nat} {v}, vs[j]? = some v → ∃ x, xs[j]? = some x ∧ RepL ρ H w v x
  | [], xs, h, j, v, hv => by simp at hv
  | u :: vs, xs, h, j, v, hv => by
    simp only [RepLL] at h
    obtain ⟨y, ys, rfl, h1, h2⟩ := h
    cases j with
    | zero => simp at hv; subst hv; exact ⟨y, rfl, h1⟩
    | succ j => simp at hv; obtain ⟨x, hx, hr⟩ := RepLL.get h2 hv; exact ⟨x, by simpa using hx, hr⟩

theorem RepL.mk : ∀ {vs : List AV} {xs : List Value}, xs.length = vs.length → (∀ (j : Nat) v x, vs[j]? = some v → xs[j]? = some x → Rep ρ H w v x) → RepL ρ H w vs xs
  | [], xs, hl, _ => by simp only [RepL]; simpa using hl
  | v :: vs, [], hl, _ => by simp at hl
  | v :: vs, x :: xs, hl, h => by
    simp only [RepL]
    exact ⟨x, xs, rfl, h 0 v x rfl rfl, RepL.mk (by simpa using hl) fun j u y hu hy => h (j + 1) u y (by simpa using hu) (by simpa using hy)⟩

theorem RepLL.mk : ∀ {vs : List (List AV)} {xs : List (List Value)}, xs.length = vs.length → (∀ (j : Nat) v x, vs[j]? = some v → xs[j]? = some x → RepL ρ H w v x) → RepLL ρ H w vs xs
  | [], xs, hl, _ => by simp only [RepLL]; simpa using hl
  | v :: vs, [], hl, _ => by simp at hl
  | v :: vs, x :: xs, hl, h => by
    simp only [RepLL]
    exact ⟨x, xs, rfl, h 0 v x rfl rfl, RepLL.mk (by simpa using hl) fun j u y hu hy => h (j + 1) u y (by simpa using hu) (by simpa using hy)⟩

theorem RepL.get_both {vs : List AV} {xs : List Value} (h : RepL ρ H w vs xs) {j : Nat} {v : AV} {x : Value} (hv : vs[j]? = some v) (hx : xs[j]? = some x) : Rep ρ H w v x := by
  obtain ⟨y, hy, hr⟩ := h.get hv
  rw [hy] at hx
  injection hx with hx
  exact hx ▸ hr

theorem RepLL.get_both {vs : List (List AV)} {xs : List (List Value)} (h : RepLL ρ H w vs xs) {j : Nat} {v : List AV} {x : List Value} (hv : vs[j]? = some v) (hx : xs[j]? = some x) : RepL ρ H w v x := by
  obtain ⟨y, hy, hr⟩ := h.get hv
  rw [hy] at hx
  injection hx with hx
  exact hx ▸ hr

theorem RepL.append {vs us : List AV} {xs ys : List Value} (h : RepL ρ H w vs xs) (k : RepL ρ H w us ys) : RepL ρ H w (vs ++ us) (xs ++ ys) := by
  refine RepL.mk (by simp [h.length, k.length]) fun j v x hv hx => ?_
  rw [List.getElem?_append] at hv hx
  rw [h.length] at hx
  split at hv
  · rename_i hj
    rw [if_pos hj] at hx
    exact h.get_both hv hx
  · rename_i hj
    rw [if_neg hj] at hx
    exact k.get_both hv hx

theorem RepLL.append {vs us : List (List AV)} {xs ys : List (List Value)} (h : RepLL ρ H w vs xs) (k : RepLL ρ H w us ys) : RepLL ρ H w (vs ++ us) (xs ++ ys) := by
  refine RepLL.mk (by simp [h.length, k.length]) fun j v x hv hx => ?_
  rw [List.getElem?_append] at hv hx
  rw [h.length] at hx
  split at hv
  · rename_i hj
    rw [if_pos hj] at hx
    exact h.get_both hv hx
  · rename_i hj
    rw [if_neg hj] at hx
    exact k.get_both hv hx

theorem RepL.drop {vs : List AV} {xs : List Value} (h : RepL ρ H w vs xs) (n : Nat) : RepL ρ H w (vs.drop n) (xs.drop n) :=
  RepL.mk (by simp [h.length]) fun j v x hv hx => h.get_both (j := n + j) (by rwa [List.getElem?_drop] at hv) (by rwa [List.getElem?_drop] at hx)

theorem RepL.take {vs : List AV} {xs : List Value} (h : RepL ρ H w vs xs) (n : Nat) : RepL ρ H w (vs.take n) (xs.take n) := by
  refine RepL.mk (by simp [h.length]) fun j v x hv hx => ?_
  rw [List.getElem?_take] at hv hx
  split at hv
  · rename_i hj
    rw [if_pos hj] at hx
    exact h.get_both hv hx
  · cases hv

theorem RepLL.drop {vs : List (List AV)} {xs : List (List Value)} (h : RepLL ρ H w vs xs) (n : Nat) : RepLL ρ H w (vs.drop n) (xs.drop n) :=
  RepLL.mk (by simp [h.length]) fun j v x hv hx => h.get_both (j := n + j) (by rwa [List.getElem?_drop] at hv) (by rwa [List.getElem?_drop] at hx)

theorem RepLL.take {vs : List (List AV)} {xs : List (List Value)} (h : RepLL ρ H w vs xs) (n : Nat) : RepLL ρ H w (vs.take n) (xs.take n) := by
  refine RepLL.mk (by simp [h.length]) fun j v x hv hx => ?_
  rw [List.getElem?_take] at hv hx
  split at hv
  · rename_i hj
    rw [if_pos hj] at hx
    exact h.get_both hv hx
  · cases hv

theorem RepLL.elem_length {vs : List (List AV)} {xs : List (List Value)} (h : RepLL ρ H w vs xs) {z : Nat} (hz : ∀ e ∈ vs, e.length = z) : ∀ y ∈ xs, y.length = z := by
  intro y hy
  obtain ⟨j, hj⟩ := List.getElem?_of_mem hy
  have hlt : j < vs.length := by
    rw [← h.length]
    exact (List.getElem?_eq_some_iff.1 hj).1
  have hv : vs[j]? = some vs[j] := List.getElem?_eq_getElem hlt
  rw [(h.get_both hv hj).length]
  exact hz _ (List.getElem_mem hlt)

theorem RepL.single {v : AV} {x : Value} (h : Rep ρ H w v x) : RepL ρ H w [v] [x] := by
  simp only [RepL]; exact ⟨x, [], rfl, h, rfl⟩
end

theorem Ext.trans {ρ1 ρ2 ρ3 : Nat → Option Nat} {H1 H2 H3 : AH} {w1 w2 w3 : World} (h : Ext ρ1 H1 w1 ρ2 H2 w2) (k : Ext ρ2 H2 w2 ρ3 H3 w3) : Ext ρ1 H1 w1 ρ3 H3 w3 where
  old := h.old
  agree := fun i b hi => k.agree i b (h.agree i b hi)
  new := fun i b hi => by
    have back : ∀ j o, H2.obj j = some o → ρ2 j = some b → w1.heap.size ≤ b ∨ ∃ j o, H1.obj j = some o ∧ ρ1 j = some b := by
      intro j o ho hj
      rcases h.new j b hj with h1 | ⟨_, h2⟩
      · obtain ⟨o', ho'⟩ := h.live j o ho (h.old j b h1)
        exact .inr ⟨j, o', ho', h1⟩
      · exact h2
    rcases k.new i b hi with h1 | ⟨h1, h2 | ⟨j, o, ho, hj⟩⟩
    · exact h.new i b h1
    · exact .inr ⟨Nat.le_trans h.nxt h1, .inl (Nat.le_trans h.size h2)⟩
    · exact .inr ⟨Nat.le_trans h.nxt h1, back j o ho hj⟩
  live := fun i o ho hi => by
    obtain ⟨o', ho'⟩ := k.live i o ho (Nat.lt_of_lt_of_le hi h.nxt)
    exact h.live i o' ho' hi
  nxt := Nat.le_trans h.nxt k.nxt
  imm := fun a v hc hi => let ⟨h1, h2⟩ := h.imm a v hc hi; k.imm a v h1 h2
  size := Nat.le_trans h.size k.size
  rest := fun b hlt hno => by
    rw [k.rest b (Nat.lt_of_lt_of_le hlt h.size) fun i o ho hρ => ?_]
    · exact h.rest b hlt hno
    · rcases h.new i b hρ with h1 | ⟨_, h2 | ⟨j, o', ho', hj⟩⟩
      · obtain ⟨o', ho'⟩ := h.live i o ho (h.old i b h1)
        exact hno i o' ho' h1
      · omega
      · exact hno j o' ho' hj
  shape := fun b cs t fr hc => by
    obtain ⟨cs', h1, h2⟩ := h.shape b cs t fr hc
    obtain ⟨cs'', h3, h4⟩ := k.shape b cs' t fr h1
    exact ⟨cs'', h3, h4.trans h2⟩
  os := k.os.trans h.os
  tape := k.tape.trans h.tape
  output := k.output.trans h.output

end Go.Sim
