/- What the row rests on, part 1. Conditions: none. -/
import Derived.Below
import Derived.Laws.Cells
import Derived.Tactics
import Derived.WalkKit
import Derived.Laws.Panics
import Derived.Great.FillDense
import Derived.Laws.Slices
import Derived.Laws.CopyRow
import Derived.Laws.MakeOwn
import Derived.MapKept
import Derived.WideKeyRuns
import Derived.Laws.IdiomRangeMap
import Derived.Deep.LoopGhost
import Derived.Orders
import Derived.Laws.BytesString
import Derived.SizedLaws
import Derived.Carry
import Derived.KernelRfl
import Derived.Test.YtagfconjgajlgaaProg
import Derived.ScopeJumps
import Derived.Laws.Bits64
import Derived.RangeFuncIn
import Derived.RangeFuncCalls
import Derived.RangeFuncLeaves
import Derived.RangeFuncSeq
import Derived.RangeFuncRecord
import Derived.OrdersIn
import Derived.Shelf.Sort.Plain
import Derived.Shelf.Slices.In.SortNone
set_option linter.unusedSimpArgs false
set_option linter.unusedVariables false
set_option maxRecDepth 100000
namespace Go.Sim
inductive AV where
  | lit (v : Value)
  | agg (cs : List AV)
  | tup (vs : List AV)
  | sl (es : List (List AV))
  | esl
  | rsl (i z off len : Nat)
  | ptr (i z e c : Nat)
  | iptr (cs : List AV)
  | clo (fn : Fn) (first caps : List AV)
  | mp (i : Nat)
  | gv (g : Bool) (v : AV)
  | any
inductive AObj where
  | cells (z : Nat) (es : List (List AV)) (fz : Nat)
  | amap (kvs : List (Value × AV))
  | amit (m n : Nat) (seen : List Nat)
  | anit
structure AH where
  obj : Nat → Option AObj
  nxt : Nat
abbrev AV.int (n : Int) : AV := .lit (.int .i64 n)
abbrev AV.bool (b : Bool) : AV := .lit (.bool b)
abbrev AV.nilS : AV := .lit (.slice none 0 0)
def AH.set (H : AH) (i : Nat) (o : AObj) : AH := { obj := fun j => if j = i then some o else H.obj j, nxt := H.nxt }
def AH.add (H : AH) (o : AObj) : AH := { obj := fun j => if j = H.nxt then some o else H.obj j, nxt := H.nxt + 1 }
def Imm (ρ : Nat → Option Nat) (H : AH) (a : Addr) : Prop :=
  ∀ i z es fz, H.obj i = some (.cells z es fz) → ρ i = some a.block → a.off < fz * z
def CellsAt (ρ : Nat → Option Nat) (H : AH) (w : World) (a : Addr) (xs : List Value) : Prop :=
  ∀ j v, xs[j]? = some v → w.cell? (a.add j) = some v ∧ Imm ρ H (a.add j)
mutual
def Rep (ρ : Nat → Option Nat) (H : AH) (w : World) : AV → Value → Prop
  | .lit v, x => x = v
  | .agg cs, x => ∃ xs : List Value, x = .agg xs.toArray ∧ RepL ρ H w cs xs
  | .tup vs, x => ∃ xs : List Value, x = .tuple xs.toArray ∧ RepL ρ H w vs xs
  | .sl es, x => ∃ A cap, x = .slice A es.length cap ∧ es.length ≤ cap ∧ cap ≤ maxLen ∧
      (es ≠ [] → ∃ a z xss, A = some a ∧ (∀ e ∈ es, e.length = z) ∧ RepLL ρ H w es xss ∧ ∀ (j : Nat) xs, xss[j]? = some xs → CellsAt ρ H w (a.add (j * z)) xs)
  | .esl, x => ∃ A, x = .slice A 0 0
  | .rsl i z off len, x =>
      (∃ b cap ccs t fr, ρ i = some b ∧ x = .slice (some ⟨b, off * z, none⟩) len cap ∧ len ≤ cap ∧ cap ≤ maxLen ∧ w.heap[b]? = some (.cells ccs t fr) ∧ (off + cap) * z ≤ ccs.size) ∨
      (len = 0 ∧ i < H.nxt ∧ ∃ A, x = .slice A 0 0)
  | .ptr i z e c, x => ∃ b, ρ i = some b ∧ x = .pointer (some ⟨b, e * z + c, none⟩)
  | .iptr cs, x => ∃ a xs, x = .pointer (some a) ∧ RepL ρ H w cs xs ∧ CellsAt ρ H w a xs
  | .clo fn first caps, x => ∃ fs ks : List Value, x = .func fn fs.toArray ks.toArray ∧ RepL ρ H w first fs ∧ RepL ρ H w caps ks
  | .mp i, x => ∃ b, ρ i = some b ∧ x = .map (some b)
  | .gv g v, x => (g = true → Rep ρ H w v x) ∧ (g = false → x = undef)
  | .any, _ => True
def RepL (ρ : Nat → Option Nat) (H : AH) (w : World) : List AV → List Value → Prop
  | [], xs => xs = []
  | v :: vs, xs => ∃ y ys, xs = y :: ys ∧ Rep ρ H w v y ∧ RepL ρ H w vs ys
def RepLL (ρ : Nat → Option Nat) (H : AH) (w : World) : List (List AV) → List (List Value) → Prop
  | [], xs => xs = []
  | v :: vs, xs => ∃ y ys, xs = y :: ys ∧ RepL ρ H w v y ∧ RepLL ρ H w vs ys
end
def ObjOk (ρ : Nat → Option Nat) (H : AH) (w : World) (i : Nat) : AObj → Prop
  | .cells z es fz =>
    (∃ b ccs t xss, ρ i = some b ∧ w.heap[b]? = some (.cells ccs t (0, 0)) ∧ (∀ e ∈ es, e.length = z) ∧ RepLL ρ H w es xss ∧ fz ≤ es.length ∧ es.length * z ≤ ccs.size ∧
      ∀ (j k : Nat) xs v, xss[j]? = some xs → xs[k]? = some v → ccs[j * z + k]? = some v) ∨ (ρ i = none ∧ es = [] ∧ fz = 0)
  | .amap kvs => ∃ b es clock, ρ i = some b ∧ w.heap[b]? = some (.map es clock) ∧ es.toList.map (·.born) = List.range clock ∧ RepL ρ H w (kvs.map (·.2)) (es.toList.map (·.val)) ∧ kvs.map (·.1) = es.toList.map (·.key)
  | .amit m n seen => ∃ b bm, ρ i = some b ∧ ρ m = some bm ∧ w.heap[b]? = some (.mapIter (some bm) n seen.toArray n)
  | .anit => ∃ b, ρ i = some b ∧ w.heap[b]? = some (.mapIter none 0 #[] 0)
/- 'amit m n seen': what goes through the map m, which has n entries; those that have been seen. 'anit': through a nil map. -/
structure Holds (ρ : Nat → Option Nat) (H : AH) (w : World) : Prop where
  obj : ∀ i o, H.obj i = some o → ObjOk ρ H w i o
  inj : ∀ i j b oi oj, H.obj i = some oi → H.obj j = some oj → ρ i = some b → ρ j = some b → i = j
  lt : ∀ i o, H.obj i = some o → i < H.nxt
  bound : ∀ i b, ρ i = some b → i < H.nxt ∧ b < w.heap.size
structure Ext (ρ : Nat → Option Nat) (H : AH) (w : World) (ρ' : Nat → Option Nat) (H' : AH) (w' : World) : Prop where
  old : ∀ i b, ρ i = some b → i < H.nxt
  agree : ∀ i b, ρ i = some b → ρ' i = some b
  new : ∀ i b, ρ' i = some b → ρ i = some b ∨ (H.nxt ≤ i ∧ (w.heap.size ≤ b ∨ ∃ j o, H.obj j = some o ∧ ρ j = some b))
  live : ∀ i o, H'.obj i = some o → i < H.nxt → ∃ o', H.obj i = some o'
  nxt : H.nxt ≤ H'.nxt
  imm : ∀ (a : Addr) (v : Value), w.cell? a = some v → Imm ρ H a → w'.cell? a = some v ∧ Imm ρ' H' a
  size : w.heap.size ≤ w'.heap.size
  rest : ∀ (b : Nat), b < w.heap.size → (∀ i o, H.obj i = some o → ρ i ≠ some b) → w'.heap[b]? = w.heap[b]?
  shape : ∀ (b : Nat) (cs : Array Value) (t : TypeId) (fr : Nat × Nat), w.heap[b]? = some (.cells cs t fr) → ∃ cs', w'.heap[b]? = some (.cells cs' t fr) ∧ cs'.size = cs.size
  os : w'.os = w.os
  tape : w'.tape = w.tape
  output : w'.output = w.output
theorem Ext.refl {ρ : Nat → Option Nat} {H : AH} {w : World} (h : Holds ρ H w) : Ext ρ H w ρ H w :=
  ⟨fun i b h1 => (h.bound i b h1).1, fun _ _ h => h, fun _ _ h => .inl h, fun _ o h _ => ⟨o, h⟩, Nat.le_refl _, fun _ _ h k => ⟨h, k⟩, Nat.le_refl _, fun _ _ _ => rfl, fun _ cs _ _ h => ⟨cs, h, rfl⟩, rfl, rfl, rfl⟩
structure Ext0 (ρ : Nat → Option Nat) (H : AH) (w : World) (ρ' : Nat → Option Nat) (H' : AH) (w' : World) : Prop where
  agree : ∀ i b, ρ i = some b → ρ' i = some b
  imm : ∀ (a : Addr) (v : Value), w.cell? a = some v → Imm ρ H a → w'.cell? a = some v ∧ Imm ρ' H' a
  shape : ∀ (b : Nat) (cs : Array Value) (t : TypeId) (fr : Nat × Nat), w.heap[b]? = some (.cells cs t fr) → ∃ cs', w'.heap[b]? = some (.cells cs' t fr) ∧ cs'.size = cs.size
  nxt : H.nxt ≤ H'.nxt
theorem Ext.to0 {ρ : Nat → Option Nat} {H : AH} {w : World} {ρ' : Nat → Option Nat} {H' : AH} {w' : World} (h : Ext ρ H w ρ' H' w') : Ext0 ρ H w ρ' H' w' := ⟨h.agree, h.imm, h.shape, h.nxt⟩
theorem CellsAt.ext0 {ρ : Nat → Option Nat} {H : AH} {w : World} {ρ' : Nat → Option Nat} {H' : AH} {w' : World} {a : Addr} {xs : List Value}
    (he : Ext0 ρ H w ρ' H' w') (h : CellsAt ρ H w a xs) : CellsAt ρ' H' w' a xs :=
  fun j v hv => he.imm _ _ (h j v hv).1 (h j v hv).2
mutual
theorem Rep.ext0 {ρ : Nat → Option Nat} {H : AH} {w : World} {ρ' : Nat → Option Nat} {H' : AH} {w' : World} (he : Ext0 ρ H w ρ' H' w') :
    ∀ (v : AV) (x : Value), Rep ρ H w v x → Rep ρ' H' w' v x
  | .lit v, x, h => by simpa only [Rep] using h
  | .agg cs, x, h => by
    simp only [Rep] at h ⊢
    obtain ⟨xs, rfl, h⟩ := h
    exact ⟨xs, rfl, RepL.ext0 he cs xs h⟩
  | .tup cs, x, h => by
    simp only [Rep] at h ⊢
    obtain ⟨xs, rfl, h⟩ := h
    exact ⟨xs, rfl, RepL.ext0 he cs xs h⟩
  | .sl es, x, h => by
    simp only [Rep] at h ⊢
    obtain ⟨A, cap, rfl, h1, h2, h3⟩ := h
    refine ⟨A, cap, rfl, h1, h2, fun hne => ?_⟩
    obtain ⟨a, z, xss, rfl, h4, h5, h6⟩ := h3 hne
    exact ⟨a, z, xss, rfl, h4, RepLL.ext0 he es xss h5, fun j xs hj => (h6 j xs hj).ext0 he⟩
  | .esl, x, h => by simpa only [Rep] using h
  | .rsl i z off len, x, h => by
    simp only [Rep] at h ⊢
    rcases h with ⟨b, cap, ccs, t, fr, h1, rfl, h2, h3, h4, h5⟩ | h
    · obtain ⟨cs', h6, h7⟩ := he.shape _ _ _ _ h4
      exact .inl ⟨b, cap, cs', t, fr, he.agree _ _ h1, rfl, h2, h3, h6, by omega⟩
    · exact .inr ⟨h.1, Nat.lt_of_lt_of_le h.2.1 he.nxt, h.2.2⟩
  | .ptr i z e c, x, h => by
    simp only [Rep] at h ⊢
    obtain ⟨b, h1, rfl⟩ := h
    exact ⟨b, he.agree _ _ h1, rfl⟩
  | .iptr cs, x, h => by
    simp only [Rep] at h ⊢
    obtain ⟨a, xs, rfl, h1, h2⟩ := h
    exact ⟨a, xs, rfl, RepL.ext0 he cs xs h1, h2.ext0 he⟩
  | .clo fn first caps, x, h => by
    simp only [Rep] at h ⊢
    obtain ⟨fs, ks, rfl, h1, h2⟩ := h
    exact ⟨fs, ks, rfl, RepL.ext0 he first fs h1, RepL.ext0 he caps ks h2⟩
  | .mp i, x, h => by
    simp only [Rep] at h ⊢
    obtain ⟨b, h1, rfl⟩ := h
    exact ⟨b, he.agree _ _ h1, rfl⟩
  | .gv g v, x, h => by
    simp only [Rep] at h ⊢
    exact ⟨fun hg => Rep.ext0 he v x (h.1 hg), h.2⟩
  | .any, x, h => by simp only [Rep]
theorem RepL.ext0 {ρ : Nat → Option Nat} {H : AH} {w : World} {ρ' : Nat → Option Nat} {H' : AH} {w' : World} (he : Ext0 ρ H w ρ' H' w') :
    ∀ (vs : List AV) (xs : List Value), RepL ρ H w vs xs → RepL ρ' H' w' vs xs
  | [], xs, h => by simpa only [RepL] using h
  | v :: vs, xs, h => by
    simp only [RepL] at h ⊢
    obtain ⟨y, ys, rfl, h1, h2⟩ := h
    exact ⟨y, ys, rfl, Rep.ext0 he v y h1, RepL.ext0 he vs ys h2⟩
theorem RepLL.ext0 {ρ : Nat → Option Nat} {H : AH} {w : World} {ρ' : Nat → Option Nat} {H' : AH} {w' : World} (he : Ext0 ρ H w ρ' H' w') :
    ∀ (vs : List (List AV)) (xs : List (List Value)), RepLL ρ H w vs xs → RepLL ρ' H' w' vs xs
  | [], xs, h => by simpa only [RepLL] using h
  | v :: vs, xs, h => by
    simp only [RepLL] at h ⊢
    obtain ⟨y, ys, rfl, h1, h2⟩ := h
    exact ⟨y, ys, rfl, RepL.ext0 he v y h1, RepLL.ext0 he vs ys h2⟩
end
section
variable {ρ : Nat → Option Nat} {H : AH} {w : World} {ρ' : Nat → Option Nat} {H' : AH} {w' : World}
theorem CellsAt.ext {a : Addr} {xs : List Value} (he : Ext ρ H w ρ' H' w') (h : CellsAt ρ H w a xs) : CellsAt ρ' H' w' a xs := h.ext0 he.to0
theorem Rep.ext (he : Ext ρ H w ρ' H' w') (v : AV) (x : Value) (h : Rep ρ H w v x) : Rep ρ' H' w' v x := Rep.ext0 he.to0 v x h
theorem RepL.ext (he : Ext ρ H w ρ' H' w') (v : List AV) (x : List Value) (h : RepL ρ H w v x) : RepL ρ' H' w' v x := RepL.ext0 he.to0 v x h
theorem RepLL.ext (he : Ext ρ H w ρ' H' w') (v : List (List AV)) (x : List (List Value)) (h : RepLL ρ H w v x) : RepLL ρ' H' w' v x := RepLL.ext0 he.to0 v x h
end
section
variable {ρ : Nat → Option Nat} {H : AH} {w : World}
theorem RepL.length : ∀ {vs : List AV} {xs : List Value}, RepL ρ H w vs xs → xs.length = vs.length
  | [], xs, h => by simp only [RepL] at h; subst h; rfl
  | v :: vs, xs, h => by
    simp only [RepL] at h
    obtain ⟨y, ys, rfl, h1, h2⟩ := h
    simp [RepL.length h2]
theorem RepLL.length : ∀ {vs : List (List AV)} {xs : List (List Value)}, RepLL ρ H w vs xs → xs.length = vs.length
  | [], xs, h => by simp only [RepLL] at h; subst h; rfl
  | v :: vs, xs, h => by
    simp only [RepLL] at h
    obtain ⟨y, ys, rfl, h1, h2⟩ := h
    simp [RepLL.length h2]
theorem RepL.get : ∀ {vs : List AV} {xs : List Value}, RepL ρ H w vs xs → ∀ {j : Nat} {v}, vs[j]? = some v → ∃ x, xs[j]? = some x ∧ Rep ρ H w v x
  | [], xs, h, j, v, hv => by simp at hv
  | u :: vs, xs, h, j, v, hv => by
    simp only [RepL] at h
    obtain ⟨y, ys, rfl, h1, h2⟩ := h
    cases j with
    | zero => simp at hv; subst hv; exact ⟨y, rfl, h1⟩
    | succ j => simp at hv; obtain ⟨x, hx, hr⟩ := RepL.get h2 hv; exact ⟨x, by simpa using hx, hr⟩
theorem RepLL.get : ∀ {vs : List (List AV)} {xs : List (List Value)}, RepLL ρ H w vs xs → ∀ {j : Nat} {v}, vs[j]? = some v → ∃ x, xs[j]? = some x ∧ RepL ρ H w v x
  | [], xs, h, j, v, hv => by simp at hv
  | u :: vs, xs, h, j, v, hv => by
    simp only [RepLL] at h
    obtain ⟨y, ys, rfl, h1, h2⟩ := h
    cases j with
    | zero => simp at hv; subst hv; exact ⟨y, rfl, h1⟩
    | succ j => simp at hv; obtain ⟨x, hx, hr⟩ := RepLL.get h2 hv; exact ⟨x, by simpa using hx, hr⟩
theorem RepL.mk : ∀ {vs : List AV} {xs : List Value}, xs.length = vs.length → (∀ (j : Nat) v x, vs[j]? = some v → xs[j]? = some x → Rep ρ H w v x) → RepL ρ H w vs xs
  | [], xs, hl, _ => by simp only [RepL]; simpa using hl
  | v :: vs, [], hl, _ => by simp at hl
  | v :: vs, x :: xs, hl, h => by
    simp only [RepL]
    exact ⟨x, xs, rfl, h 0 v x rfl rfl, RepL.mk (by simpa using hl) fun j u y hu hy => h (j + 1) u y (by simpa using hu) (by simpa using hy)⟩
theorem RepLL.mk : ∀ {vs : List (List AV)} {xs : List (List Value)}, xs.length = vs.length → (∀ (j : Nat) v x, vs[j]? = some v → xs[j]? = some x → RepL ρ H w v x) → RepLL ρ H w vs xs
  | [], xs, hl, _ => by simp only [RepLL]; simpa using hl
  | v :: vs, [], hl, _ => by simp at hl
  | v :: vs, x :: xs, hl, h => by
    simp only [RepLL]
    exact ⟨x, xs, rfl, h 0 v x rfl rfl, RepLL.mk (by simpa using hl) fun j u y hu hy => h (j + 1) u y (by simpa using hu) (by simpa using hy)⟩
theorem RepL.get_both {vs : List AV} {xs : List Value} (h : RepL ρ H w vs xs) {j : Nat} {v : AV} {x : Value} (hv : vs[j]? = some v) (hx : xs[j]? = some x) : Rep ρ H w v x := by
  obtain ⟨y, hy, hr⟩ := h.get hv
  rw [hy] at hx
  injection hx with hx
  exact hx ▸ hr
theorem RepLL.get_both {vs : List (List AV)} {xs : List (List Value)} (h : RepLL ρ H w vs xs) {j : Nat} {v : List AV} {x : List Value} (hv : vs[j]? = some v) (hx : xs[j]? = some x) : RepL ρ H w v x := by
  obtain ⟨y, hy, hr⟩ := h.get hv
  rw [hy] at hx
  injection hx with hx
  exact hx ▸ hr
theorem RepL.append {vs us : List AV} {xs ys : List Value} (h : RepL ρ H w vs xs) (k : RepL ρ H w us ys) : RepL ρ H w (vs ++ us) (xs ++ ys) := by
  refine RepL.mk (by simp [h.length, k.length]) fun j v x hv hx => ?_
  rw [List.getElem?_append] at hv hx
  rw [h.length] at hx
  split at hv
  · rename_i hj
    rw [if_pos hj] at hx
    exact h.get_both hv hx
  · rename_i hj
    rw [if_neg hj] at hx
    exact k.get_both hv hx
theorem RepLL.append {vs us : List (List AV)} {xs ys : List (List Value)} (h : RepLL ρ H w vs xs) (k : RepLL ρ H w us ys) : RepLL ρ H w (vs ++ us) (xs ++ ys) := by
  refine RepLL.mk (by simp [h.length, k.length]) fun j v x hv hx => ?_
  rw [List.getElem?_append] at hv hx
  rw [h.length] at hx
  split at hv
  · rename_i hj
    rw [if_pos hj] at hx
    exact h.get_both hv hx
  · rename_i hj
    rw [if_neg hj] at hx
    exact k.get_both hv hx
theorem RepL.drop {vs : List AV} {xs : List Value} (h : RepL ρ H w vs xs) (n : Nat) : RepL ρ H w (vs.drop n) (xs.drop n) :=
  RepL.mk (by simp [h.length]) fun j v x hv hx => h.get_both (j := n + j) (by rwa [List.getElem?_drop] at hv) (by rwa [List.getElem?_drop] at hx)
theorem RepL.take {vs : List AV} {xs : List Value} (h : RepL ρ H w vs xs) (n : Nat) : RepL ρ H w (vs.take n) (xs.take n) := by
  refine RepL.mk (by simp [h.length]) fun j v x hv hx => ?_
  rw [List.getElem?_take] at hv hx
  split at hv
  · rename_i hj
    rw [if_pos hj] at hx
    exact h.get_both hv hx
  · cases hv
theorem RepLL.drop {vs : List (List AV)} {xs : List (List Value)} (h : RepLL ρ H w vs xs) (n : Nat) : RepLL ρ H w (vs.drop n) (xs.drop n) :=
  RepLL.mk (by simp [h.length]) fun j v x hv hx => h.get_both (j := n + j) (by rwa [List.getElem?_drop] at hv) (by rwa [List.getElem?_drop] at hx)
theorem RepLL.take {vs : List (List AV)} {xs : List (List Value)} (h : RepLL ρ H w vs xs) (n : Nat) : RepLL ρ H w (vs.take n) (xs.take n) := by
  refine RepLL.mk (by simp [h.length]) fun j v x hv hx => ?_
  rw [List.getElem?_take] at hv hx
  split at hv
  · rename_i hj
    rw [if_pos hj] at hx
    exact h.get_both hv hx
  · cases hv
theorem RepLL.elem_length {vs : List (List AV)} {xs : List (List Value)} (h : RepLL ρ H w vs xs) {z : Nat} (hz : ∀ e ∈ vs, e.length = z) : ∀ y ∈ xs, y.length = z := by
  intro y hy
  obtain ⟨j, hj⟩ := List.getElem?_of_mem hy
  have hlt : j < vs.length := by
    rw [← h.length]
    exact (List.getElem?_eq_some_iff.1 hj).1
  have hv : vs[j]? = some vs[j] := List.getElem?_eq_getElem hlt
  rw [(h.get_both hv hj).length]
  exact hz _ (List.getElem_mem hlt)
theorem RepL.single {v : AV} {x : Value} (h : Rep ρ H w v x) : RepL ρ H w [v] [x] := by
  simp only [RepL]; exact ⟨x, [], rfl, h, rfl⟩
end
theorem Ext.trans {ρ1 ρ2 ρ3 : Nat → Option Nat} {H1 H2 H3 : AH} {w1 w2 w3 : World} (h : Ext ρ1 H1 w1 ρ2 H2 w2) (k : Ext ρ2 H2 w2 ρ3 H3 w3) : Ext ρ1 H1 w1 ρ3 H3 w3 where
  old := h.old
  agree := fun i b hi => k.agree i b (h.agree i b hi)
  new := fun i b hi => by
    have back : ∀ j o, H2.obj j = some o → ρ2 j = some b → w1.heap.size ≤ b ∨ ∃ j o, H1.obj j = some o ∧ ρ1 j = some b := by
      intro j o ho hj
      rcases h.new j b hj with h1 | ⟨_, h2⟩
      · obtain ⟨o', ho'⟩ := h.live j o ho (h.old j b h1)
        exact .inr ⟨j, o', ho', h1⟩
      · exact h2
    rcases k.new i b hi with h1 | ⟨h1, h2 | ⟨j, o, ho, hj⟩⟩
    · exact h.new i b h1
    · exact .inr ⟨Nat.le_trans h.nxt h1, .inl (Nat.le_trans h.size h2)⟩
    · exact .inr ⟨Nat.le_trans h.nxt h1, back j o ho hj⟩
  live := fun i o ho hi => by
    obtain ⟨o', ho'⟩ := k.live i o ho (Nat.lt_of_lt_of_le hi h.nxt)
    exact h.live i o' ho' hi
  nxt := Nat.le_trans h.nxt k.nxt
  imm := fun a v hc hi => let ⟨h1, h2⟩ := h.imm a v hc hi; k.imm a v h1 h2
  size := Nat.le_trans h.size k.size
  rest := fun b hlt hno => by
    rw [k.rest b (Nat.lt_of_lt_of_le hlt h.size) fun i o ho hρ => ?_]
    · exact h.rest b hlt hno
    · rcases h.new i b hρ with h1 | ⟨_, h2 | ⟨j, o', ho', hj⟩⟩
      · obtain ⟨o', ho'⟩ := h.live i o ho (h.old i b h1)
        exact hno i o' ho' h1
      · omega
      · exact hno j o' ho' hj
  shape := fun b cs t fr hc => by
    obtain ⟨cs', h1, h2⟩ := h.shape b cs t fr hc
    obtain ⟨cs'', h3, h4⟩ := k.shape b cs' t fr h1
    exact ⟨cs'', h3, h4.trans h2⟩
  os := k.os.trans h.os
  tape := k.tape.trans h.tape
  output := k.output.trans h.output
end Go.Sim
namespace Go.Sim
def descAgg : Option TypeDesc → Bool
  | some (.struct _) => true
  | some (.array _ _) => true
  | _ => false
def _root_.Go.Program.tfields (P : Program) (t : TypeId) : Option (Array Field) :=
  match P.underlying t with
  | some (.struct fs) => some fs
  | _ => none
def _root_.Go.Program.tfld (P : Program) (t : TypeId) (f : Nat) : Option (Nat × TypeId) := (P.tfields t).bind fun fs => (fs[f]?).map fun x => (x.offset, x.type)
def _root_.Go.Program.tel (P : Program) (t : TypeId) : Option TypeId :=
  match P.underlying t with
  | some (.slice e) => some e
  | _ => none
def _root_.Go.Program.tarr (P : Program) (t : TypeId) : Option (Nat × TypeId) :=
  match P.underlying t with
  | some (.array n e) => some (n, e)
  | _ => none
abbrev Tm := List (Nat × AV)
def tget : Tm → Nat → AV
  | [], _ => .any
  | (i, v) :: T, j => if i = j then v else tget T j
def tput (T : Tm) (d : Option Nat) (v : AV) : Tm :=
  match d with
  | some d => (d, v) :: T
  | none => T
theorem tput_some (T : Tm) (d : Nat) (v : AV) : tput T (some d) v = (d, v) :: T := rfl
theorem tput_none (T : Tm) (v : AV) : tput T none v = T := rfl
def RepT (ρ : Nat → Option Nat) (H : AH) (w : World) (T : Tm) (tmps : Array Value) : Prop := ∀ t, Rep ρ H w (tget T t) (tmps.getD t undef)
theorem RepT.ext {ρ : Nat → Option Nat} {H : AH} {w : World} {ρ' : Nat → Option Nat} {H' : AH} {w' : World} {T : Tm} {tmps : Array Value}
    (he : Ext ρ H w ρ' H' w') (h : RepT ρ H w T tmps) : RepT ρ' H' w' T tmps := fun t => (h t).ext he
theorem RepT.put {ρ : Nat → Option Nat} {H : AH} {w : World} {T : Tm} {a : Act} (h : RepT ρ H w T a.tmps) {d : Option Nat} {v : AV} {x : Value}
    (hd : ∀ i, d = some i → i < a.tmps.size) (hr : Rep ρ H w v x) : RepT ρ H w (tput T d v) (a.put d x).tmps := by
  cases d with
  | none => exact h
  | some d =>
    intro t
    have hlt := hd d rfl
    simp only [tput, tget, Act.put]
    by_cases e : d = t
    · subst e
      rw [if_pos rfl]
      have : (a.tmps.setIfInBounds d x).getD d undef = x := by simp [Array.getD, hlt]
      rw [this]
      exact hr
    · rw [if_neg e]
      have : (a.tmps.setIfInBounds d x).getD t undef = a.tmps.getD t undef := by
        simp only [Array.getD_eq_getD_getElem?, Array.getElem?_setIfInBounds]
        rw [if_neg e]
      rw [this]
      exact h t
def ofV : Value → AV
  | .agg cs => .agg (cs.toList.map .lit)
  | v => .lit v
theorem rep_lits (ρ : Nat → Option Nat) (H : AH) (w : World) : ∀ l : List Value, RepL ρ H w (l.map .lit) l
  | [] => by simp only [List.map_nil, RepL]
  | x :: l => by simp only [List.map_cons, RepL, Rep]; exact ⟨x, l, rfl, rfl, rep_lits ρ H w l⟩
theorem rep_ofV (ρ : Nat → Option Nat) (H : AH) (w : World) (v : Value) : Rep ρ H w (ofV v) v := by
  unfold ofV
  split
  · rename_i cs
    simp only [Rep]
    exact ⟨cs.toList, by simp, rep_lits ρ H w _⟩
  · simp only [Rep]
def ev (T : Tm) : Operand → AV
  | .tmp t => tget T t
  | .const v => ofV v
  | .func f => .clo (.func f) [] []
  | .global _ => .any
def AV.core : AV → AV
  | .gv _ v => v
  | v => v
def AV.grd : AV → Bool
  | .gv g _ => g
  | _ => true
theorem rep_ev {ρ : Nat → Option Nat} {H : AH} {w : World} {T : Tm} {a : Act} (h : RepT ρ H w T a.tmps) (x : Operand) : Rep ρ H w (ev T x) (a.eval x) := by
  cases x with
  | tmp t => exact h t
  | const v => exact rep_ofV ρ H w v
  | global g => simp only [ev, Rep]
  | func f => simp only [ev, Rep, Act.eval, RepL]; exact ⟨[], [], rfl, rfl, rfl⟩
theorem rep_core {ρ : Nat → Option Nat} {H : AH} {w : World} {v : AV} {x : Value} (h : Rep ρ H w v x) (hg : v.grd = true) : Rep ρ H w v.core x := by
  cases v with
  | gv g v => simp only [Rep] at h; exact h.1 hg
  | _ => exact h
def gokL (T : Tm) : List Operand → Prop
  | [] => True
  | x :: xs => (ev T x).grd = true ∧ gokL T xs
theorem rep_evc {ρ : Nat → Option Nat} {H : AH} {w : World} {T : Tm} {a : Act} (h : RepT ρ H w T a.tmps) {x : Operand} (hg : (ev T x).grd = true) : Rep ρ H w (ev T x).core (a.eval x) :=
  rep_core (rep_ev h x) hg
def bitsOf (k : IntKind) (f : BitVec k.bits → BitVec k.bits → BitVec k.bits) (a b : Int) : Int := k.wrap (f (BitVec.ofInt k.bits a) (BitVec.ofInt k.bits b)).toNat
def band (k : IntKind) (a b : Int) : Int := bitsOf k (· &&& ·) a b
def bor (k : IntKind) (a b : Int) : Int := bitsOf k (· ||| ·) a b
def bxor (k : IntKind) (a b : Int) : Int := bitsOf k (· ^^^ ·) a b
def bandNot (k : IntKind) (a b : Int) : Int := bitsOf k (fun x y => x &&& ~~~y) a b
def bshl (k : IntKind) (a b : Int) : Int := k.wrap (a * 2 ^ (min b.toNat k.bits))
def bshr (k : IntKind) (a b : Int) : Int := a.fdiv (2 ^ (min b.toNat k.bits))
def aint (op : BinOp) (k : IntKind) (a b : Int) : Option (Prop × Value) :=
  match op with
  | .add => some (True, .int k (k.wrap (a + b)))
  | .sub => some (True, .int k (k.wrap (a - b)))
  | .mul => some (True, .int k (k.wrap (a * b)))
  | .quo => some (b ≠ 0, .int k (k.wrap (a.tdiv b)))
  | .rem => some (b ≠ 0, .int k (a.tmod b))
  | .and => some (True, .int k (band k a b))
  | .or => some (True, .int k (bor k a b))
  | .xor => some (True, .int k (bxor k a b))
  | .andNot => some (True, .int k (bandNot k a b))
  | .eql => some (True, .bool (decide (a = b)))
  | .neq => some (True, .bool (!decide (a = b)))
  | .lss => some (True, .bool (decide (a < b)))
  | .leq => some (True, .bool (decide (a ≤ b)))
  | .gtr => some (True, .bool (decide (b < a)))
  | .geq => some (True, .bool (decide (b ≤ a)))
  | .shl => some (0 ≤ b, .int k (bshl k a b))
  | .shr => some (0 ≤ b, .int k (bshr k a b))
theorem aint_ok {P : Program} {w : World} {t : TypeId} {op : BinOp} {k : IntKind} {a b : Int} {φ : Prop} {r : Value} (h : aint op k a b = some (φ, r)) (hφ : φ) :
    (binOp op t (.int k a) (.int k b)).run P w = .ok r w := by
  cases op <;> simp only [aint, Option.some.injEq, Prod.mk.injEq] at h <;> obtain ⟨rfl, rfl⟩ := h
  case shl => simp only [binOp, Op.shift, if_neg (show ¬ b < 0 by omega), bshl, Sem.run_pure]
  case shr => simp only [binOp, Op.shift, if_neg (show ¬ b < 0 by omega), bshr, Sem.run_pure]
  case quo => simp only [binOp, Op.intDiv, ne_eq, not_true, if_false, if_neg hφ, Sem.run_pure]
  case rem => simp only [binOp, Op.intDiv, ne_eq, not_true, if_false, if_neg hφ, Sem.run_pure]
  all_goals simp only [binOp, Op.intArith, Op.intBits, Op.intCmp, ne_eq, not_true, if_false, Sem.run_pure, band, bor, bxor, bandNot, bitsOf]
  all_goals rfl
theorem ashift_ok {P : Program} {w : World} {t : TypeId} {k k' : IntKind} {a b : Int} (hb : 0 ≤ b) :
    (binOp .shl t (.int k a) (.int k' b)).run P w = .ok (.int k (bshl k a b)) w ∧ (binOp .shr t (.int k a) (.int k' b)).run P w = .ok (.int k (bshr k a b)) w := by
  constructor <;> simp only [binOp, Op.shift, if_neg (show ¬ b < 0 by omega), bshl, bshr, Sem.run_pure]
def astr (op : BinOp) (a b : ByteArray) : Option (Prop × Value) :=
  match op with
  | .add => some (a.size + b.size ≤ 9223372036854775807, .string (a ++ b))
  | .eql => some (True, .bool (a.toList == b.toList))
  | .neq => some (True, .bool (!(a.toList == b.toList)))
  | .lss => some (True, .bool (Op.bytesLess a.toList b.toList))
  | .geq => some (True, .bool (!Op.bytesLess a.toList b.toList))
  | _ => none
theorem astr_ok {P : Program} {w : World} {t : TypeId} {op : BinOp} {a b : ByteArray} {φ : Prop} {r : Value} (h : astr op a b = some (φ, r)) (hφ : φ) :
    (binOp op t (.string a) (.string b)).run P w = .ok r w := by
  cases op <;> simp only [astr, Option.some.injEq, Prod.mk.injEq, reduceCtorEq] at h <;> obtain ⟨rfl, rfl⟩ := h
  case add =>
    have : ¬ (((a.size + b.size : Nat) : Int) > IntKind.i64.max) := by
      have h64 : IntKind.i64.max = 9223372036854775807 := by decide
      rw [h64]
      omega
    simp only [binOp, Op.stringOp, if_neg this, Sem.run_pure]
  all_goals simp only [binOp, Op.stringOp, Sem.run_pure]
def CmpAt (P : Program) (t : TypeId) (xs ys : List Value) (b : Bool) : Prop :=
  ∀ w : World, (Op.equal t (.agg xs.toArray) (.agg ys.toArray)).run P w = .ok b w ∧ (∀ x y : Operand, ∀ op : BinOp, (eqGuard op t x y (.agg xs.toArray) (.agg ys.toArray)).run P w = .ok () w)
def lits : List AV → Option (List Value)
  | [] => some []
  | .lit v :: l => (lits l).map (v :: ·)
  | _ => none
theorem rep_of_lits {ρ : Nat → Option Nat} {H : AH} {w : World} : ∀ {cs : List AV} {xs : List Value} {vs : List Value}, lits cs = some vs → RepL ρ H w cs xs → xs = vs
  | [], xs, vs, h, hr => by simp only [lits, Option.some.injEq] at h; simp only [RepL] at hr; subst h; exact hr
  | .lit v :: cs, xs, vs, h, hr => by
    simp only [lits, Option.map_eq_some_iff] at h
    obtain ⟨us, h1, rfl⟩ := h
    simp only [RepL, Rep] at hr
    obtain ⟨y, ys, rfl, rfl, h2⟩ := hr
    rw [rep_of_lits h1 h2]
  | .agg _ :: _, _, _, h, _ | .tup _ :: _, _, _, h, _ | .sl _ :: _, _, _, h, _ | .esl :: _, _, _, h, _ | .rsl .. :: _, _, _, h, _ | .ptr .. :: _, _, _, h, _
  | .iptr _ :: _, _, _, h, _ | .clo .. :: _, _, _, h, _ | .mp _ :: _, _, _, h, _ | .gv .. :: _, _, _, h, _ | .any :: _, _, _, h, _ => by simp [lits] at h
def cellEq : Value → Value → Bool
  | .int _ a, .int _ b => decide (a = b)
  | .bool a, .bool b => a == b
  | .string a, .string b => a.toList == b.toList
  | _, _ => false
def cellsEq : List Value → List Value → Bool
  | [], [] => true
  | x :: xs, y :: ys => cellEq x y && cellsEq xs ys
  | _, _ => false
def isEq : BinOp → Option Bool
  | .eql => some true
  | .neq => some false
  | _ => none
def abin (P : Program) (op : BinOp) (t : TypeId) : AV → AV → Option (Prop × AV)
  | .lit (.int k a), .lit (.int k' b) =>
    if k = k' then (aint op k a b).map fun (φ, r) => (φ, .lit r)
    else match op with
      | .shl => some (0 ≤ b, .lit (.int k (bshl k a b)))
      | .shr => some (0 ≤ b, .lit (.int k (bshr k a b)))
      | _ => none
  | .lit (.bool a), .lit (.bool b) => (isEq op).map fun e => (P.underlying t = some .bool, .bool (if e then a == b else !(a == b)))
  | .lit (.string a), .lit (.string b) => (astr op a b).map fun (φ, r) => (φ, .lit r)
  | .agg cs, .agg ds =>
    match isEq op, lits cs, lits ds with
    | some e, some xs, some ys => some (CmpAt P t xs ys (cellsEq xs ys), .bool (if e then cellsEq xs ys else !(cellsEq xs ys)))
    | _, _, _ => none
  | _, _ => none
theorem eqGuard_lit {P : Program} {w : World} {op : BinOp} {t : TypeId} {x y : Operand} {a b : Value}
    (h : (∀ c, a ≠ .agg c) ∧ a ≠ .nilIface) : (eqGuard op t x y a b).run P w = .ok () w := by
  cases op <;> cases a <;> first | rfl | exact absurd rfl h.2 | exact absurd rfl (h.1 _)
theorem equalIn_bool {P : Program} {w : World} {t : TypeId} (h : P.underlying t = some .bool) (n : Nat) (a b : Bool) : (Op.equalIn (n + 1) t (.bool a) (.bool b)).run P w = .ok (a == b) w := by
  simp only [Op.equalIn, Sem.run_bind, run_underlying h, Result.andThen_ok, Sem.run_pure]
theorem abin_ok {P : Program} {ρ : Nat → Option Nat} {H : AH} {w : World} {op : BinOp} {t : TypeId} {x y : Operand} {va vb : AV} {a b : Value} {φ : Prop} {r : AV}
    (h : abin P op t va vb = some (φ, r)) (hφ : φ) (ha : Rep ρ H w va a) (hb : Rep ρ H w vb b) :
    ∃ z, (do eqGuard op t x y a b; binOp op t a b : Sem Value).run P w = .ok z w ∧ Rep ρ H w r z := by
  unfold abin at h
  split at h
  · rename_i k a' k' b'
    simp only [Rep] at ha hb
    subst ha hb
    have hg : (eqGuard op t x y (.int k a') (.int k' b')).run P w = .ok () w := eqGuard_lit ⟨fun _ => by simp, by simp⟩
    simp only [Sem.run_bind, hg, Result.andThen_ok]
    split at h
    · rename_i hk
      subst hk
      simp only [Option.map_eq_some_iff, Prod.mk.injEq] at h
      obtain ⟨⟨ψ, v⟩, h1, rfl, rfl⟩ := h
      exact ⟨v, aint_ok h1 hφ, by simp only [Rep]⟩
    · split at h
      · simp only [Option.some.injEq, Prod.mk.injEq] at h
        obtain ⟨rfl, rfl⟩ := h
        exact ⟨_, (ashift_ok hφ).1, by simp only [Rep]⟩
      · simp only [Option.some.injEq, Prod.mk.injEq] at h
        obtain ⟨rfl, rfl⟩ := h
        exact ⟨_, (ashift_ok hφ).2, by simp only [Rep]⟩
      · cases h
  · rename_i a' b'
    simp only [Rep] at ha hb
    subst ha hb
    have hg : (eqGuard op t x y (.bool a') (.bool b')).run P w = .ok () w := eqGuard_lit ⟨fun _ => by simp, by simp⟩
    simp only [Sem.run_bind, hg, Result.andThen_ok]
    simp only [Option.map_eq_some_iff, Prod.mk.injEq] at h
    obtain ⟨e, h1, rfl, rfl⟩ := h
    have heq : (Op.equal t (.bool a') (.bool b')).run P w = .ok (a' == b') w := by
      exact equalIn_bool hφ 9999 a' b'
    cases op <;> simp only [isEq, Option.some.injEq, reduceCtorEq] at h1 <;> subst h1
    · exact ⟨.bool (a' == b'), by simp only [binOp, Sem.run_bind, heq, Result.andThen_ok, Sem.run_pure], by simp only [Rep, if_true]⟩
    · exact ⟨.bool (!(a' == b')), by simp only [binOp, Sem.run_bind, heq, Result.andThen_ok, Sem.run_pure], by simp [Rep]⟩
  · rename_i a' b'
    simp only [Rep] at ha hb
    subst ha hb
    have hg : (eqGuard op t x y (.string a') (.string b')).run P w = .ok () w := eqGuard_lit ⟨fun _ => by simp, by simp⟩
    simp only [Sem.run_bind, hg, Result.andThen_ok]
    simp only [Option.map_eq_some_iff, Prod.mk.injEq] at h
    obtain ⟨⟨ψ, v⟩, h1, rfl, rfl⟩ := h
    exact ⟨v, astr_ok h1 hφ, by simp only [Rep]⟩
  · rename_i cs ds
    split at h
    · rename_i e xs ys h1 h2 h3
      simp only [Option.some.injEq, Prod.mk.injEq] at h
      obtain ⟨rfl, rfl⟩ := h
      simp only [Rep] at ha hb
      obtain ⟨us, rfl, ha⟩ := ha
      obtain ⟨vs, rfl, hb⟩ := hb
      have e1 := rep_of_lits h2 ha
      have e2 := rep_of_lits h3 hb
      subst e1 e2
      obtain ⟨heq, hg⟩ := hφ w
      simp only [Sem.run_bind, hg x y op, Result.andThen_ok]
      cases op <;> simp only [isEq, Option.some.injEq, reduceCtorEq] at h1 <;> subst h1
      · exact ⟨.bool (cellsEq us vs), by simp only [binOp, Sem.run_bind, heq, Result.andThen_ok, Sem.run_pure], by simp only [Rep, if_true]⟩
      · exact ⟨.bool (!cellsEq us vs), by simp only [binOp, Sem.run_bind, heq, Result.andThen_ok, Sem.run_pure], by simp [Rep]⟩
    · cases h
  · cases h
theorem add_add (a : Addr) (m n : Nat) : (a.add m).add n = a.add (m + n) := by
  unfold Addr.add
  by_cases h1 : m = 0 <;> by_cases h2 : n = 0 <;> simp [h1, h2, Nat.add_assoc]
theorem add_zero (a : Addr) : a.add 0 = a := by simp [Addr.add]
theorem add_flat (b o n : Nat) : (⟨b, o, none⟩ : Addr).add n = ⟨b, o + n, none⟩ := by
  unfold Addr.add
  split
  · rename_i h; simp [h]
  · rfl
theorem CellsAt.drop {ρ : Nat → Option Nat} {H : AH} {w : World} {a : Addr} {xs : List Value} (h : CellsAt ρ H w a xs) (n : Nat) : CellsAt ρ H w (a.add n) (xs.drop n) := by
  intro j v hv
  rw [List.getElem?_drop] at hv
  rw [add_add]
  exact h _ _ hv
theorem CellsAt.take {ρ : Nat → Option Nat} {H : AH} {w : World} {a : Addr} {xs : List Value} (h : CellsAt ρ H w a xs) (n : Nat) : CellsAt ρ H w a (xs.take n) := by
  intro j v hv
  rw [List.getElem?_take] at hv
  split at hv
  · exact h _ _ hv
  · cases hv
theorem Holds.elem {ρ : Nat → Option Nat} {H : AH} {w : World} (hh : Holds ρ H w) {i z fz e b : Nat} {es : List (List AV)} {cs : List AV} (ho : H.obj i = some (.cells z es fz)) (hb : ρ i = some b) (he : es[e]? = some cs) :
    ∃ xs, RepL ρ H w cs xs ∧ cs.length = z ∧ ∀ (k : Nat) v, xs[k]? = some v → w.cell? ⟨b, e * z + k, none⟩ = some v ∧ w.frozen? ⟨b, e * z + k, none⟩ = false := by
  rcases hh.obj i _ ho with ⟨b', ccs, t, xss, h1, h2, h3, h4, h5, h6, h7⟩ | ⟨_, h, _⟩
  · rw [hb] at h1
    injection h1 with h1
    subst h1
    obtain ⟨xs, hx, hr⟩ := h4.get he
    refine ⟨xs, hr, h3 _ (List.mem_of_getElem? he), fun k v hv => ?_⟩
    have := h7 e k xs v hx hv
    exact ⟨by simp [World.cell?, h2, this], by simp [World.frozen?, h2]⟩
  · subst h
    simp at he
end Go.Sim
namespace Go.Sim
variable {P : Program} {ρ : Nat → Option Nat} {H : AH} {w : World}
def tload (P : Program) (t : TypeId) : Option (Nat × Bool) :=
  match P.info? t, P.underlying t with
  | some i, some d => some (i.size, descAgg (some d))
  | _, _ => none
theorem tload_ok {t : TypeId} {n : Nat} {g : Bool} (h : tload P t = some (n, g)) (w : World) :
    (sizeOf t).run P w = .ok n w ∧ (isAgg t).run P w = .ok g w ∧ ∃ i, P.info? t = some i ∧ i.size = n := by
  unfold tload at h
  split at h
  · rename_i i d hi hd
    simp only [Option.some.injEq, Prod.mk.injEq] at h
    obtain ⟨rfl, rfl⟩ := h
    refine ⟨by simp [sizeOf, typeInfo, hi], ?_, i, hi, rfl⟩
    simp only [isAgg, Sem.run_bind, run_underlying hd, Result.andThen_ok]
    cases d <;> simp [descAgg]
  · cases h
def tfld (P : Program) (t : TypeId) (f : Nat) : Option (Nat × Nat × Bool) :=
  match P.underlying t with
  | some (.struct fs) => (fs[f]?).bind fun x => (tload P x.type).map fun (n, g) => (x.offset, n, g)
  | _ => none
theorem tfld_ok {t : TypeId} {f o n : Nat} {g : Bool} (h : tfld P t f = some (o, n, g)) :
    ∃ fs x, P.underlying t = some (.struct fs) ∧ fs[f]? = some x ∧ x.offset = o ∧ tload P x.type = some (n, g) := by
  unfold tfld at h
  split at h
  · rename_i fs hu
    simp only [Option.bind_eq_some_iff, Option.map_eq_some_iff, Prod.mk.injEq] at h
    obtain ⟨x, hx, ⟨n', g'⟩, hl, rfl, rfl, rfl⟩ := h
    exact ⟨fs, x, hu, hx, rfl, hl⟩
  · cases h
def tel (P : Program) (t : TypeId) : Option (Nat × Bool) :=
  match P.underlying t with
  | some (.slice e) => tload P e
  | _ => none
theorem tel_ok {t : TypeId} {n : Nat} {g : Bool} (h : tel P t = some (n, g)) : ∃ e, P.underlying t = some (.slice e) ∧ tload P e = some (n, g) := by
  unfold tel at h
  split at h
  · rename_i e hu; exact ⟨e, hu, h⟩
  · cases h
def tarr (P : Program) (t : TypeId) : Option (Nat × Nat × Bool) :=
  match P.underlying t with
  | some (.array n e) => (tload P e).map fun (z, g) => (n, z, g)
  | _ => none
theorem tarr_ok {t : TypeId} {n z : Nat} {g : Bool} (h : tarr P t = some (n, z, g)) : ∃ e, P.underlying t = some (.array n e) ∧ tload P e = some (z, g) := by
  unfold tarr at h
  split at h
  · rename_i m e hu
    simp only [Option.map_eq_some_iff, Prod.mk.injEq] at h
    obtain ⟨⟨z', g'⟩, hl, rfl, rfl, rfl⟩ := h
    exact ⟨e, hu, hl⟩
  · cases h
def AV.one : AV → Bool
  | .lit v => v.oneCell'
  | .agg _ | .tup _ | .gv _ _ | .any => false
  | _ => true
def acells : AV → List AV
  | .agg cs => cs
  | v => [v]
theorem one_ok {v : AV} {x : Value} (h : v.one = true) (hr : Rep ρ H w v x) : x.oneCell' = true := by
  cases v <;> simp only [AV.one, Bool.false_eq_true] at h <;> simp only [Rep] at hr
  case lit v => subst hr; exact h
  case sl es => obtain ⟨A, cap, rfl, _⟩ := hr; rfl
  case esl => obtain ⟨A, rfl⟩ := hr; rfl
  case rsl => rcases hr with ⟨b, cap, _, _, _, _, rfl, _⟩ | ⟨_, _, A, rfl⟩ <;> rfl
  case ptr => obtain ⟨b, _, rfl⟩ := hr; rfl
  case iptr => obtain ⟨a, xs, rfl, _⟩ := hr; rfl
  case clo => obtain ⟨fs, ks, rfl, _⟩ := hr; rfl
  case mp => obtain ⟨b, _, rfl⟩ := hr; rfl
theorem cells_of_one {x : Value} (h : x.oneCell' = true) : x.cells = #[x] := by cases x <;> first | rfl | cases h
def AV.fit : AV → Bool
  | .agg _ => true
  | v => v.one
theorem acells_ok {v : AV} {x : Value} (h : v.fit = true) (hr : Rep ρ H w v x) : RepL ρ H w (acells v) x.cells.toList := by
  cases v with
  | agg cs => simp only [Rep] at hr; obtain ⟨xs, rfl, hr⟩ := hr; simpa [Value.cells, acells] using hr
  | lit v => rw [cells_of_one (one_ok (v := .lit v) h hr)]; exact RepL.single hr
  | tup v => cases h
  | sl es => rw [cells_of_one (one_ok (v := .sl es) rfl hr)]; exact RepL.single hr
  | esl => rw [cells_of_one (one_ok (v := .esl) rfl hr)]; exact RepL.single hr
  | rsl i z o l => rw [cells_of_one (one_ok (v := .rsl i z o l) rfl hr)]; exact RepL.single hr
  | ptr i z e c => rw [cells_of_one (one_ok (v := .ptr i z e c) rfl hr)]; exact RepL.single hr
  | iptr cs => rw [cells_of_one (one_ok (v := .iptr cs) rfl hr)]; exact RepL.single hr
  | clo f a b => rw [cells_of_one (one_ok (v := .clo f a b) rfl hr)]; exact RepL.single hr
  | mp i => rw [cells_of_one (one_ok (v := .mp i) rfl hr)]; exact RepL.single hr
  | gv g v => cases h
  | any => cases h
def apart (cs : List AV) (o n : Nat) (g : Bool) : AV := if g then .agg ((cs.drop o).take n) else cs.getD o .any
theorem apart_ok {cs : List AV} {xs : List Value} (h : RepL ρ H w cs xs) {o n : Nat} {g : Bool} {t : TypeId} (ht : tload P t = some (n, g)) (hn : o + n ≤ cs.length) (h1 : g = false → o < cs.length) :
    ∃ x, (part t xs.toArray o).run P w = .ok x w ∧ Rep ρ H w (apart cs o n g) x := by
  obtain ⟨hs, ha, _⟩ := tload_ok ht w
  cases g with
  | true =>
    refine ⟨.agg (xs.toArray.extract o (o + n)), by simp [part, ha, hs], ?_⟩
    simp only [apart, if_true, Rep]
    refine ⟨(xs.drop o).take n, ?_, (h.drop o).take n⟩
    congr 1
    apply Array.ext'
    simp
  | false =>
    have hlt := h1 rfl
    have hv : cs[o]? = some cs[o] := List.getElem?_eq_getElem hlt
    obtain ⟨x, hx, hr⟩ := h.get hv
    refine ⟨x, by simp [part, ha, hx], ?_⟩
    simp only [apart, Bool.false_eq_true, if_false, List.getD_eq_getElem?_getD, hv, Option.getD_some]
    exact hr
def aload (P : Program) (t : TypeId) (H : AH) : AV → Option (Prop × AV)
  | .ptr i z e c =>
    match H.obj i, tload P t with
    | some (.cells z' es _), some (n, g) => some (z' = z ∧ e < es.length ∧ c + (if g then n else 1) ≤ z, apart (es.getD e []) c n g)
    | _, _ => none
  | .iptr cs =>
    match tload P t with
    | some (n, g) => some ((if g then n else 1) ≤ cs.length, apart cs 0 n g)
    | none => none
  | _ => none
theorem load_cells {a : Addr} {cs : List AV} {xs : List Value} {t : TypeId} {n : Nat} {g : Bool} (ht : tload P t = some (n, g)) (hr : RepL ρ H w cs xs) (c : Nat)
    (hc : ∀ (j : Nat) v, xs[j]? = some v → w.cell? (a.add j) = some v) (hn : c + (if g then n else 1) ≤ cs.length) :
    ∃ x, (Instr.loadAt t (.pointer (some (a.add c)))).run P w = .ok x w ∧ Rep ρ H w (apart cs c n g) x := by
  obtain ⟨hs, ha, _⟩ := tload_ok ht w
  cases g with
  | true =>
    simp only [if_true] at hn
    have hl : ((xs.drop c).take n).length = n := by simp [hr.length]; omega
    have hload := run_loadCells_list (P := P) w (a.add c) ((xs.drop c).take n) (fun j v hv => by
      rw [add_add]
      refine hc _ _ ?_
      rw [List.getElem?_take] at hv
      split at hv
      · rwa [List.getElem?_drop] at hv
      · cases hv)
    rw [hl] at hload
    refine ⟨.agg ((xs.drop c).take n).toArray, by simp [Instr.loadAt, Instr.sureAddr, loadVar, ha, hs, hload], ?_⟩
    simp only [apart, if_true, Rep]
    exact ⟨_, rfl, (hr.drop c).take n⟩
  | false =>
    simp only [Bool.false_eq_true, if_false] at hn
    have hlt : c < cs.length := by omega
    have hv : cs[c]? = some cs[c] := List.getElem?_eq_getElem hlt
    obtain ⟨x, hx, hr'⟩ := hr.get hv
    refine ⟨x, by simp [Instr.loadAt, Instr.sureAddr, loadVar, ha, hc _ _ hx], ?_⟩
    simp only [apart, Bool.false_eq_true, if_false, List.getD_eq_getElem?_getD, hv, Option.getD_some]
    exact hr'
theorem aload_ok {t : TypeId} {v : AV} {x : Value} {φ : Prop} {r : AV} (hh : Holds ρ H w) (h : aload P t H v = some (φ, r)) (hφ : φ) (hr : Rep ρ H w v x) :
    ∃ y, (Instr.loadAt t x).run P w = .ok y w ∧ Rep ρ H w r y := by
  unfold aload at h
  split at h
  · rename_i i z e c
    split at h
    · rename_i z' es fz n g ho ht
      simp only [Option.some.injEq, Prod.mk.injEq] at h
      obtain ⟨rfl, rfl⟩ := h
      obtain ⟨rfl, h1, h2⟩ := hφ
      simp only [Rep] at hr
      obtain ⟨b, hb, rfl⟩ := hr
      have he : es[e]? = some es[e] := List.getElem?_eq_getElem h1
      obtain ⟨xs, hr, hz, hc⟩ := hh.elem ho hb he
      have hg : es.getD e [] = es[e] := by simp [List.getD_eq_getElem?_getD, he]
      rw [hg]
      have key := load_cells (a := ⟨b, e * z' + 0, none⟩) ht hr c (fun j v hv => by rw [add_flat]; exact (hc j v hv).1) (by omega)
      rwa [add_flat, Nat.add_zero] at key
    · cases h
  · rename_i cs
    split at h
    · rename_i n g ht
      simp only [Option.some.injEq, Prod.mk.injEq] at h
      obtain ⟨rfl, rfl⟩ := h
      simp only [Rep] at hr
      obtain ⟨a, xs, rfl, hr, hc⟩ := hr
      have key := load_cells (a := a) ht hr 0 (fun j v hv => (hc j v hv).1) (by omega)
      rwa [add_zero] at key
    · cases h
  · cases h
def afaddr (P : Program) (t : TypeId) (f : Nat) : AV → Option (Prop × AV)
  | .ptr i z e c => (tfld P t f).map fun (o, n, _) => (n ≠ 0, .ptr i z e (c + o))
  | .iptr cs => (tfld P t f).map fun (o, n, _) => (n ≠ 0, .iptr (cs.drop o))
  | _ => none
theorem run_fieldAt {t : TypeId} {f o n : Nat} {g : Bool} (h : tfld P t f = some (o, n, g)) (hn : n ≠ 0) (a : Addr) (w : World) :
    (Instr.fieldAt t (.pointer (some a)) f).run P w = .ok (.pointer (some (a.add o))) w := by
  obtain ⟨fs, x, hu, hx, rfl, hl⟩ := tfld_ok h
  obtain ⟨hs, _, _⟩ := tload_ok hl w
  simp [Instr.fieldAt, run_underlying hu, hx, Instr.sureAddr, fieldPlace, hs, hn]
theorem afaddr_ok {t : TypeId} {f : Nat} {v : AV} {x : Value} {φ : Prop} {r : AV} (h : afaddr P t f v = some (φ, r)) (hφ : φ) (hr : Rep ρ H w v x) :
    ∃ y, (Instr.fieldAt t x f).run P w = .ok y w ∧ Rep ρ H w r y := by
  unfold afaddr at h
  split at h
  · rename_i i z e c
    simp only [Option.map_eq_some_iff, Prod.mk.injEq] at h
    obtain ⟨⟨o, n, g⟩, h1, rfl, rfl⟩ := h
    simp only [Rep] at hr
    obtain ⟨b, hb, rfl⟩ := hr
    refine ⟨_, run_fieldAt h1 hφ _ w, ?_⟩
    simp only [Rep]
    exact ⟨b, hb, by rw [add_flat, Nat.add_assoc]⟩
  · rename_i cs
    simp only [Option.map_eq_some_iff, Prod.mk.injEq] at h
    obtain ⟨⟨o, n, g⟩, h1, rfl, rfl⟩ := h
    simp only [Rep] at hr
    obtain ⟨a, xs, rfl, hr, hc⟩ := hr
    refine ⟨_, run_fieldAt h1 hφ _ w, ?_⟩
    simp only [Rep]
    exact ⟨_, _, rfl, hr.drop o, hc.drop o⟩
  · cases h
def aiaddr (P : Program) (t : TypeId) (x i : AV) : Option (Prop × AV) :=
  match x, i with
  | .sl es, .lit (.int _ n) => (tel P t).map fun (z, _) => (0 ≤ n ∧ n < es.length ∧ (es.getD n.toNat []).length = z, .iptr (es.getD n.toNat []))
  | .rsl j z o l, .lit (.int _ n) => (tel P t).map fun (z', _) => (0 ≤ n ∧ n < l ∧ z' = z, .ptr j z (o + n.toNat) 0)
  | .ptr j z e c, .lit (.int _ n) => (tarr P t).map fun (m, z', _) => (0 ≤ n ∧ n < m, .ptr j z e (c + n.toNat * z'))
  | .iptr cs, .lit (.int _ n) => (tarr P t).map fun (m, z', _) => (0 ≤ n ∧ n < m, .iptr (cs.drop (n.toNat * z')))
  | _, _ => none
theorem run_indexAt_sl {t : TypeId} {z : Nat} {g : Bool} (ht : tel P t = some (z, g)) (a : Addr) (len cap : Nat) (k : IntKind) (n : Int) (h0 : 0 ≤ n) (h1 : n < len) (w : World) :
    (Instr.indexAt t (.slice (some a) len cap) (.int k n)).run P w = .ok (.pointer (some (a.add (n.toNat * z)))) w := by
  obtain ⟨e, hu, hl⟩ := tel_ok ht
  obtain ⟨hs, _, _⟩ := tload_ok hl w
  simp [Instr.indexAt, asIntOf, run_underlying hu, hs, h0, h1]
theorem run_indexAt_arr {t : TypeId} {m z : Nat} {g : Bool} (ht : tarr P t = some (m, z, g)) (a : Addr) (k : IntKind) (n : Int) (h0 : 0 ≤ n) (h1 : n < m) (w : World) :
    (Instr.indexAt t (.pointer (some a)) (.int k n)).run P w = .ok (.pointer (some (a.add (n.toNat * z)))) w := by
  obtain ⟨e, hu, hl⟩ := tarr_ok ht
  obtain ⟨hs, _, _⟩ := tload_ok hl w
  simp [Instr.indexAt, asIntOf, run_underlying hu, hs, h0, h1, Instr.sureAddr]
theorem aiaddr_ok {t : TypeId} {vx vi : AV} {x i : Value} {φ : Prop} {r : AV} (h : aiaddr P t vx vi = some (φ, r)) (hφ : φ) (hx : Rep ρ H w vx x) (hi : Rep ρ H w vi i) :
    ∃ y, (Instr.indexAt t x i).run P w = .ok y w ∧ Rep ρ H w r y := by
  unfold aiaddr at h
  split at h <;> simp only [Option.map_eq_some_iff, Prod.mk.injEq, reduceCtorEq] at h
  · rename_i es k n
    obtain ⟨⟨z, g⟩, ht, rfl, rfl⟩ := h
    obtain ⟨h0, h1, hz⟩ := hφ
    simp only [Rep] at hx hi
    subst hi
    obtain ⟨A, cap, rfl, h2, h3, h4⟩ := hx
    obtain ⟨a, z', xss, rfl, h5, h6, h7⟩ := h4 (by intro he; subst he; simp at h1; omega)
    have hlt : n.toNat < es.length := by omega
    have he : es[n.toNat]? = some es[n.toNat] := List.getElem?_eq_getElem hlt
    have hg : es.getD n.toNat [] = es[n.toNat] := by simp [List.getD_eq_getElem?_getD, he]
    rw [hg] at hz ⊢
    have hz2 : es[n.toNat].length = z := hz
    have : z' = z := by rw [← hz2]; exact (h5 _ (List.getElem_mem hlt)).symm
    subst this
    refine ⟨_, run_indexAt_sl ht a _ cap k n h0 h1 w, ?_⟩
    obtain ⟨xs, hxs, hr⟩ := h6.get he
    simp only [Rep]
    exact ⟨_, xs, rfl, hr, h7 _ _ hxs⟩
  · rename_i j z o l k n
    obtain ⟨⟨z', g⟩, ht, rfl, rfl⟩ := h
    obtain ⟨h0, h1, rfl⟩ := hφ
    simp only [Rep] at hx hi
    subst hi
    rcases hx with ⟨b, cap, ccs, t', fr, hb, rfl, h2, h3, h4, h5⟩ | ⟨rfl, _⟩
    · refine ⟨_, run_indexAt_sl ht _ _ cap k n h0 h1 w, ?_⟩
      simp only [Rep]
      exact ⟨b, hb, by rw [add_flat, Nat.add_mul, Nat.add_zero]⟩
    · omega
  · rename_i j z e c k n
    obtain ⟨⟨m, z', g⟩, ht, rfl, rfl⟩ := h
    obtain ⟨h0, h1⟩ := hφ
    simp only [Rep] at hx hi
    subst hi
    obtain ⟨b, hb, rfl⟩ := hx
    refine ⟨_, run_indexAt_arr ht _ k n h0 h1 w, ?_⟩
    simp only [Rep]
    exact ⟨b, hb, by rw [add_flat, Nat.add_assoc]⟩
  · rename_i cs k n
    obtain ⟨⟨m, z', g⟩, ht, rfl, rfl⟩ := h
    obtain ⟨h0, h1⟩ := hφ
    simp only [Rep] at hx hi
    subst hi
    obtain ⟨a, xs, rfl, hr, hc⟩ := hx
    refine ⟨_, run_indexAt_arr ht _ k n h0 h1 w, ?_⟩
    simp only [Rep]
    exact ⟨_, _, rfl, hr.drop _, hc.drop _⟩
def afield (P : Program) (t : TypeId) (f : Nat) : AV → Option (Prop × AV)
  | .agg cs => (tfld P t f).map fun (o, n, g) => (o + (if g then n else 1) ≤ cs.length ∧ o + n ≤ cs.length, apart cs o n g)
  | _ => none
theorem afield_ok {t : TypeId} {f : Nat} {v : AV} {x : Value} {φ : Prop} {r : AV} (h : afield P t f v = some (φ, r)) (hφ : φ) (hr : Rep ρ H w v x) :
    ∃ y, (Instr.field t x f).run P w = .ok y w ∧ Rep ρ H w r y := by
  unfold afield at h
  split at h
  · rename_i cs
    simp only [Option.map_eq_some_iff, Prod.mk.injEq] at h
    obtain ⟨⟨o, n, g⟩, h1, rfl, rfl⟩ := h
    simp only [Rep] at hr
    obtain ⟨xs, rfl, hr⟩ := hr
    obtain ⟨fs, x, hu, hx, rfl, hl⟩ := tfld_ok h1
    obtain ⟨y, hy, hry⟩ := apart_ok (P := P) hr hl hφ.2 (fun hg => by subst hg; simp at hφ; omega)
    exact ⟨y, by simp [Instr.field, run_underlying hu, hx, asAgg, hy], hry⟩
  · cases h
def aindex (P : Program) (t : TypeId) (x i : AV) : Option (Prop × AV) :=
  match x, i with
  | .agg cs, .lit (.int _ n) => (tarr P t).map fun (m, z, g) => (0 ≤ n ∧ n < m ∧ (g = false → z = 1) ∧ n.toNat * z + z ≤ cs.length, apart cs (n.toNat * z) z g)
  | .lit (.string s), .lit (.int _ n) => some (P.underlying t = some .string ∧ 0 ≤ n ∧ n < s.size, .lit (.int .u8 ((s[n.toNat]?.getD 0).toNat : Int)))
  | _, _ => none
theorem aindex_ok {t : TypeId} {vx vi : AV} {x i : Value} {φ : Prop} {r : AV} (h : aindex P t vx vi = some (φ, r)) (hφ : φ) (hx : Rep ρ H w vx x) (hi : Rep ρ H w vi i) :
    ∃ y, (Instr.index t x i).run P w = .ok y w ∧ Rep ρ H w r y := by
  unfold aindex at h
  split at h
  · rename_i cs k n
    simp only [Option.map_eq_some_iff, Prod.mk.injEq] at h
    obtain ⟨⟨m, z, g⟩, h1, rfl, rfl⟩ := h
    obtain ⟨h0, h2, h3, h4⟩ := hφ
    simp only [Rep] at hx hi
    subst hi
    obtain ⟨xs, rfl, hr⟩ := hx
    obtain ⟨e, hu, hl⟩ := tarr_ok h1
    obtain ⟨hs, _, _⟩ := tload_ok hl w
    have h4' : n.toNat * z + z ≤ cs.length := h4
    obtain ⟨y, hy, hry⟩ := apart_ok (P := P) hr hl h4' (fun hg => by have h3' : z = 1 := h3 hg; omega)
    exact ⟨y, by simp [Instr.index, asIntOf, run_underlying hu, h0, h2, hs, hy], hry⟩
  · rename_i s k n
    simp only [Option.some.injEq, Prod.mk.injEq] at h
    obtain ⟨rfl, rfl⟩ := h
    obtain ⟨hu, h0, h1⟩ := hφ
    simp only [Rep] at hx hi
    subst hx hi
    have hlt : n.toNat < s.size := by omega
    have he : s[n.toNat]? = some s[n.toNat] := getElem?_pos s n.toNat hlt
    refine ⟨.int .u8 ((s[n.toNat]).toNat : Int), by simp [Instr.index, asIntOf, run_underlying hu, h0, he], ?_⟩
    simp only [Rep, he, Option.getD_some]
  · cases h
def aextract (n : Nat) : AV → Option (Prop × AV)
  | .tup vs => some (n < vs.length, vs.getD n .any)
  | _ => none
theorem aextract_ok {n : Nat} {v : AV} {x : Value} {φ : Prop} {r : AV} (h : aextract n v = some (φ, r)) (hφ : φ) (hr : Rep ρ H w v x) :
    ∃ y, (Instr.extract x n).run P w = .ok y w ∧ Rep ρ H w r y := by
  unfold aextract at h
  split at h
  · rename_i vs
    simp only [Option.some.injEq, Prod.mk.injEq] at h
    obtain ⟨rfl, rfl⟩ := h
    simp only [Rep] at hr
    obtain ⟨xs, rfl, hr⟩ := hr
    have hv : vs[n]? = some vs[n] := List.getElem?_eq_getElem hφ
    obtain ⟨y, hy, hry⟩ := hr.get hv
    refine ⟨y, by simp [Instr.extract, hy], ?_⟩
    simpa [List.getD_eq_getElem?_getD, hv] using hry
  · cases h
def aun (op : UnOp) : AV → Option (Prop × AV)
  | .lit (.bool b) => match op with | .not => some (True, .bool (!b)) | _ => none
  | .lit (.int k n) => match op with | .neg => some (True, .lit (.int k (k.wrap (0 - n)))) | _ => none
  | _ => none
theorem aun_ok {op : UnOp} {v : AV} {x : Value} {φ : Prop} {r : AV} (h : aun op v = some (φ, r)) (hr : Rep ρ H w v x) :
    ∃ y, (Op.unary op x).run P w = .ok y w ∧ Rep ρ H w r y := by
  unfold aun at h
  split at h
  · rename_i b
    simp only [Rep] at hr
    subst hr
    cases op <;> simp only [Option.some.injEq, Prod.mk.injEq, reduceCtorEq] at h
    obtain ⟨rfl, rfl⟩ := h
    exact ⟨.bool (!b), by simp only [Op.unary, Sem.run_pure], by simp only [Rep]⟩
  · rename_i k n
    simp only [Rep] at hr
    subst hr
    cases op <;> simp only [Option.some.injEq, Prod.mk.injEq, reduceCtorEq] at h
    obtain ⟨rfl, rfl⟩ := h
    exact ⟨.int k (k.wrap (0 - n)), by simp only [Op.unary, Op.intArith, Sem.run_pure], by simp only [Rep]⟩
  · cases h
def pickv (p : Bool) (a b : AV) : AV :=
  match a, b with
  | .lit (.bool x), .lit (.bool y) => .bool (if p then x else y)
  | a, b => if p then a else b
theorem rep_pickv {p : Bool} {va vb : AV} {a b : Value} (ha : p = true → Rep ρ H w va a) (hb : p = false → Rep ρ H w vb b) : Rep ρ H w (pickv p va vb) (if p then a else b) := by
  have key : Rep ρ H w (if p then va else vb) (if p then a else b) := by
    cases p
    · simpa using hb rfl
    · simpa using ha rfl
  unfold pickv
  split
  · cases p
    · simpa [Rep] using hb rfl
    · simpa [Rep] using ha rfl
  · exact key
def apick (T : Tm) (c a b : Operand) : Option (Prop × AV) :=
  match (ev T c).core with
  | .lit (.bool p) => some ((p = true → (ev T a).grd = true) ∧ (p = false → (ev T b).grd = true), pickv p (ev T a).core (ev T b).core)
  | _ => none
def abound : Option AV → Option (Option Int)
  | none => some none
  | some (.lit (.int _ n)) => some (some n)
  | _ => none
def chunk {α : Type} (z : Nat) : Nat → List α → List (List α)
  | 0, _ => []
  | m + 1, cs => cs.take z :: chunk z m (cs.drop z)
theorem chunk_length {α : Type} (z : Nat) : ∀ (m : Nat) (cs : List α), (chunk z m cs).length = m
  | 0, _ => rfl
  | m + 1, cs => by rw [chunk, List.length_cons, chunk_length z m]
theorem chunk_get {α : Type} (z : Nat) : ∀ (m : Nat) (cs : List α) (j : Nat), j < m → (chunk z m cs)[j]? = some ((cs.drop (j * z)).take z)
  | 0, _, j, h => by omega
  | m + 1, cs, 0, _ => by rw [chunk]; simp
  | m + 1, cs, j + 1, h => by
    rw [chunk, List.getElem?_cons_succ, chunk_get z m _ j (by omega), List.drop_drop]
    congr 3
    rw [Nat.add_mul]; omega
theorem chunk_get_none {α : Type} (z : Nat) (m : Nat) (cs : List α) (j : Nat) (h : m ≤ j) : (chunk z m cs)[j]? = none := List.getElem?_eq_none (by rw [chunk_length]; exact h)
theorem chunk_rep {z m : Nat} {cs : List AV} {xs : List Value} (h : RepL ρ H w cs xs) : RepLL ρ H w (chunk z m cs) (chunk z m xs) := by
  refine RepLL.mk (by rw [chunk_length, chunk_length]) fun j v x hv hx => ?_
  rcases Nat.lt_or_ge j m with hj | hj
  · rw [chunk_get z m _ j hj] at hv hx
    injection hv with hv; injection hx with hx
    subst hv hx
    exact (h.drop _).take _
  · rw [chunk_get_none z m _ j hj] at hv; cases hv
theorem chunk_sizes {α : Type} {z m : Nat} {cs : List α} (hl : cs.length = m * z) : ∀ e ∈ chunk z m cs, e.length = z := by
  intro e he
  obtain ⟨j, hj⟩ := List.getElem?_of_mem he
  rcases Nat.lt_or_ge j m with h | h
  · rw [chunk_get z m _ j h] at hj
    injection hj with hj
    subst hj
    rw [List.length_take, List.length_drop, hl]
    have : (j + 1) * z ≤ m * z := Nat.mul_le_mul_right z (by omega)
    rw [Nat.add_mul] at this
    omega
  · rw [chunk_get_none z m _ j h] at hj; cases hj
def aslice (P : Program) (t : TypeId) (x : AV) (lo hi mx : Option AV) : Option (Prop × AV) :=
  match x, abound lo, abound hi, abound mx with
  | .iptr cs, some l, some h, some none =>
    (tarr P t).map fun (m, z, _) => (0 ≤ l.getD 0 ∧ l.getD 0 ≤ h.getD m ∧ h.getD m ≤ m ∧ m ≤ maxLen ∧ cs.length = m * z, .sl (((chunk z m cs).take (h.getD m).toNat).drop (l.getD 0).toNat))
  | .sl es, some l, some h, some none =>
    (tel P t).map fun (z, _) => (0 ≤ l.getD 0 ∧ l.getD 0 ≤ h.getD es.length ∧ h.getD es.length ≤ es.length ∧ ∀ e ∈ es, e.length = z, .sl ((es.take (h.getD es.length).toNat).drop (l.getD 0).toNat))
  | .rsl j z o n, some l, some h, some none =>
    (tel P t).map fun (z', _) => (z' = z ∧ 0 ≤ l.getD 0 ∧ l.getD 0 ≤ h.getD n ∧ h.getD n ≤ n, .rsl j z (o + (l.getD 0).toNat) ((h.getD n).toNat - (l.getD 0).toNat))
  | .lit (.string s), some l, some h, some none =>
    some (P.underlying t = some .string ∧ 0 ≤ l.getD 0 ∧ l.getD 0 ≤ h.getD s.size ∧ h.getD s.size ≤ s.size, .lit (.string (s.extract (l.getD 0).toNat (h.getD s.size).toNat)))
  | _, _, _, _ => none
theorem abound_ok {v : Option AV} {x : Option Value} {n : Option Int} (h : abound v = some n) (hv : v.isSome = x.isSome) (hr : ∀ u y, v = some u → x = some y → Rep ρ H w u y) :
    (n = none ∧ x = none) ∨ ∃ k m, n = some m ∧ x = some (.int k m) := by
  unfold abound at h
  split at h
  · simp only [Option.some.injEq] at h
    cases x with
    | none => exact .inl ⟨h.symm, rfl⟩
    | some y => simp at hv
  · rename_i k m
    simp only [Option.some.injEq] at h
    cases x with
    | none => simp at hv
    | some y =>
      have := hr _ y rfl rfl
      simp only [Rep] at this
      subst this
      exact .inr ⟨k, m, h.symm, rfl⟩
  · cases h
theorem run_bounds {isS : Bool} {len cap : Nat} {lo hi : Option Value} {l h : Option Int} (hl : (l = none ∧ lo = none) ∨ ∃ k m, l = some m ∧ lo = some (.int k m)) (hh : (h = none ∧ hi = none) ∨ ∃ k m, h = some m ∧ hi = some (.int k m))
    (h0 : 0 ≤ l.getD 0) (h1 : l.getD 0 ≤ h.getD len) (h2 : h.getD len ≤ cap) (w : World) :
    (Instr.sliceBounds isS len cap lo hi none).run P w = .ok ((l.getD 0).toNat, (h.getD len).toNat, cap) w := by
  rcases hl with ⟨rfl, rfl⟩ | ⟨kl, m, rfl, rfl⟩ <;> rcases hh with ⟨rfl, rfl⟩ | ⟨kh, m', rfl, rfl⟩ <;> simp only [Option.getD_none, Option.getD_some] at h0 h1 h2 ⊢
  · simp [Instr.sliceBounds]
  · have : (0 : Int) ≤ m' := by omega
    simp [Instr.sliceBounds, Instr.sliceBound, asIntOf, this, h2]
  · simp [Instr.sliceBounds, Instr.sliceBound, asIntOf, h0, h1]
  · have : (0 : Int) ≤ m' := by omega
    obtain ⟨a, rfl⟩ := Int.eq_ofNat_of_zero_le this
    obtain ⟨b, rfl⟩ := Int.eq_ofNat_of_zero_le h0
    have h3 : b ≤ a := by omega
    have h4 : a ≤ cap := by omega
    simp [Instr.sliceBounds, Instr.sliceBound, asIntOf, h3, h4]
theorem aslice_ok {t : TypeId} {vx : AV} {x : Value} {vl vh vm : Option AV} {lo hi mx : Option Value} {φ : Prop} {r : AV} (hH : Holds ρ H w) (h : aslice P t vx vl vh vm = some (φ, r)) (hφ : φ) (hx : Rep ρ H w vx x)
    (hl : vl.isSome = lo.isSome) (hl' : ∀ u y, vl = some u → lo = some y → Rep ρ H w u y) (hh : vh.isSome = hi.isSome) (hh' : ∀ u y, vh = some u → hi = some y → Rep ρ H w u y)
    (hm : vm.isSome = mx.isSome) (hm' : ∀ u y, vm = some u → mx = some y → Rep ρ H w u y) :
    ∃ y, (Instr.sliceAt t x lo hi mx).run P w = .ok y w ∧ Rep ρ H w r y := by
  unfold aslice at h
  split at h
  · rename_i cs l h' bl bh bm
    have bl' := abound_ok bl hl hl'
    have bh' := abound_ok bh hh hh'
    have bm' := abound_ok bm hm hm'
    simp only [Option.map_eq_some_iff, Prod.mk.injEq] at h
    obtain ⟨⟨m, z, g⟩, ht, rfl, rfl⟩ := h
    obtain ⟨h0, h1, h2, h4, hcl⟩ := hφ
    dsimp only at h0 h1 h2 h4 hcl ⊢
    simp only [Rep] at hx
    obtain ⟨a, xs, rfl, hr, hc⟩ := hx
    obtain ⟨e, hu, hld⟩ := tarr_ok ht
    obtain ⟨hs, _, _⟩ := tload_ok hld w
    rcases bm' with ⟨_, rfl⟩ | ⟨_, _, hcc, _⟩
    · have hb := run_bounds (P := P) (isS := false) (len := m) (cap := m) bl' bh' h0 h1 h2 w
      generalize hL : (l.getD 0).toNat = L at *
      generalize hR : (h'.getD (m : Int)).toNat = R at *
      have hLR : L ≤ R := by omega
      have hRe : R ≤ m := by omega
      have hlen : (((chunk z m cs).take R).drop L).length = R - L := by rw [List.length_drop, List.length_take, chunk_length]; omega
      refine ⟨_, by simp only [Instr.sliceAt, Sem.run_bind, run_underlying hu, Result.andThen_ok, Instr.sureAddr, hb, hs, Sem.run_pure]; rfl, ?_⟩
      simp only [Rep, hlen]
      refine ⟨_, _, rfl, by omega, by omega, fun hne => ?_⟩
      have hlt : L < R := by
        rcases Nat.lt_or_ge L R with h | h
        · exact h
        · exact absurd (List.eq_nil_of_length_eq_zero (by rw [hlen]; omega)) hne
      rw [if_neg (by omega)]
      refine ⟨_, z, ((chunk z m xs).take R).drop L, rfl, fun e he => chunk_sizes hcl e (List.mem_of_mem_take (List.mem_of_mem_drop he)), ((chunk_rep hr).take R).drop L, fun j ys hj => ?_⟩
      rw [List.getElem?_drop, List.getElem?_take] at hj
      split at hj
      · rw [chunk_get z m _ _ (by omega)] at hj
        injection hj with hj
        subst hj
        rw [add_add, ← Nat.add_mul]
        exact (hc.drop _).take _
      · cases hj
    · cases hcc
  · rename_i es l h' bl bh bm
    have bl' := abound_ok bl hl hl'
    have bh' := abound_ok bh hh hh'
    have bm' := abound_ok bm hm hm'
    simp only [Option.map_eq_some_iff, Prod.mk.injEq] at h
    obtain ⟨⟨z, g⟩, ht, rfl, rfl⟩ := h
    obtain ⟨h0, h1, h2, hz⟩ := hφ
    simp only [Rep] at hx
    obtain ⟨A, cap, rfl, h3, h4, h5⟩ := hx
    obtain ⟨e, hu, hld⟩ := tel_ok ht
    obtain ⟨hs, _, _⟩ := tload_ok hld w
    rcases bm' with ⟨_, rfl⟩ | ⟨_, _, hc, _⟩
    · have hb := run_bounds (P := P) (isS := true) (len := es.length) (cap := cap) bl' bh' h0 h1 (by omega) w
      have hz2 : ∀ e ∈ es, e.length = z := hz
      clear hz
      generalize hL : (l.getD 0).toNat = L at *
      generalize hR : (h'.getD (es.length : Int)).toNat = R at *
      have hLR : L ≤ R := by omega
      have hRe : R ≤ es.length := by omega
      have hlen : ((es.take R).drop L).length = R - L := by simp; omega
      refine ⟨_, by simp only [Instr.sliceAt, Sem.run_bind, run_underlying hu, Result.andThen_ok, Instr.slice, hb, hs, Sem.run_pure]; rfl, ?_⟩
      simp only [Rep, hlen]
      refine ⟨_, _, rfl, by omega, by omega, fun hne => ?_⟩
      have hlt : L < R := by
        rcases Nat.lt_or_ge L R with h | h
        · exact h
        · exact absurd (List.eq_nil_of_length_eq_zero (by rw [hlen]; omega)) hne
      obtain ⟨a, z', xss, rfl, h6, h7, h8⟩ := h5 (by intro he; subst he; simp at hRe; omega)
      have hzz : z' = z := by
        have hm : es[0]'(by omega) ∈ es := List.getElem_mem _
        rw [← h6 _ hm, hz2 _ hm]
      subst hzz
      rw [if_neg (by omega)]
      refine ⟨_, z', (xss.take R).drop L, rfl, fun e he => h6 e (List.mem_of_mem_take (List.mem_of_mem_drop he)), (h7.take R).drop L, fun j xs hj => ?_⟩
      rw [List.getElem?_drop, List.getElem?_take] at hj
      split at hj
      · rw [add_add, ← Nat.add_mul]
        exact h8 _ _ hj
      · cases hj
    · cases hc
  · rename_i j z o n l h' bl bh bm
    have bl' := abound_ok bl hl hl'
    have bh' := abound_ok bh hh hh'
    have bm' := abound_ok bm hm hm'
    simp only [Option.map_eq_some_iff, Prod.mk.injEq] at h
    obtain ⟨⟨z', g⟩, ht, rfl, rfl⟩ := h
    obtain ⟨rfl, h0, h1, h2⟩ := hφ
    simp only [Rep] at hx
    obtain ⟨e, hu, hld⟩ := tel_ok ht
    obtain ⟨hs, _, _⟩ := tload_ok hld w
    rcases bm' with ⟨_, rfl⟩ | ⟨_, _, hc, _⟩
    · rcases hx with ⟨b, cap, ccs, t', fr, hb, rfl, h3, h4, h5, h6⟩ | ⟨rfl, hjn, A, rfl⟩
      · have hbd := run_bounds (P := P) (isS := true) (len := n) (cap := cap) bl' bh' h0 h1 (by omega) w
        generalize hL : (l.getD 0).toNat = L at *
        generalize hR : (h'.getD (n : Int)).toNat = R at *
        have hLR : L ≤ R := by omega
        have hRe : R ≤ n := by omega
        refine ⟨_, by simp only [Instr.sliceAt, Sem.run_bind, run_underlying hu, Result.andThen_ok, Instr.slice, hbd, hs, Sem.run_pure]; rfl, ?_⟩
        simp only [Rep]
        by_cases hc : cap = L
        · refine .inr ⟨by omega, (hH.bound _ _ hb).1, ⟨some ⟨b, o * z', none⟩, ?_⟩⟩
          rw [if_pos hc, show R - L = 0 by omega, show cap - L = 0 by omega]
        · refine .inl ⟨b, cap - L, ccs, t', fr, hb, ?_, by omega, by omega, h5, ?_⟩
          · rw [if_neg hc]
            simp only [Option.map_some, add_flat]
            rw [Nat.add_mul]
          · have : o + L + (cap - L) = o + cap := by omega
            rw [this]
            exact h6
      · have hbd := run_bounds (P := P) (isS := true) (len := 0) (cap := 0) bl' bh' h0 h1 (by omega) w
        generalize hL : (l.getD 0).toNat = L at *
        generalize hR : (h'.getD ((0 : Nat) : Int)).toNat = R at *
        have hR0 : R = 0 := by omega
        have hL0 : L = 0 := by omega
        rw [hR0, hL0] at hbd
        rw [hR0, hL0]
        refine ⟨.slice A 0 0, by simp only [Instr.sliceAt, Sem.run_bind, run_underlying hu, Result.andThen_ok, Instr.slice, hbd, hs, Sem.run_pure]; simp, ?_⟩
        simp only [Rep]
        exact .inr ⟨by simp, hjn, ⟨_, rfl⟩⟩
    · cases hc
  · rename_i s l h' bl bh bm
    have bl' := abound_ok bl hl hl'
    have bh' := abound_ok bh hh hh'
    have bm' := abound_ok bm hm hm'
    simp only [Option.some.injEq, Prod.mk.injEq] at h
    obtain ⟨rfl, rfl⟩ := h
    obtain ⟨hu, h0, h1, h2⟩ := hφ
    simp only [Rep] at hx
    subst hx
    rcases bm' with ⟨_, rfl⟩ | ⟨_, _, hc, _⟩
    · have hbd := run_bounds (P := P) (isS := false) (len := s.size) (cap := s.size) bl' bh' h0 h1 (by omega) w
      exact ⟨_, by simp only [Instr.sliceAt, Sem.run_bind, run_underlying hu, Result.andThen_ok, Instr.slice, hbd, Sem.run_pure, Option.isSome_none, Bool.false_eq_true, if_false]; rfl, by simp only [Rep]⟩
    · cases hc
  · cases h
def aconv (P : Program) (src dst : TypeId) : AV → Option (Prop × AV)
  | .lit (.int k n) =>
    match P.underlying src, P.underlying dst with
    | some _, some (.int k') => some (True, .lit (.int k' (k'.wrap n)))
    | some _, some .string => some (True, .lit (.string (Utf8.encode n)))
    | _, _ => none
  | _ => none
theorem aconv_ok {src dst : TypeId} {v : AV} {x : Value} {φ : Prop} {r : AV} (h : aconv P src dst v = some (φ, r)) (hr : Rep ρ H w v x) :
    ∃ y, (convert src dst x).run P w = .ok y w ∧ Rep ρ H w r y := by
  unfold aconv at h
  split at h
  · rename_i k n
    simp only [Rep] at hr
    subst hr
    split at h
    · rename_i d k' hs hd
      simp only [Option.some.injEq, Prod.mk.injEq] at h
      obtain ⟨rfl, rfl⟩ := h
      exact ⟨_, by simp only [convert, Sem.run_bind, run_underlying hs, run_underlying hd, Result.andThen_ok, Conv.intToInt, Sem.run_pure]; rfl, by simp only [Rep]⟩
    · rename_i d hs hd
      simp only [Option.some.injEq, Prod.mk.injEq] at h
      obtain ⟨rfl, rfl⟩ := h
      exact ⟨_, by simp only [convert, Sem.run_bind, run_underlying hs, run_underlying hd, Result.andThen_ok, Conv.intToString, Sem.run_pure]; rfl, by simp only [Rep]⟩
    · cases h
  · cases h
def splice (cs : List AV) (o : Nat) (ps : List AV) : List AV := cs.take o ++ ps ++ cs.drop (o + ps.length)
theorem foldl_splice (o : Nat) : ∀ (l : List Value) (s : Nat) (cs : Array Value), o + s + l.length ≤ cs.size →
    ((l.zipIdx s).foldl (fun cs (c, j) => cs.setIfInBounds (o + j) c) cs).toList = cs.toList.take (o + s) ++ l ++ cs.toList.drop (o + s + l.length)
  | [], s, cs, _ => by simp
  | x :: l, s, cs, h => by
    simp only [List.zipIdx_cons, List.foldl_cons]
    simp only [List.length_cons] at h
    rw [foldl_splice o l (s + 1) _ (by simp; omega)]
    simp only [Array.toList_setIfInBounds]
    rw [List.drop_set_of_lt (by omega), show o + (s + 1) = o + s + 1 by omega, List.take_add_one]
    rw [List.take_set, List.getElem?_set]
    have hlt : o + s < cs.toList.length := by simp; omega
    rw [if_pos rfl, if_pos hlt]
    rw [List.set_eq_of_length_le (by simp; omega)]
    simp only [List.length_cons, Option.toList_some, List.append_assoc, List.singleton_append]
    rw [show o + s + 1 + l.length = o + s + (l.length + 1) by omega]
def tparts (P : Program) (t : TypeId) : Nat → Option (Nat × Nat)
  | i =>
    match P.underlying t with
    | some (.struct fs) => (fs[i]?).bind fun f => (tload P f.type).map fun (n, _) => (f.offset, n)
    | some (.array _ e) => (tload P e).map fun (n, _) => (i * n, n)
    | _ => none
def afill (place : Nat → Option (Nat × Nat)) : List AV → List (Nat × AV) → Option (Prop × List AV)
  | cs, [] => some (True, cs)
  | cs, (i, v) :: rest =>
    match place i with
    | none => none
    | some (o, n) => (afill place (splice cs o (acells v)) rest).map fun (φ, r) => (v.fit = true ∧ (acells v).length = n ∧ o + n ≤ cs.length ∧ φ, r)
theorem RepL.splice {cs ps : List AV} {xs ys : List Value} (h : RepL ρ H w cs xs) (k : RepL ρ H w ps ys) (o : Nat) : RepL ρ H w (splice cs o ps) (xs.take o ++ ys ++ xs.drop (o + ps.length)) :=
  ((h.take o).append k).append (h.drop _)
theorem afill_ok {place : Nat → Option (Nat × Nat)} {pl : Nat → Option (Nat × Nat)} (hpl : ∀ i x, place i = some x → pl i = some x) : ∀ {parts : List (Nat × AV)} {ps : List (Nat × Value)} {cs : List AV} {xs : Array Value} {φ : Prop} {r : List AV},
    afill place cs parts = some (φ, r) → φ → RepL ρ H w cs xs.toList → parts.map (·.1) = ps.map (·.1) → (∀ (j : Nat) u v, parts[j]? = some u → ps[j]? = some v → Rep ρ H w u.2 v.2) →
    ∃ ys, Instr.fill pl xs ps = some ys ∧ RepL ρ H w r ys.toList
  | [], ps, cs, xs, φ, r, h, _, hr, hm, _ => by
    simp only [afill, Option.some.injEq, Prod.mk.injEq] at h
    obtain ⟨rfl, rfl⟩ := h
    have : ps = [] := by simpa using hm.symm
    subst this
    exact ⟨xs, by simp [Instr.fill], hr⟩
  | (i, v) :: parts, [], cs, xs, φ, r, h, _, hr, hm, _ => by simp at hm
  | (i, v) :: parts, (i', y) :: ps, cs, xs, φ, r, h, hφ, hr, hm, hp => by
    simp only [List.map_cons, List.cons.injEq] at hm
    obtain ⟨rfl, hm⟩ := hm
    simp only [afill] at h
    split at h
    · cases h
    · rename_i o n hpi
      simp only [Option.map_eq_some_iff, Prod.mk.injEq] at h
      obtain ⟨⟨ψ, r'⟩, h1, rfl, rfl⟩ := h
      obtain ⟨hf, hl, hle, hψ⟩ := hφ
      have hv : Rep ρ H w v y := hp 0 _ _ rfl rfl
      have hc := acells_ok hf hv
      have hcl : y.cells.size = n := by rw [← hl, ← hc.length]; simp
      have hxl : xs.size = cs.length := by rw [← hr.length]; simp
      simp only [Instr.fill, hpl _ _ hpi, hcl]
      have hcond : (decide (n ≠ n) || decide (o + n > xs.size)) = false := by simp; omega
      simp only [hcond, Bool.false_eq_true, if_false]
      have hfold : (y.cells.zipIdx.foldl (fun cs (c, j) => cs.setIfInBounds (o + j) c) xs).toList = xs.toList.take o ++ y.cells.toList ++ xs.toList.drop (o + (acells v).length) := by
        have := foldl_splice o y.cells.toList 0 xs (by simp; omega)
        rw [Nat.add_zero] at this
        have e1 : y.cells.zipIdx.foldl (fun cs (c, j) => cs.setIfInBounds (o + j) c) xs = y.cells.toList.zipIdx.foldl (fun cs (c, j) => cs.setIfInBounds (o + j) c) xs := by
          rw [← Array.foldl_toList, Array.toList_zipIdx]
        rw [e1, this, hl, ← hcl, Array.length_toList]
      exact afill_ok hpl h1 hψ (by rw [hfold]; exact hr.splice hc o) hm (fun j u v' hu hv' => hp (j + 1) u v' (by simpa using hu) (by simpa using hv'))
def tzero (P : Program) (t : TypeId) : Option (List Value) := ((P.info? t).bind (·.zero)).map fun z => z.cells.toList
def abuild (P : Program) (t : TypeId) (parts : List (Nat × AV)) : Option (Prop × AV) :=
  match tzero P t with
  | some zs => (afill (tparts P t) (zs.map .lit) parts).map fun (φ, r) => (φ, .agg r)
  | none => none
theorem mapM_sizes {P : Program} (w : World) : ∀ (l : List Field), (∀ f ∈ l, (tload P f.type).isSome = true) →
    (l.mapM fun f => (do pure (f.offset, ← sizeOf f.type) : Sem (Nat × Nat))).run P w = .ok (l.map fun f => (f.offset, ((tload P f.type).map (·.1)).getD 0)) w
  | [], _ => by simp
  | f :: l, h => by
    obtain ⟨⟨n, g⟩, hf⟩ := Option.isSome_iff_exists.1 (h f (by simp))
    obtain ⟨hs, _, _⟩ := tload_ok hf w
    have ih := mapM_sizes w l (fun f hf => h f (by simp [hf]))
    simp only [List.mapM_cons, Sem.run_bind, hs, Result.andThen_ok, Sem.run_pure, ih, List.map_cons, hf, Option.map_some, Option.getD_some]
def tstruct (P : Program) (t : TypeId) : Bool :=
  match P.underlying t with
  | some (.struct fs) => fs.toList.all fun f => (tload P f.type).isSome
  | some (.array _ e) => (tload P e).isSome
  | _ => false
theorem abuild_ok {t : TypeId} {parts : List (Nat × AV)} {ps : Array (Nat × Value)} {φ : Prop} {r : AV} (ht : tstruct P t = true) (h : abuild P t parts = some (φ, r)) (hφ : φ)
    (hm : parts.map (·.1) = ps.toList.map (·.1)) (hp : ∀ (j : Nat) u v, parts[j]? = some u → ps.toList[j]? = some v → Rep ρ H w u.2 v.2) :
    ∃ y, (Instr.build t ps).run P w = .ok y w ∧ Rep ρ H w r y := by
  unfold abuild at h
  split at h
  · rename_i zs hz
    simp only [tzero, Option.map_eq_some_iff, Option.bind_eq_some_iff] at hz
    obtain ⟨z, ⟨i, hi, hz⟩, rfl⟩ := hz
    simp only [Option.map_eq_some_iff, Prod.mk.injEq] at h
    obtain ⟨⟨ψ, r'⟩, h1, rfl, rfl⟩ := h
    have hzero : (zeroValue t).run P w = .ok z w := by simp [zeroValue, typeInfo, hi, hz]
    unfold tstruct at ht
    split at ht
    · rename_i fs hu
      have hms := mapM_sizes (P := P) w fs.toList (fun f hf => List.all_eq_true.1 ht f hf)
      have hms' : (fs.mapM fun f => (do pure (f.offset, ← sizeOf f.type) : Sem (Nat × Nat))).run P w = .ok (fs.map fun f => (f.offset, ((tload P f.type).map (·.1)).getD 0)) w := by
        rw [Array.mapM_eq_mapM_toList]
        simp only [Sem.run_map, hms, Result.andThen_ok]
        congr 1
        apply Array.ext'
        simp
      obtain ⟨ys, hy, hry⟩ := afill_ok (pl := fun i => (fs.map fun f => (f.offset, ((tload P f.type).map (·.1)).getD 0))[i]?) (place := tparts P t) (fun i x hx => by
        simp only [tparts, hu, Option.bind_eq_some_iff, Option.map_eq_some_iff] at hx
        obtain ⟨f, hf, ⟨n, g⟩, hn, rfl⟩ := hx
        simp [hf, hn]) h1 hφ (xs := z.cells) (rep_lits ρ H w _) hm hp
      refine ⟨.agg ys, by simp only [Instr.build, Sem.run_bind, hzero, Result.andThen_ok, run_underlying hu, hms', hy, Sem.run_pure], ?_⟩
      simp only [Rep]
      exact ⟨ys.toList, by simp, hry⟩
    · rename_i n e hu
      obtain ⟨⟨m, g⟩, he⟩ := Option.isSome_iff_exists.1 ht
      obtain ⟨hs, _, _⟩ := tload_ok he w
      obtain ⟨ys, hy, hry⟩ := afill_ok (pl := fun i => some (i * m, m)) (place := tparts P t) (fun i x hx => by
        simp only [tparts, hu, Option.map_eq_some_iff] at hx
        obtain ⟨⟨n, g⟩, hn, rfl⟩ := hx
        rw [he] at hn
        injection hn with hn
        injection hn with hn _
        subst hn
        rfl) h1 hφ (xs := z.cells) (rep_lits ρ H w _) hm hp
      refine ⟨.agg ys, by simp only [Instr.build, Sem.run_bind, hzero, Result.andThen_ok, run_underlying hu, hs, hy, Sem.run_pure], ?_⟩
      simp only [Rep]
      exact ⟨ys.toList, by simp, hry⟩
    · cases ht
  · cases h
def alen (P : Program) (t : TypeId) (H : AH) : AV → Option (Prop × AV)
  | .sl es => some ((tel P t).isSome = true, .int es.length)
  | .rsl _ _ _ n => some ((tel P t).isSome = true, .int n)
  | .esl => some ((tel P t).isSome = true, .int 0)
  | .lit (.slice none 0 0) => some ((tel P t).isSome = true, .int 0)
  | .lit (.string s) => some (P.underlying t = some .string, .int s.size)
  | .mp i => match H.obj i with | some (.amap kvs) => some ((∃ k e, P.underlying t = some (.map k e)), .int kvs.length) | _ => none
  | _ => none
theorem alen_ok {t ty : TypeId} {v : AV} {x : Value} {φ : Prop} {r : AV} (hh : Holds ρ H w) (h : alen P t H v = some (φ, r)) (hφ : φ) (hr : Rep ρ H w v x) :
    ∃ y, (Builtin.len_ #[t] ty #[x]).run P w = .ok y w ∧ Rep ρ H w r y := by
  have sl : ∀ (A : Option Addr) (n c : Nat), (tel P t).isSome = true → (Builtin.len_ #[t] ty #[.slice A n c]).run P w = .ok (.int .i64 n) w := by
    intro A n c ht
    obtain ⟨⟨z, g⟩, ht⟩ := Option.isSome_iff_exists.1 ht
    obtain ⟨e, hu, _⟩ := tel_ok ht
    simp [Builtin.len_, run_underlying hu, goInt]
  unfold alen at h
  split at h <;> (try simp only [Option.some.injEq, Prod.mk.injEq, reduceCtorEq] at h)
  · obtain ⟨rfl, rfl⟩ := h
    simp only [Rep] at hr
    obtain ⟨A, cap, rfl, _⟩ := hr
    exact ⟨_, sl _ _ _ hφ, by simp only [Rep]⟩
  · obtain ⟨rfl, rfl⟩ := h
    simp only [Rep] at hr
    rcases hr with ⟨b, cap, _, _, _, _, rfl, _⟩ | ⟨rfl, hjn, A, rfl⟩
    · exact ⟨_, sl _ _ _ hφ, by simp only [Rep]⟩
    · exact ⟨_, sl _ _ _ hφ, by simp only [Rep]⟩
  · obtain ⟨rfl, rfl⟩ := h
    simp only [Rep] at hr
    obtain ⟨A, rfl⟩ := hr
    exact ⟨_, sl _ _ _ hφ, by simp only [Rep]; rfl⟩
  · obtain ⟨rfl, rfl⟩ := h
    simp only [Rep] at hr
    subst hr
    exact ⟨_, sl _ _ _ hφ, by simp only [Rep]; rfl⟩
  · rename_i s
    obtain ⟨rfl, rfl⟩ := h
    simp only [Rep] at hr
    subst hr
    exact ⟨.int .i64 s.size, by simp [Builtin.len_, run_underlying hφ, goInt], by simp only [Rep]⟩
  · rename_i i
    split at h <;> simp only [Option.some.injEq, Prod.mk.injEq, reduceCtorEq] at h
    rename_i kvs ho
    obtain ⟨rfl, rfl⟩ := h
    obtain ⟨k, e, hu⟩ := hφ
    simp only [Rep] at hr
    obtain ⟨b, hb, rfl⟩ := hr
    obtain ⟨b', es, clock, hb', hw, _, hl, _⟩ := hh.obj i _ ho
    rw [hb] at hb'
    injection hb' with hb'
    subst hb'
    have hsz : es.size = kvs.length := by
      have := hl.length
      simpa using this
    refine ⟨.int .i64 kvs.length, ?_, by simp only [Rep]⟩
    simp [Builtin.len_, run_underlying hu, goInt, getObj, Sem.run, hw, hsz]
def aminmax (mx : Bool) : List AV → Option (Prop × AV)
  | .lit (.int k a) :: [.lit (.int _ b)] => some (True, .lit (.int k (if mx then (if b > a then b else a) else (if b < a then b else a))))
  | _ => none
theorem aminmax_ok {mx : Bool} {at_ : Array TypeId} {ty : TypeId} {vs : List AV} {xs : Array Value} {φ : Prop} {r : AV} (h : aminmax mx vs = some (φ, r)) (hr : RepL ρ H w vs xs.toList) :
    ∃ y, (if mx then Builtin.max_ at_ ty xs else Builtin.min_ at_ ty xs).run P w = .ok y w ∧ Rep ρ H w r y := by
  unfold aminmax at h
  split at h
  · rename_i k a k' b
    simp only [Option.some.injEq, Prod.mk.injEq] at h
    obtain ⟨rfl, rfl⟩ := h
    simp only [RepL, Rep] at hr
    obtain ⟨x, ys, hxs, rfl, y, zs, rfl, rfl, rfl⟩ := hr
    obtain rfl : xs = #[.int k a, .int k' b] := Array.ext' hxs
    cases mx
    · exact ⟨.int k (if b < a then b else a), by simp [Builtin.min_, Builtin.min2], by simp [Rep]⟩
    · exact ⟨.int k (if b > a then b else a), by simp [Builtin.max_, Builtin.max2], by simp [Rep]⟩
  · cases h
def abuiltin (P : Program) (H : AH) (b : Builtin) (ts : Array TypeId) (vs : List AV) : Option (Prop × AV) :=
  match b, vs with
  | .len, [v] => (ts.toList.head?).bind fun t => (alen P t H v).map fun (φ, r) => (ts = #[t] ∧ φ, r)
  | .max, vs => aminmax true vs
  | .min, vs => aminmax false vs
  | _, _ => none
theorem abuiltin_ok {b : Builtin} {ts : Array TypeId} {ty : TypeId} {cs : Array Bool} {vs : List AV} {xs : Array Value} {φ : Prop} {r : AV} (hh : Holds ρ H w) (h : abuiltin P H b ts vs = some (φ, r)) (hφ : φ) (hr : RepL ρ H w vs xs.toList) :
    ∃ y, (builtin b ts ty cs xs).run P w = .ok (.value y) w ∧ Rep ρ H w r y := by
  unfold abuiltin at h
  split at h
  · rename_i v
    simp only [Option.bind_eq_some_iff, Option.map_eq_some_iff, Prod.mk.injEq] at h
    obtain ⟨t, ht, ⟨ψ, r'⟩, h1, rfl, rfl⟩ := h
    obtain ⟨rfl, hψ⟩ := hφ
    simp only [RepL] at hr
    obtain ⟨x, ys, hxs, hr, rfl⟩ := hr
    obtain rfl : xs = #[x] := Array.ext' hxs
    obtain ⟨y, hy, hry⟩ := alen_ok (P := P) (ty := ty) hh h1 hψ hr
    exact ⟨y, by simp only [builtin, Sem.run_bind, hy, Result.andThen_ok, Sem.run_pure], hry⟩
  · obtain ⟨y, hy, hry⟩ := aminmax_ok (P := P) (at_ := ts) (ty := ty) h hr
    simp only [if_true] at hy
    exact ⟨y, by simp only [builtin, Sem.run_bind, hy, Result.andThen_ok, Sem.run_pure], hry⟩
  · obtain ⟨y, hy, hry⟩ := aminmax_ok (P := P) (at_ := ts) (ty := ty) h hr
    simp only [Bool.false_eq_true, if_false] at hy
    exact ⟨y, by simp only [builtin, Sem.run_bind, hy, Result.andThen_ok, Sem.run_pure], hry⟩
  · cases h
def anil : AV → Option (Prop × AV)
  | .ptr i z e c => some (True, .ptr i z e c)
  | .iptr cs => some (True, .iptr cs)
  | .clo (.func f) a b => some (True, .clo (.func f) a b)
  | _ => none
def evL (T : Tm) (xs : Array Operand) : List AV := xs.toList.map fun x => (ev T x).core
def apure (P : Program) (H : AH) (T : Tm) : Op → Option (Prop × AV)
  | .move x => some ((ev T x).grd = true, (ev T x).core)
  | .assign x => some ((ev T x).grd = true, (ev T x).core)
  | .pick c a b => (apick T c a b).map fun (φ, r) => ((ev T c).grd = true ∧ φ, r)
  | .binOp op t x y _ => (abin P op t (ev T x).core (ev T y).core).map fun (φ, r) => (gokL T [x, y] ∧ φ, r)
  | .unOp op _ x => (aun op (ev T x).core).map fun (φ, r) => (gokL T [x] ∧ φ, r)
  | .load t x => (aload P t H (ev T x).core).map fun (φ, r) => (gokL T [x] ∧ φ, r)
  | .fieldAddr t x f => (afaddr P t f (ev T x).core).map fun (φ, r) => (gokL T [x] ∧ φ, r)
  | .field t x f => (afield P t f (ev T x).core).map fun (φ, r) => (gokL T [x] ∧ φ, r)
  | .indexAddr t x i => (aiaddr P t (ev T x).core (ev T i).core).map fun (φ, r) => (gokL T [x, i] ∧ φ, r)
  | .index t x i => (aindex P t (ev T x).core (ev T i).core).map fun (φ, r) => (gokL T [x, i] ∧ φ, r)
  | .extract x n => (aextract n (ev T x).core).map fun (φ, r) => (gokL T [x] ∧ φ, r)
  | .slice t x lo hi mx => (aslice P t (ev T x).core (lo.map fun x => (ev T x).core) (hi.map fun x => (ev T x).core) (mx.map fun x => (ev T x).core)).map fun (φ, r) =>
      (gokL T ([x] ++ lo.toList ++ hi.toList ++ mx.toList) ∧ φ, r)
  | .convert s d x => (aconv P s d (ev T x).core).map fun (φ, r) => (gokL T [x] ∧ φ, r)
  | .makeFunc fn f c => some (gokL T f.toList ∧ gokL T c.toList, .clo fn (evL T f) (evL T c))
  | .build t ps => (abuild P t (ps.toList.map fun (i, x) => (i, (ev T x).core))).map fun (φ, r) => (gokL T (ps.toList.map (·.2)) ∧ tstruct P t = true ∧ φ, r)
  | .nilCheck x => (anil (ev T x).core).map fun (φ, r) => (gokL T [x] ∧ φ, r)
  | .call ⟨.builtin b, args, ts⟩ => (abuiltin P H b ts (evL T args)).map fun (φ, r) => (gokL T args.toList ∧ φ, r)
  | _ => none
theorem rep_evL {T : Tm} {a : Act} (h : RepT ρ H w T a.tmps) : ∀ {xs : List Operand}, gokL T xs → RepL ρ H w (xs.map fun x => (ev T x).core) (xs.map a.eval)
  | [], _ => by simp only [List.map_nil, RepL]
  | x :: xs, hg => by
    simp only [gokL] at hg
    simp only [List.map_cons, RepL]
    exact ⟨_, _, rfl, rep_evc h hg.1, rep_evL h hg.2⟩
theorem apure_ok {T : Tm} {a : Act} {o : Oper} {φ : Prop} {r : AV} (hh : Holds ρ H w) (ht : RepT ρ H w T a.tmps) (h : apure P H T o.op = some (φ, r)) (hφ : φ) :
    ∃ x, (execOp a.eval o).run P w = .ok (.value x) w ∧ Rep ρ H w r x := by
  have val : ∀ {s : Sem Value}, (∃ y, s.run P w = .ok y w ∧ Rep ρ H w r y) → ∃ x, (do pure (.value (← s)) : Sem Next).run P w = .ok (.value x) w ∧ Rep ρ H w r x := by
    rintro s ⟨y, hy, hr⟩
    exact ⟨y, by simp only [Sem.run_bind, hy, Result.andThen_ok, Sem.run_pure], hr⟩
  unfold apure at h
  unfold execOp
  split at h <;> simp only [Option.some.injEq, Option.map_eq_some_iff, Prod.mk.injEq, reduceCtorEq] at h <;> rename_i heq <;> simp only [heq]
  · obtain ⟨rfl, rfl⟩ := h
    exact ⟨_, rfl, rep_evc ht hφ⟩
  · obtain ⟨rfl, rfl⟩ := h
    exact ⟨_, rfl, rep_evc ht hφ⟩
  · rename_i c x y
    obtain ⟨⟨ψ, r'⟩, h1, rfl, rfl⟩ := h
    obtain ⟨hg, hψ⟩ := hφ
    unfold apick at h1
    split at h1
    · rename_i p hp
      simp only [Option.some.injEq, Prod.mk.injEq] at h1
      obtain ⟨rfl, rfl⟩ := h1
      have hc := rep_evc ht hg
      rw [hp] at hc
      simp only [Rep] at hc
      refine ⟨if p then a.eval x else a.eval y, ?_, rep_pickv (fun h => rep_evc ht (hψ.1 h)) fun h => rep_evc ht (hψ.2 h)⟩
      simp [hc, asBool]
    · cases h1
  · obtain ⟨⟨ψ, r'⟩, h1, rfl, rfl⟩ := h
    obtain ⟨⟨g1, g2, _⟩, hψ⟩ := hφ
    exact val (abin_ok h1 hψ (rep_evc ht g1) (rep_evc ht g2))
  · obtain ⟨⟨ψ, r'⟩, h1, rfl, rfl⟩ := h
    obtain ⟨⟨g1, _⟩, hψ⟩ := hφ
    exact val (aun_ok h1 (rep_evc ht g1))
  · obtain ⟨⟨ψ, r'⟩, h1, rfl, rfl⟩ := h
    obtain ⟨⟨g1, _⟩, hψ⟩ := hφ
    exact val (aload_ok hh h1 hψ (rep_evc ht g1))
  · obtain ⟨⟨ψ, r'⟩, h1, rfl, rfl⟩ := h
    obtain ⟨⟨g1, _⟩, hψ⟩ := hφ
    exact val (afaddr_ok h1 hψ (rep_evc ht g1))
  · obtain ⟨⟨ψ, r'⟩, h1, rfl, rfl⟩ := h
    obtain ⟨⟨g1, _⟩, hψ⟩ := hφ
    exact val (afield_ok h1 hψ (rep_evc ht g1))
  · obtain ⟨⟨ψ, r'⟩, h1, rfl, rfl⟩ := h
    obtain ⟨⟨g1, g2, _⟩, hψ⟩ := hφ
    exact val (aiaddr_ok h1 hψ (rep_evc ht g1) (rep_evc ht g2))
  · obtain ⟨⟨ψ, r'⟩, h1, rfl, rfl⟩ := h
    obtain ⟨⟨g1, g2, _⟩, hψ⟩ := hφ
    exact val (aindex_ok h1 hψ (rep_evc ht g1) (rep_evc ht g2))
  · obtain ⟨⟨ψ, r'⟩, h1, rfl, rfl⟩ := h
    obtain ⟨⟨g1, _⟩, hψ⟩ := hφ
    exact val (aextract_ok h1 hψ (rep_evc ht g1))
  · rename_i t x lo hi mx
    obtain ⟨⟨ψ, r'⟩, h1, rfl, rfl⟩ := h
    obtain ⟨hg, hψ⟩ := hφ
    have hmem : ∀ y ∈ [x] ++ lo.toList ++ hi.toList ++ mx.toList, (ev T y).grd = true := by
      have : ∀ (l : List Operand), gokL T l → ∀ y ∈ l, (ev T y).grd = true := by
        intro l
        induction l with
        | nil => intro _ y hy; cases hy
        | cons z l ih => intro hl y hy; simp only [gokL] at hl; cases hy with | head => exact hl.1 | tail _ hy => exact ih hl.2 y hy
      exact this _ hg
    refine val (aslice_ok hh h1 hψ (rep_evc ht (hmem x (by simp))) ?_ ?_ ?_ ?_ ?_ ?_)
    all_goals first
      | (simp; done)
      | (
        intro u y hu hy
        simp only [Option.map_eq_some_iff] at hu hy
        obtain ⟨z, hz, rfl⟩ := hu
        obtain ⟨z', hz', rfl⟩ := hy
        rw [hz] at hz'
        injection hz' with hz'
        subst hz'
        exact rep_evc ht (hmem z (by simp [hz])))
  · obtain ⟨⟨ψ, r'⟩, h1, rfl, rfl⟩ := h
    obtain ⟨⟨g1, _⟩, hψ⟩ := hφ
    exact val (aconv_ok h1 (rep_evc ht g1))
  · rename_i fn f c
    obtain ⟨rfl, rfl⟩ := h
    obtain ⟨g1, g2⟩ := hφ
    refine val ⟨.func fn (f.map a.eval) (c.map a.eval), by simp only [Instr.makeFunc, Sem.run_pure], ?_⟩
    simp only [Rep]
    refine ⟨f.toList.map a.eval, c.toList.map a.eval, ?_, rep_evL ht g1, rep_evL ht g2⟩
    congr 1 <;> (apply Array.ext'; simp)
  · rename_i t ps
    obtain ⟨⟨ψ, r'⟩, h1, rfl, rfl⟩ := h
    obtain ⟨g1, g2, hψ⟩ := hφ
    refine val (abuild_ok (ps := ps.map fun (i, x) => (i, a.eval x)) g2 h1 hψ (by simp) ?_)
    intro j u v hu hv
    have hg : ∀ (l : List (Nat × Operand)), gokL T (l.map (·.2)) → ∀ y ∈ l, (ev T y.2).grd = true := by
      intro l
      induction l with
      | nil => intro _ y hy; cases hy
      | cons z l ih => intro hl y hy; simp only [List.map_cons, gokL] at hl; cases hy with | head => exact hl.1 | tail _ hy => exact ih hl.2 y hy
    simp only [Array.toList_map, List.getElem?_map, Option.map_eq_some_iff] at hu hv
    obtain ⟨⟨i1, x1⟩, hx1, rfl⟩ := hu
    obtain ⟨⟨i2, x2⟩, hx2, rfl⟩ := hv
    rw [hx1] at hx2
    injection hx2 with hx2
    injection hx2 with _ hx2
    subst hx2
    exact rep_evc ht (hg _ g1 _ (List.mem_of_getElem? hx1))
  · rename_i x
    obtain ⟨⟨ψ, r'⟩, h1, rfl, rfl⟩ := h
    obtain ⟨⟨g1, _⟩, hψ⟩ := hφ
    have hx := rep_evc ht g1
    unfold anil at h1
    split at h1 <;> simp only [Option.some.injEq, Prod.mk.injEq, reduceCtorEq] at h1
    · rename_i hc
      obtain ⟨rfl, rfl⟩ := h1
      rw [hc] at hx
      have hx' := hx
      simp only [Rep] at hx'
      obtain ⟨b, _, hb⟩ := hx'
      rw [hb] at hx ⊢
      exact ⟨_, rfl, hx⟩
    · rename_i hc
      obtain ⟨rfl, rfl⟩ := h1
      rw [hc] at hx
      have hx' := hx
      simp only [Rep] at hx'
      obtain ⟨b, _, hb, _⟩ := hx'
      rw [hb] at hx ⊢
      exact ⟨_, rfl, hx⟩
    · rename_i hc
      obtain ⟨rfl, rfl⟩ := h1
      rw [hc] at hx
      have hx' := hx
      simp only [Rep] at hx'
      obtain ⟨b, _, hb, _⟩ := hx'
      rw [hb] at hx ⊢
      exact ⟨_, rfl, hx⟩
  · rename_i b args ts
    obtain ⟨⟨ψ, r'⟩, h1, rfl, rfl⟩ := h
    obtain ⟨g1, hψ⟩ := hφ
    have hl : RepL ρ H w (evL T args) (args.map a.eval).toList := by rw [Array.toList_map]; exact rep_evL ht g1
    simp only [resolve, Sem.run_bind, Sem.run_pure, Result.andThen_ok, invoke]
    exact abuiltin_ok hh h1 hψ hl
end Go.Sim
namespace Go.Sim
variable {P : Program} {ρ : Nat → Option Nat} {H : AH} {w : World}
def upd (ρ : Nat → Option Nat) (i : Nat) (b : Option Nat) : Nat → Option Nat := fun j => if j = i then b else ρ j
def AH.del (H : AH) (i : Nat) : AH := { obj := fun j => if j = i then none else H.obj j, nxt := H.nxt }
theorem ObjOk.ext {ρ' : Nat → Option Nat} {H' : AH} {w' : World} {i : Nat} {o : AObj} (he : Ext ρ H w ρ' H' w') (hi : i < H.nxt) (h : ObjOk ρ H w i o)
    (hb : ∀ b, ρ i = some b → w'.heap[b]? = w.heap[b]?) : ObjOk ρ' H' w' i o := by
  cases o with
  | cells z es fz =>
    rcases h with ⟨b, ccs, t, xss, h1, h2, h3, h4, h5, h6, h7⟩ | ⟨h1, h2, h3⟩
    · exact .inl ⟨b, ccs, t, xss, he.agree _ _ h1, by rw [hb b h1]; exact h2, h3, RepLL.ext he _ _ h4, h5, h6, h7⟩
    · refine .inr ⟨?_, h2, h3⟩
      cases h : ρ' i with
      | none => rfl
      | some b =>
        rcases he.new i b h with h' | ⟨h', _⟩
        · rw [h1] at h'; cases h'
        · omega
  | amap kvs =>
    obtain ⟨b, es, clock, h1, h2, h3, h4, h5⟩ := h
    exact ⟨b, es, clock, he.agree _ _ h1, by rw [hb b h1]; exact h2, h3, RepL.ext he _ _ h4, h5⟩
  | amit m n seen =>
    obtain ⟨b, bm, h1, h2, h3⟩ := h
    exact ⟨b, bm, he.agree _ _ h1, he.agree _ _ h2, by rw [hb b h1]; exact h3⟩
  | anit =>
    obtain ⟨b, h1, h2⟩ := h
    exact ⟨b, he.agree _ _ h1, by rw [hb b h1]; exact h2⟩
theorem Ext.heap {w' : World} (hh : Holds ρ H w) (h : w'.heap = w.heap) (h1 : w'.os = w.os) (h2 : w'.tape = w.tape) (h3 : w'.output = w.output) : Ext ρ H w ρ H w' where
  old := fun i b hi => (hh.bound i b hi).1
  agree := fun _ _ h => h
  new := fun _ _ h => .inl h
  live := fun _ o h _ => ⟨o, h⟩
  nxt := Nat.le_refl _
  imm := fun a v hc hi => ⟨by rw [← hc]; simp [World.cell?, h], hi⟩
  size := by rw [h]; exact Nat.le_refl _
  rest := fun b _ _ => by rw [h]
  shape := fun b cs t fr hc => ⟨cs, by rw [h]; exact hc, rfl⟩
  os := h1
  tape := h2
  output := h3
theorem Holds.heap {w' : World} (hh : Holds ρ H w) (h : w'.heap = w.heap) (h1 : w'.os = w.os) (h2 : w'.tape = w.tape) (h3 : w'.output = w.output) : Holds ρ H w' where
  obj := fun i o ho => (hh.obj i o ho).ext (Ext.heap hh h h1 h2 h3) (hh.lt i o ho) (fun b _ => by rw [h])
  inj := hh.inj
  lt := hh.lt
  bound := fun i b hi => ⟨(hh.bound i b hi).1, by rw [h]; exact (hh.bound i b hi).2⟩
theorem cell_grown {w w' : World} (h : ∀ k, k < w.heap.size → w'.heap[k]? = w.heap[k]?) {a : Addr} {v : Value} (hc : w.cell? a = some v) : w'.cell? a = some v := by
  have hlt := World.block_lt_of_cell? w a hc
  rw [← hc]
  simp only [World.cell?, h _ hlt]
theorem Ext.grown {w' : World} (hh : Holds ρ H w) (h : ∀ k, k < w.heap.size → w'.heap[k]? = w.heap[k]?) (hs : w.heap.size ≤ w'.heap.size) (h1 : w'.os = w.os) (h2 : w'.tape = w.tape) (h3 : w'.output = w.output) : Ext ρ H w ρ H w' where
  old := fun i b hi => (hh.bound i b hi).1
  agree := fun _ _ h => h
  new := fun _ _ h => .inl h
  live := fun _ o h _ => ⟨o, h⟩
  nxt := Nat.le_refl _
  imm := fun a v hc hI => ⟨cell_grown h hc, hI⟩
  size := hs
  rest := fun b hb _ => h b hb
  shape := fun b cs t fr hc => ⟨cs, by rw [h b (Array.getElem?_eq_some_iff.1 hc).1]; exact hc, rfl⟩
  os := h1
  tape := h2
  output := h3
theorem Holds.grown {w' : World} (hh : Holds ρ H w) (h : ∀ k, k < w.heap.size → w'.heap[k]? = w.heap[k]?) (hs : w.heap.size ≤ w'.heap.size) (h1 : w'.os = w.os) (h2 : w'.tape = w.tape) (h3 : w'.output = w.output) : Holds ρ H w' where
  obj := fun i o ho => (hh.obj i o ho).ext (Ext.grown hh h hs h1 h2 h3) (hh.lt i o ho) fun b hb => h b (hh.bound i b hb).2
  inj := hh.inj
  lt := hh.lt
  bound := fun i b hi => ⟨(hh.bound i b hi).1, Nat.lt_of_lt_of_le (hh.bound i b hi).2 hs⟩
theorem heap_push_old (w : World) (o : Obj) (k : Nat) (h : k < w.heap.size) : (w.alloc o).heap[k]? = w.heap[k]? := by
  show (w.heap.push o)[k]? = _
  rw [Array.getElem?_push, if_neg (by omega)]
theorem heap_push_new (w : World) (o : Obj) : (w.alloc o).heap[w.heap.size]? = some o := by
  show (w.heap.push o)[w.heap.size]? = _
  simp
theorem size_push (w : World) (o : Obj) : (w.alloc o).heap.size = w.heap.size + 1 := by
  show (w.heap.push o).size = _
  simp
theorem Ext.alloc (hh : Holds ρ H w) (obj : Obj) (o : AObj) : Ext ρ H w (upd ρ H.nxt (some w.heap.size)) (H.add o) (w.alloc obj) where
  old := fun i b hi => (hh.bound i b hi).1
  agree := fun i b hi => by
    have := (hh.bound i b hi).1
    simp only [upd]
    rw [if_neg (by omega)]
    exact hi
  new := fun i b hi => by
    simp only [upd] at hi
    split at hi
    · rename_i h
      subst h
      injection hi with hi
      exact .inr ⟨Nat.le_refl _, .inl (by omega)⟩
    · exact .inl hi
  live := fun i o' ho hi => by
    simp only [AH.add] at ho
    rw [if_neg (by omega)] at ho
    exact ⟨o', ho⟩
  nxt := by simp [AH.add]
  imm := fun a v hc hi => by
    have hlt : a.block < w.heap.size := World.block_lt_of_cell? w a hc
    refine ⟨by rw [← hc]; simp only [World.cell?, heap_push_old w obj _ hlt], fun i z es fz ho hρ => ?_⟩
    simp only [AH.add] at ho
    simp only [upd] at hρ
    split at ho
    · rename_i h
      rw [if_pos h] at hρ
      injection hρ with hρ
      omega
    · rename_i h
      rw [if_neg h] at hρ
      exact hi i z es fz ho hρ
  size := by rw [size_push]; omega
  rest := fun b hb _ => heap_push_old w obj b hb
  shape := fun b cs t fr hc => ⟨cs, by rw [heap_push_old w obj b (Array.getElem?_eq_some_iff.1 hc).1]; exact hc, rfl⟩
  os := rfl
  tape := rfl
  output := rfl
theorem Holds.alloc (hh : Holds ρ H w) (obj : Obj) (o : AObj) (hok : ObjOk (upd ρ H.nxt (some w.heap.size)) (H.add o) (w.alloc obj) H.nxt o) :
    Holds (upd ρ H.nxt (some w.heap.size)) (H.add o) (w.alloc obj) where
  obj := fun i o' ho => by
    simp only [AH.add] at ho
    split at ho
    · rename_i h
      subst h
      injection ho with ho
      subst ho
      exact hok
    · have hi := hh.lt i o' ho
      exact (hh.obj i o' ho).ext (Ext.alloc hh obj o) hi fun b hb => heap_push_old w obj b (hh.bound i b hb).2
  inj := fun i j b oi oj hi hj hbi hbj => by
    simp only [AH.add] at hi hj
    simp only [upd] at hbi hbj
    by_cases h1 : i = H.nxt <;> by_cases h2 : j = H.nxt
    · rw [h1, h2]
    · rw [if_pos h1] at hbi
      rw [if_neg h2] at hbj
      injection hbi with hbi
      have := (hh.bound j b hbj).2
      omega
    · rw [if_neg h1] at hbi
      rw [if_pos h2] at hbj
      injection hbj with hbj
      have := (hh.bound i b hbi).2
      omega
    · rw [if_neg h1] at hi hbi
      rw [if_neg h2] at hj hbj
      exact hh.inj i j b oi oj hi hj hbi hbj
  lt := fun i o' ho => by
    simp only [AH.add] at ho ⊢
    split at ho
    · omega
    · have := hh.lt i o' ho; omega
  bound := fun i b hi => by
    simp only [upd] at hi
    rw [size_push]
    simp only [AH.add]
    split at hi
    · injection hi with hi
      omega
    · have := hh.bound i b hi; omega
theorem Ext.ghost (hh : Holds ρ H w) (o : AObj) : Ext ρ H w ρ (H.add o) w where
  old := fun i b hi => (hh.bound i b hi).1
  agree := fun _ _ h => h
  new := fun _ _ h => .inl h
  live := fun i o' ho hi => by
    simp only [AH.add] at ho
    rw [if_neg (by omega)] at ho
    exact ⟨o', ho⟩
  nxt := by simp [AH.add]
  imm := fun a v hc hi => ⟨hc, fun i z es fz ho hρ => by
    simp only [AH.add] at ho
    split at ho
    · rename_i h
      have := (hh.bound i _ hρ).1
      omega
    · exact hi i z es fz ho hρ⟩
  size := Nat.le_refl _
  rest := fun _ _ _ => rfl
  shape := fun b cs t fr hc => ⟨cs, hc, rfl⟩
  os := rfl
  tape := rfl
  output := rfl
theorem Holds.ghost (hh : Holds ρ H w) (z : Nat) : Holds ρ (H.add (.cells z [] 0)) w where
  obj := fun i o' ho => by
    simp only [AH.add] at ho
    split at ho
    · rename_i h
      injection ho with ho
      subst ho
      refine .inr ⟨?_, rfl, rfl⟩
      cases hb : ρ i with
      | none => rfl
      | some b => have := (hh.bound i b hb).1; omega
    · exact (hh.obj i o' ho).ext (Ext.ghost hh _) (hh.lt i o' ho) fun _ _ => rfl
  inj := fun i j b oi oj hi hj hbi hbj => by
    have h1 := (hh.bound i b hbi).1
    have h2 := (hh.bound j b hbj).1
    simp only [AH.add] at hi hj
    rw [if_neg (by omega)] at hi hj
    exact hh.inj i j b oi oj hi hj hbi hbj
  lt := fun i o' ho => by
    simp only [AH.add] at ho ⊢
    split at ho
    · omega
    · have := hh.lt i o' ho; omega
  bound := fun i b hi => by
    have := hh.bound i b hi
    simp only [AH.add]
    omega
theorem flat_get {z : Nat} : ∀ {xss : List (List Value)}, (∀ xs ∈ xss, xs.length = z) → ∀ {j k : Nat} {xs : List Value} {v : Value}, xss[j]? = some xs → xs[k]? = some v → xss.flatten[j * z + k]? = some v
  | [], _, j, k, xs, v, hj, _ => by simp at hj
  | ys :: xss, hz, j, k, xs, v, hj, hk => by
    have hy := hz ys (by simp)
    cases j with
    | zero =>
      simp at hj
      subst hj
      simp only [List.flatten_cons, Nat.zero_mul, Nat.zero_add]
      rw [List.getElem?_append_left (List.getElem?_eq_some_iff.1 hk).1]
      exact hk
    | succ j =>
      simp at hj
      have := flat_get (z := z) (fun xs h => hz xs (by simp [h])) hj hk
      simp only [List.flatten_cons]
      rw [List.getElem?_append_right (by rw [hy, Nat.succ_mul]; omega)]
      rw [hy, Nat.succ_mul, show j * z + z + k - z = j * z + k by omega]
      exact this
theorem flat_length {z : Nat} : ∀ {xss : List (List Value)}, (∀ xs ∈ xss, xs.length = z) → xss.flatten.length = xss.length * z
  | [], _ => by simp
  | ys :: xss, hz => by
    have ih := flat_length (z := z) (xss := xss) fun xs h => hz xs (by simp [h])
    simp only [List.flatten_cons, List.length_append, List.length_cons, hz ys (by simp), ih, Nat.succ_mul]
    omega
theorem flat_set {z : Nat} : ∀ {xss : List (List Value)} {i : Nat} {ys : List Value}, (∀ xs ∈ xss, xs.length = z) → ys.length = z → i < xss.length →
    (xss.set i ys).flatten = xss.flatten.take (i * z) ++ ys ++ xss.flatten.drop (i * z + z)
  | [], i, ys, _, _, h => by simp at h
  | xs :: xss, i, ys, hz, hy, hi => by
    have hx := hz xs (by simp)
    cases i with
    | zero =>
      simp only [List.set_cons_zero, List.flatten_cons, Nat.zero_mul, List.take_zero, List.nil_append, Nat.zero_add]
      rw [List.drop_append, List.drop_of_length_le (by omega), hx]
      simp
    | succ i =>
      have ih := flat_set (z := z) (xss := xss) (i := i) (ys := ys) (fun xs h => hz xs (by simp [h])) hy (by simpa using hi)
      simp only [List.set_cons_succ, List.flatten_cons, ih]
      rw [List.take_append, List.drop_append, List.take_of_length_le (l := xs) (by rw [hx, Nat.succ_mul]; omega), List.drop_of_length_le (l := xs) (by rw [hx, Nat.succ_mul]; omega), hx]
      rw [show (i + 1) * z - z = i * z by rw [Nat.succ_mul]; omega, show (i + 1) * z + z - z = i * z + z by rw [Nat.succ_mul]; omega]
      simp
theorem ObjOk.row {w' : World} {i b z fz : Nat} {es : List (List AV)} {xss : List (List Value)} {ccs : Array Value} {t : TypeId} {more : List Value} (hρ : ρ i = some b) (hb : w'.heap[b]? = some (.cells ccs t (0, 0)))
    (hc : ccs.toList = xss.flatten ++ more) (hr : RepLL ρ H w' es xss) (hz : ∀ e ∈ es, e.length = z) (hf : fz ≤ es.length) : ObjOk ρ H w' i (.cells z es fz) := by
  have hxz := hr.elem_length hz
  refine .inl ⟨b, ccs, t, xss, hρ, hb, hz, hr, hf, ?_, fun j k xs v hj hk => ?_⟩
  · have := congrArg List.length hc
    simp only [Array.length_toList, List.length_append, flat_length hxz, hr.length] at this
    omega
  · have h1 := flat_get hxz hj hk
    rw [← Array.getElem?_toList, hc, List.getElem?_append_left (List.getElem?_eq_some_iff.1 h1).1]
    exact h1
theorem run_newRow (e : TypeId) (cs : Array Value) (w : World) : (newRow e cs).run P w = .ok ⟨w.heap.size, 0, none⟩ (w.alloc (.cells cs e)) := rfl
theorem upd_self (i : Nat) (b : Option Nat) : upd ρ i b i = b := by simp [upd]
theorem RepLL.one {vs : List AV} {xs : List Value} (h : RepL ρ H w vs xs) : RepLL ρ H w [vs] [xs] := by
  simp only [RepLL]; exact ⟨xs, [], rfl, h, rfl⟩
def Made (P : Program) (ρ : Nat → Option Nat) (H : AH) (w : World) (s : Sem Value) (r : AV) (H' : AH) : Prop :=
  ∃ x w' ρ', s.run P w = .ok x w' ∧ Rep ρ' H' w' r x ∧ Holds ρ' H' w' ∧ Ext ρ H w ρ' H' w'
theorem made_var (hh : Holds ρ H w) (t : TypeId) {vs : List AV} {xs : Array Value} (hr : RepL ρ H w vs xs.toList) :
    Rep (upd ρ H.nxt (some w.heap.size)) (H.add (.cells vs.length [vs] 0)) (w.alloc (.cells xs t)) (.ptr H.nxt vs.length 0 0) (.pointer (some ⟨w.heap.size, 0, none⟩)) ∧
    Holds (upd ρ H.nxt (some w.heap.size)) (H.add (.cells vs.length [vs] 0)) (w.alloc (.cells xs t)) ∧ Ext ρ H w (upd ρ H.nxt (some w.heap.size)) (H.add (.cells vs.length [vs] 0)) (w.alloc (.cells xs t)) := by
  have he := Ext.alloc hh (.cells xs t) (.cells vs.length [vs] 0)
  refine ⟨?_, hh.alloc _ _ ?_, he⟩
  · simp only [Rep]
    exact ⟨_, upd_self _ _, by simp⟩
  · exact ObjOk.row (more := []) (upd_self _ _) (heap_push_new w _) (by simp) (RepLL.one (RepL.ext he _ _ hr)) (by simp) (by simp)
theorem made_alloc (hh : Holds ρ H w) {t : TypeId} {zs : List Value} (hz : tzero P t = some zs) :
    Made P ρ H w (Instr.alloc t true (.tuple #[])) (.ptr H.nxt zs.length 0 0) (H.add (.cells zs.length [zs.map .lit] 0)) := by
  simp only [tzero, Option.map_eq_some_iff, Option.bind_eq_some_iff] at hz
  obtain ⟨z, ⟨i, hi, hz⟩, rfl⟩ := hz
  have hzero : (zeroValue t).run P w = .ok z w := by simp [zeroValue, typeInfo, hi, hz]
  have := made_var hh t (vs := z.cells.toList.map .lit) (xs := z.cells) (rep_lits ρ H w _)
  simp only [List.length_map] at this
  exact ⟨_, _, _, by simp only [Instr.alloc, Sem.run_bind, hzero, Result.andThen_ok, newVar, run_newRow, Sem.run_pure], this⟩
theorem made_box (hh : Holds ρ H w) {t : TypeId} {v : AV} {x : Value} (hf : v.fit = true) (hr : Rep ρ H w v x) :
    Made P ρ H w (Instr.box t x) (.ptr H.nxt (acells v).length 0 0) (H.add (.cells (acells v).length [acells v] 0)) :=
  ⟨_, _, _, by simp only [Instr.box, newVar, Sem.run_bind, run_newRow, Result.andThen_ok, Sem.run_pure], made_var hh t (acells_ok hf hr)⟩
def tzeroE (P : Program) (t : TypeId) : Option (List Value × Nat) :=
  match P.underlying t with
  | some (.slice e) => (P.info? e).bind fun i => (i.zero).bind fun z => if z.cells.size = i.size ∧ 0 < i.size then some (z.cells.toList, i.bytes) else none
  | _ => none
theorem tzeroE_ok {t : TypeId} {zs : List Value} {by_ : Nat} (h : tzeroE P t = some (zs, by_)) (w : World) :
    ∃ e i z, P.underlying t = some (.slice e) ∧ P.info? e = some i ∧ i.zero = some z ∧ zs = z.cells.toList ∧ i.size = zs.length ∧ 0 < zs.length ∧ i.bytes = by_ ∧ z.cells.size = i.size ∧
      (zeroValue e).run P w = .ok z w ∧ (sizeOf e).run P w = .ok zs.length w := by
  unfold tzeroE at h
  split at h
  · rename_i e hu
    simp only [Option.bind_eq_some_iff] at h
    obtain ⟨i, hi, z, hz, h⟩ := h
    split at h
    · rename_i hc
      simp only [Option.some.injEq, Prod.mk.injEq] at h
      obtain ⟨rfl, rfl⟩ := h
      have hl : i.size = z.cells.toList.length := by rw [Array.length_toList, hc.1]
      exact ⟨e, i, z, hu, hi, hz, rfl, hl, by omega, rfl, hc.1, by simp [zeroValue, typeInfo, hi, hz], by simp [sizeOf, typeInfo, hi, hl]⟩
    · cases h
  · cases h
def asets : List (List AV) → Nat → List (Nat × AV) → Option (Prop × List (List AV))
  | es, _, [] => some (True, es)
  | es, z, (i, v) :: rest => (asets (es.set i (acells v)) z rest).map fun (φ, r) => (v.fit = true ∧ (acells v).length = z ∧ i < es.length ∧ φ, r)
theorem asets_ok {z : Nat} : ∀ {parts : List (Nat × AV)} {ps : List (Nat × Value)} {es : List (List AV)} {xss : List (List Value)} {φ : Prop} {r : List (List AV)},
    asets es z parts = some (φ, r) → φ → RepLL ρ H w es xss → (∀ e ∈ es, e.length = z) → parts.map (·.1) = ps.map (·.1) → (∀ (j : Nat) u v, parts[j]? = some u → ps[j]? = some v → Rep ρ H w u.2 v.2) →
    ∃ yss, Instr.fill (fun i => some (i * z, z)) xss.flatten.toArray ps = some yss.flatten.toArray ∧ RepLL ρ H w r yss ∧ (∀ e ∈ r, e.length = z) ∧ r.length = es.length
  | [], ps, es, xss, φ, r, h, _, hr, hz, hm, _ => by
    simp only [asets, Option.some.injEq, Prod.mk.injEq] at h
    obtain ⟨rfl, rfl⟩ := h
    have : ps = [] := by simpa using hm.symm
    subst this
    exact ⟨xss, by simp [Instr.fill], hr, hz, rfl⟩
  | (i, v) :: parts, [], es, xss, φ, r, h, _, hr, _, hm, _ => by simp at hm
  | (i, v) :: parts, (i', y) :: ps, es, xss, φ, r, h, hφ, hr, hz, hm, hp => by
    simp only [List.map_cons, List.cons.injEq] at hm
    obtain ⟨rfl, hm⟩ := hm
    simp only [asets, Option.map_eq_some_iff, Prod.mk.injEq] at h
    obtain ⟨⟨ψ, r'⟩, h1, rfl, rfl⟩ := h
    obtain ⟨hf, hl, hi, hψ⟩ := hφ
    have hv : Rep ρ H w v y := hp 0 _ _ rfl rfl
    have hc := acells_ok hf hv
    have hcl : y.cells.size = z := by rw [← hl, ← hc.length]; simp
    have hxz := hr.elem_length hz
    have hfl := flat_length hxz
    have hi' : i < xss.length := by rw [hr.length]; exact hi
    have hle : i * z + z ≤ xss.flatten.length := by
      rw [hfl, ← Nat.succ_mul]
      exact Nat.mul_le_mul_right _ hi'
    simp only [Instr.fill, hcl]
    have hcond : (decide (z ≠ z) || decide (i * z + z > xss.flatten.toArray.size)) = false := by
      simp only [ne_eq, not_true, decide_false, Bool.false_or, decide_eq_false_iff_not, List.size_toArray]
      omega
    simp only [hcond, Bool.false_eq_true, if_false]
    have e1 : y.cells.zipIdx.foldl (fun cs (c, j) => cs.setIfInBounds (i * z + j) c) xss.flatten.toArray = (xss.set i y.cells.toList).flatten.toArray := by
      apply Array.ext'
      have := foldl_splice (i * z) y.cells.toList 0 xss.flatten.toArray (by simp only [List.size_toArray, Array.length_toList, hcl]; omega)
      rw [← Array.foldl_toList, Array.toList_zipIdx, this, flat_set hxz (by rw [Array.length_toList]; exact hcl) hi']
      simp only [Nat.add_zero, Array.length_toList, hcl]
    rw [e1]
    have hr' : RepLL ρ H w (es.set i (acells v)) (xss.set i y.cells.toList) := by
      refine RepLL.mk (by simp [hr.length]) fun j u x hu hx => ?_
      by_cases hij : i = j
      · subst hij
        rw [List.getElem?_set_self hi] at hu
        rw [List.getElem?_set_self hi'] at hx
        injection hu with hu
        injection hx with hx
        subst hu hx
        exact hc
      · rw [List.getElem?_set_ne hij] at hu hx
        exact hr.get_both hu hx
    have hz' : ∀ e ∈ es.set i (acells v), e.length = z := by
      intro e he
      rcases List.mem_or_eq_of_mem_set he with h | h
      · exact hz e h
      · subst h; exact hl
    obtain ⟨yss, h2, h3, h4, h5⟩ := asets_ok h1 hψ hr' hz' hm (fun j u v' hu hv' => hp (j + 1) u v' (by simpa using hu) (by simpa using hv'))
    exact ⟨yss, h2, h3, h4, by rw [h5]; simp⟩
theorem zeros_flat (zs : Array Value) (hz : 0 < zs.size) (n : Nat) : ((Array.range (n * zs.size)).map (zs[· % zs.size]!)).toList = (List.replicate n zs.toList).flatten := by
  apply List.ext_getElem?
  intro k
  simp only [Array.toList_map, Array.toList_range, List.getElem?_map]
  have hall : ∀ xs ∈ List.replicate n zs.toList, xs.length = zs.size := by
    intro xs hx
    rw [(List.mem_replicate.1 hx).2, Array.length_toList]
  by_cases hk : k < n * zs.size
  · have h1 : k / zs.size < n := Nat.div_lt_of_lt_mul (by rw [Nat.mul_comm]; exact hk)
    have h2 : k % zs.size < zs.size := Nat.mod_lt _ hz
    have h3 := flat_get hall (j := k / zs.size) (k := k % zs.size) (xs := zs.toList) (v := zs[k % zs.size]) (by simp [h1]) (by simp [h2])
    rw [show k / zs.size * zs.size + k % zs.size = k by rw [Nat.mul_comm]; exact Nat.div_add_mod k zs.size] at h3
    rw [h3]
    simp [hk, h2]
  · rw [List.getElem?_eq_none (by simpa using hk)]
    rw [List.getElem?_eq_none (by rw [flat_length hall, List.length_replicate]; omega)]
    rfl
theorem rep_replicate (n : Nat) (zs : List Value) : RepLL ρ H w (List.replicate n (zs.map .lit)) (List.replicate n zs) := by
  refine RepLL.mk (by simp) fun j u x hu hx => ?_
  rw [List.getElem?_replicate] at hu hx
  split at hu
  · rename_i h
    rw [if_pos h] at hx
    injection hu with hu
    injection hx with hx
    subst hu hx
    exact rep_lits ρ H w _
  · cases hu
theorem made_row (hh : Holds ρ H w) (t : TypeId) {es : List (List AV)} {xss : List (List Value)} {z : Nat} (hr : RepLL ρ H w es xss) (hz : ∀ e ∈ es, e.length = z) (hl : es.length ≤ maxLen) :
    Rep (upd ρ H.nxt (some w.heap.size)) (H.add (.cells z es 0)) (w.alloc (.cells xss.flatten.toArray t)) (.rsl H.nxt z 0 es.length) (.slice (some ⟨w.heap.size, 0, none⟩) es.length es.length) ∧
    Holds (upd ρ H.nxt (some w.heap.size)) (H.add (.cells z es 0)) (w.alloc (.cells xss.flatten.toArray t)) ∧ Ext ρ H w (upd ρ H.nxt (some w.heap.size)) (H.add (.cells z es 0)) (w.alloc (.cells xss.flatten.toArray t)) := by
  have he := Ext.alloc hh (.cells xss.flatten.toArray t) (.cells z es 0)
  refine ⟨?_, hh.alloc _ _ ?_, he⟩
  · simp only [Rep]
    refine .inl ⟨_, es.length, _, t, (0, 0), upd_self _ _, by simp, Nat.le_refl _, hl, heap_push_new w _, ?_⟩
    simp only [List.size_toArray, flat_length (hr.elem_length hz), hr.length, Nat.zero_add]
    exact Nat.le_refl _
  · exact ObjOk.row (more := []) (upd_self _ _) (heap_push_new w _) (by simp) (RepLL.ext he _ _ hr) hz (by simp)
def abuildSlice (P : Program) (t : TypeId) (n : Nat) (H : AH) (parts : List (Nat × AV)) : Option (Prop × AV × AH) :=
  match tzeroE P t with
  | some (zs, _) => (asets (List.replicate n (zs.map .lit)) zs.length parts).map fun (φ, es) => (φ ∧ n * zs.length ≤ 16777216, .rsl H.nxt zs.length 0 n, H.add (.cells zs.length es 0))
  | none => none
theorem made_buildSlice (hh : Holds ρ H w) {t : TypeId} {n : Nat} {parts : List (Nat × AV)} {ps : Array (Nat × Value)} {φ : Prop} {r : AV} {H' : AH} (h : abuildSlice P t n H parts = some (φ, r, H')) (hφ : φ)
    (hm : parts.map (·.1) = ps.toList.map (·.1)) (hp : ∀ (j : Nat) u v, parts[j]? = some u → ps.toList[j]? = some v → Rep ρ H w u.2 v.2) :
    Made P ρ H w (Instr.buildSlice t n ps) r H' := by
  unfold abuildSlice at h
  split at h
  · rename_i zs by_ hz
    simp only [Option.map_eq_some_iff, Prod.mk.injEq] at h
    obtain ⟨⟨ψ, es⟩, h1, rfl, rfl, rfl⟩ := h
    obtain ⟨hψ, hn⟩ := hφ
    obtain ⟨e, i, z, hu, hi, hzv, rfl, hsz, hpos, _, hcs, hzero, hsize⟩ := tzeroE_ok hz w
    obtain ⟨yss, h2, h3, h4, h5⟩ := asets_ok (ps := ps.toList) h1 hψ (rep_replicate n _) (fun e he => by rw [(List.mem_replicate.1 he).2]; simp) hm hp
    have h5' : es.length = n := by rw [h5]; simp
    have hmade := made_row hh e h3 h4 (by rw [h5']; have : n ≤ n * z.cells.toList.length := Nat.le_mul_of_pos_right _ hpos; simp only [maxLen]; omega)
    rw [h5'] at hmade
    refine ⟨_, _, _, ?_, hmade⟩
    have hz' := zeros_flat z.cells (by simpa using hpos) n
    have hl : z.cells.toList.length = z.cells.size := by simp
    have h6 : ((Array.range (n * z.cells.toList.length)).map (z.cells[· % z.cells.size]!)) = (List.replicate n z.cells.toList).flatten.toArray := by
      apply Array.ext'
      rw [hl, hz']
    have hnot : ¬ (n * z.cells.toList.length > 2 ^ 24) := by omega
    by_cases h0 : n * z.cells.toList.length = 0
    · have hn0 : n = 0 := by
        rcases Nat.mul_eq_zero.1 h0 with h | h
        · exact h
        · omega
      subst hn0
      have e0 : ((Array.range (0 * z.cells.toList.length)).map ((#[] : Array Value)[· % (#[] : Array Value).size]!)) = (List.replicate 0 z.cells.toList).flatten.toArray := by simp
      simp only [Instr.buildSlice, Sem.run_bind, run_underlying hu, Result.andThen_ok, hsize, if_neg hnot, if_pos h0, Sem.run_pure, e0, h2, run_newRow, Sem.run_ite]
    · simp only [Instr.buildSlice, Sem.run_bind, run_underlying hu, Result.andThen_ok, hsize, if_neg hnot, if_neg h0, hzero, Sem.run_pure, h6, h2, run_newRow, Sem.run_ite]
  · cases h
end Go.Sim
namespace Go.Sim
variable {P : Program} {ρ : Nat → Option Nat} {H : AH} {w : World}
structure Wrote (ρ : Nat → Option Nat) (H : AH) (w : World) (ρ' : Nat → Option Nat) (H' : AH) (i k b z fz : Nat) (es es' : List (List AV)) (ccs ccs' : Array Value) (t : TypeId) (xss' : List (List Value)) : Prop where
  ho : H.obj i = some (.cells z es fz)
  hb : ρ i = some b
  hw : w.heap[b]? = some (.cells ccs t (0, 0))
  ho' : H'.obj k = some (.cells z es' fz)
  hk : k = i ∨ k = H.nxt
  hρk : ρ' k = some b
  hρ : ∀ j, j < H.nxt → ρ' j = ρ j
  hρ' : ∀ j b', ρ' j = some b' → j = k ∨ ρ j = some b'
  other : ∀ j o, H'.obj j = some o → j ≠ k → H.obj j = some o ∧ j ≠ i
  nxt : H.nxt ≤ H'.nxt
  klt : k < H'.nxt
  size : ccs'.size = ccs.size
  low : ∀ j, j < fz * z → ccs'[j]? = ccs[j]?
  rep : RepLL ρ H w es' xss'
  len : ∀ e ∈ es', e.length = z
  fz : fz ≤ es'.length
  room : es'.length * z ≤ ccs.size
  at_ : ∀ (j l : Nat) xs v, xss'[j]? = some xs → xs[l]? = some v → ccs'[j * z + l]? = some v
theorem Wrote.ext {ρ' : Nat → Option Nat} {H' : AH} {i k b z fz : Nat} {es es' : List (List AV)} {ccs ccs' : Array Value} {t : TypeId} {xss' : List (List Value)} (hh : Holds ρ H w)
    (h : Wrote ρ H w ρ' H' i k b z fz es es' ccs ccs' t xss') : Ext ρ H w ρ' H' (w.setRow b ccs') where
  old := fun j b' hj => (hh.bound j b' hj).1
  agree := fun j b' hj => by rw [h.hρ j (hh.bound j b' hj).1]; exact hj
  new := fun j b' hj => by
    rcases h.hρ' j b' hj with rfl | h1
    · rcases h.hk with h2 | h2
      · rw [h.hρk] at hj
        injection hj with hj
        subst hj
        exact .inl (by rw [h2]; exact h.hb)
      · rw [h.hρk] at hj
        injection hj with hj
        subst hj
        exact .inr ⟨by omega, .inr ⟨i, _, h.ho, h.hb⟩⟩
    · exact .inl h1
  live := fun j o ho hj => by
    by_cases hjk : j = k
    · subst hjk
      rcases h.hk with h2 | h2
      · exact ⟨_, by rw [h2]; exact h.ho⟩
      · omega
    · exact ⟨o, (h.other j o ho hjk).1⟩
  nxt := h.nxt
  imm := fun a v hc hi => by
    constructor
    · by_cases hab : a.block = b
      · have hlt := hi i z es fz h.ho (by rw [hab]; exact h.hb)
        rw [← hc]
        unfold World.cell?
        rw [hab, setRow_heap w b ccs ccs' t (0, 0) h.hw, h.hw]
        simp only []
        rw [h.low _ hlt]
      · rw [← hc]
        unfold World.cell?
        rw [setRow_other w b a.block ccs' hab]
    · intro j z' es2 fz2 ho hρ
      by_cases hjk : j = k
      · subst hjk
        rw [h.ho'] at ho
        injection ho with ho
        injection ho with e1 e2 e3
        subst e1 e3
        rw [h.hρk] at hρ
        exact hi i _ es _ h.ho (h.hb.trans hρ)
      · rcases h.hρ' j _ hρ with h1 | h1
        · exact absurd h1 hjk
        · exact hi j _ _ _ (h.other j _ ho hjk).1 h1
  size := by simp [World.setRow]
  rest := fun b' hb' hno => setRow_other w b b' ccs' fun e => hno i _ h.ho (by rw [e]; exact h.hb)
  shape := fun b' cs t' fr hc => by
    by_cases e : b' = b
    · subst e
      rw [h.hw] at hc
      injection hc with hc
      injection hc with e1 e2 e3
      subst e1 e2 e3
      exact ⟨ccs', setRow_heap w b' ccs ccs' t (0, 0) h.hw, h.size⟩
    · exact ⟨cs, by rw [setRow_other w b b' ccs' e]; exact hc, rfl⟩
  os := rfl
  tape := rfl
  output := rfl
theorem Wrote.holds {ρ' : Nat → Option Nat} {H' : AH} {i k b z fz : Nat} {es es' : List (List AV)} {ccs ccs' : Array Value} {t : TypeId} {xss' : List (List Value)} (hh : Holds ρ H w)
    (h : Wrote ρ H w ρ' H' i k b z fz es es' ccs ccs' t xss') : Holds ρ' H' (w.setRow b ccs') where
  obj := fun j o ho => by
    by_cases hjk : j = k
    · subst hjk
      rw [h.ho'] at ho
      injection ho with ho
      subst ho
      exact .inl ⟨b, ccs', t, xss', h.hρk, setRow_heap w b ccs ccs' t (0, 0) h.hw, h.len, RepLL.ext (h.ext hh) _ _ h.rep, h.fz, by rw [h.size]; exact h.room, h.at_⟩
    · obtain ⟨h1, h2⟩ := h.other j o ho hjk
      refine (hh.obj j o h1).ext (h.ext hh) (hh.lt j o h1) fun b' hb' => setRow_other w b b' ccs' fun e => ?_
      subst e
      exact h2 (hh.inj j i b' _ _ h1 h.ho hb' h.hb)
  inj := fun j l b' oj ol hj hl hbj hbl => by
    by_cases h1 : j = k <;> by_cases h2 : l = k
    · rw [h1, h2]
    · subst h1
      obtain ⟨h3, h4⟩ := h.other l ol hl h2
      rw [h.hρk] at hbj
      injection hbj with hbj
      subst hbj
      rcases h.hρ' l _ hbl with h5 | h5
      · exact h5.symm
      · exact absurd (hh.inj l i _ _ _ h3 h.ho h5 h.hb) h4
    · subst h2
      obtain ⟨h3, h4⟩ := h.other j oj hj h1
      rw [h.hρk] at hbl
      injection hbl with hbl
      subst hbl
      rcases h.hρ' j _ hbj with h5 | h5
      · exact h5
      · exact absurd (hh.inj j i _ _ _ h3 h.ho h5 h.hb) h4
    · obtain ⟨h3, _⟩ := h.other j oj hj h1
      obtain ⟨h4, _⟩ := h.other l ol hl h2
      rcases h.hρ' j _ hbj with h5 | h5
      · exact absurd h5 h1
      rcases h.hρ' l _ hbl with h6 | h6
      · exact absurd h6 h2
      exact hh.inj j l b' _ _ h3 h4 h5 h6
  lt := fun j o ho => by
    by_cases hjk : j = k
    · rw [hjk]; exact h.klt
    · exact Nat.lt_of_lt_of_le (hh.lt j o (h.other j o ho hjk).1) h.nxt
  bound := fun j b' hj => by
    have hs : (w.setRow b ccs').heap.size = w.heap.size := by simp [World.setRow]
    rw [hs]
    rcases h.hρ' j b' hj with rfl | h1
    · rw [h.hρk] at hj
      injection hj with hj
      subst hj
      exact ⟨h.klt, (hh.bound i _ h.hb).2⟩
    · have := hh.bound j b' h1
      exact ⟨Nat.lt_of_lt_of_le this.1 h.nxt, this.2⟩
def astore (P : Program) (t : TypeId) (H : AH) (x v : AV) : Option (Prop × AV × AH) :=
  match x with
  | .ptr i z e c =>
    match H.obj i with
    | some (.cells z' es fz) =>
      some (z' = z ∧ fz ≤ e ∧ e < es.length ∧ c + (acells v).length ≤ z ∧ v.fit = true ∧ (acells v).all AV.one = true ∧ (tload P t).map (·.1) = some (acells v).length, .any, H.set i (.cells z (es.set e (splice (es.getD e []) c (acells v))) fz))
    | _ => none
  | _ => none
def MadeU (P : Program) (ρ : Nat → Option Nat) (H : AH) (w : World) (s : Sem Unit) (H' : AH) : Prop :=
  ∃ w' ρ', s.run P w = .ok () w' ∧ Holds ρ' H' w' ∧ Ext ρ H w ρ' H' w'
theorem ones_ok {vs : List AV} {xs : List Value} (h : vs.all AV.one = true) (hr : RepL ρ H w vs xs) : ∀ x ∈ xs, x.oneCell' = true := by
  intro x hx
  obtain ⟨j, hj⟩ := List.getElem?_of_mem hx
  have hlt : j < vs.length := by rw [← hr.length]; exact (List.getElem?_eq_some_iff.1 hj).1
  have hv : vs[j]? = some vs[j] := List.getElem?_eq_getElem hlt
  exact one_ok (List.all_eq_true.1 h _ (List.getElem_mem hlt)) (hr.get_both hv hj)
theorem made_store (hh : Holds ρ H w) {t : TypeId} {vx vv : AV} {x v : Value} {φ : Prop} {r : AV} {H' : AH} (h : astore P t H vx vv = some (φ, r, H')) (hφ : φ) (hx : Rep ρ H w vx x) (hv : Rep ρ H w vv v) :
    MadeU P ρ H w (Instr.storeAt t x v) H' ∧ r = .any := by
  unfold astore at h
  split at h
  · rename_i i z e c
    split at h
    · rename_i z' es fz ho
      simp only [Option.some.injEq, Prod.mk.injEq] at h
      obtain ⟨rfl, rfl, rfl⟩ := h
      obtain ⟨rfl, h1, h2, h3, h4, h5, h6⟩ := hφ
      refine ⟨?_, rfl⟩
      simp only [Rep] at hx
      obtain ⟨b, hb, rfl⟩ := hx
      simp only [Option.map_eq_some_iff] at h6
      obtain ⟨⟨n, g⟩, ht, hn⟩ := h6
      simp only [] at hn
      obtain ⟨hs, _, _⟩ := tload_ok ht w
      have hc := acells_ok h4 hv
      have hcl : v.cells.size = n := by rw [hn, ← hc.length]; simp
      rcases hh.obj i _ ho with ⟨b', ccs, t', xss, k1, k2, k3, k4, k5, k6, k7⟩ | ⟨k1, _⟩
      · rw [hb] at k1
        injection k1 with k1
        subst k1
        have he : es[e]? = some es[e] := List.getElem?_eq_getElem h2
        have hg : es.getD e [] = es[e] := by simp [List.getD_eq_getElem?_getD, he]
        obtain ⟨xs, hxs, hr⟩ := k4.get he
        have hez : es[e].length = z' := k3 _ (List.getElem_mem h2)
        have hxz : xs.length = z' := by rw [hr.length, hez]
        have hle : e * z' + z' ≤ ccs.size := by
          have : (e + 1) * z' ≤ es.length * z' := Nat.mul_le_mul_right _ h2
          rw [Nat.succ_mul] at this
          omega
        have hst := run_storeCells_at (P := P) b (e * z' + c) t' v.cells.toList 0 ccs w k2 (by simp only [Array.length_toList, hcl, Nat.add_zero]; omega) (ones_ok h5 hc)
        simp only [Nat.add_zero, Array.length_toList] at hst
        have hW : Wrote ρ H w ρ (H.set i (.cells z' (es.set e (splice (es.getD e []) c (acells vv))) fz)) i i b z' fz es (es.set e (splice (es.getD e []) c (acells vv))) ccs
            (ccs.toList.take (e * z' + c) ++ v.cells.toList ++ ccs.toList.drop (e * z' + c + v.cells.size)).toArray t' (xss.set e (xs.take c ++ v.cells.toList ++ xs.drop (c + (acells vv).length))) := {
          ho := ho
          hb := hb
          hw := k2
          ho' := by simp [AH.set]
          hk := .inl rfl
          hρk := hb
          hρ := fun _ _ => rfl
          hρ' := fun j b' hj => .inr hj
          other := fun j o hj hne => by simp only [AH.set] at hj; rw [if_neg hne] at hj; exact ⟨hj, hne⟩
          nxt := Nat.le_refl _
          klt := hh.lt i _ ho
          size := by simp; omega
          low := fun j hj => by
            have : fz * z' ≤ e * z' := Nat.mul_le_mul_right _ h1
            simp only [List.getElem?_toArray]
            rw [List.append_assoc, List.getElem?_append_left (by simp; omega), List.getElem?_take, if_pos (by omega), Array.getElem?_toList]
          rep := by
            rw [hg]
            refine RepLL.mk (by simp [k4.length]) fun j u y hu hy => ?_
            by_cases hij : e = j
            · subst hij
              rw [List.getElem?_set_self h2] at hu
              rw [List.getElem?_set_self (by rw [k4.length]; exact h2)] at hy
              injection hu with hu
              injection hy with hy
              subst hu hy
              exact hr.splice hc c
            · rw [List.getElem?_set_ne hij] at hu hy
              exact k4.get_both hu hy
          len := fun u hu => by
            rcases List.mem_or_eq_of_mem_set hu with h | h
            · exact k3 u h
            · subst h
              rw [hg]
              simp only [splice, List.length_append, List.length_take, List.length_drop, hez]
              omega
          fz := by simp; exact k5
          room := by simp; exact k6
          at_ := fun j l ys u hj hl => by
            simp only [List.getElem?_toArray]
            by_cases hij : e = j
            · subst hij
              rw [List.getElem?_set_self (by rw [k4.length]; exact h2)] at hj
              injection hj with hj
              subst hj
              rw [List.append_assoc] at hl ⊢
              rw [List.getElem?_append] at hl ⊢
              simp only [List.length_take, hxz, Array.length_toList] at hl ⊢
              have m1 : min c z' = c := by omega
              have m2 : min (e * z' + c) ccs.size = e * z' + c := by omega
              rw [m1] at hl
              rw [m2]
              by_cases hlc : l < c
              · rw [if_pos hlc] at hl
                rw [if_pos (by omega), List.getElem?_take, if_pos (by omega), Array.getElem?_toList]
                rw [List.getElem?_take, if_pos hlc] at hl
                exact k7 e l xs u hxs hl
              · rw [if_neg hlc] at hl
                rw [if_neg (by omega), show e * z' + l - (e * z' + c) = l - c by omega]
                rw [List.getElem?_append] at hl ⊢
                simp only [Array.length_toList] at hl ⊢
                by_cases hlv : l - c < v.cells.size
                · rw [if_pos hlv] at hl ⊢
                  exact hl
                · rw [if_neg hlv] at hl ⊢
                  rw [List.getElem?_drop] at hl ⊢
                  rw [Array.getElem?_toList]
                  have hll : (acells vv).length = v.cells.size := by rw [hcl, hn]
                  rw [hll, show c + v.cells.size + (l - c - v.cells.size) = l by omega] at hl
                  rw [show e * z' + c + v.cells.size + (l - c - v.cells.size) = e * z' + l by omega]
                  exact k7 e l xs u hxs hl
            · rw [List.getElem?_set_ne hij] at hj
              have hold := k7 j l ys u hj hl
              have hlz : l < z' := by
                have := (List.getElem?_eq_some_iff.1 hl).1
                rw [k4.elem_length k3 ys (List.mem_of_getElem? hj)] at this
                exact this
              have hvn : v.cells.size ≤ z' - c := by omega
              rw [List.append_assoc, List.getElem?_append]
              simp only [List.length_take, Array.length_toList]
              have m2 : min (e * z' + c) ccs.size = e * z' + c := by omega
              rw [m2]
              rcases Nat.lt_or_gt_of_ne hij with hlt | hgt
              · have h7 : (e + 1) * z' ≤ j * z' := Nat.mul_le_mul_right _ hlt
                rw [Nat.succ_mul] at h7
                rw [if_neg (by omega), List.getElem?_append_right (by simp only [Array.length_toList]; omega), List.getElem?_drop, Array.getElem?_toList]
                simp only [Array.length_toList]
                rw [show e * z' + c + v.cells.size + (j * z' + l - (e * z' + c) - v.cells.size) = j * z' + l by omega]
                exact hold
              · have h7 : (j + 1) * z' ≤ e * z' := Nat.mul_le_mul_right _ hgt
                rw [Nat.succ_mul] at h7
                rw [if_pos (by omega), List.getElem?_take, if_pos (by omega), Array.getElem?_toList]
                exact hold }
        refine ⟨_, _, ?_, hW.holds hh, hW.ext hh⟩
        have hne : ¬ (v.cells.size ≠ n) := by simp [hcl]
        simp only [Instr.storeAt, Instr.sureAddr, Sem.run_bind, Sem.run_pure, Result.andThen_ok, storeVar, hs, if_neg hne, hst]
      · rw [hb] at k1; cases k1
    · cases h
  · cases h
def Reads (w : World) (A : Option Addr) (xs : List Value) : Prop := xs = [] ∨ ∃ a, A = some a ∧ ∀ (j : Nat) v, xs[j]? = some v → w.cell? (a.add j) = some v
theorem run_firstCells {A : Option Addr} {k c z : Nat} {xs : List Value} (h : Reads w A xs) (hl : xs.length = k * z) : (Builtin.firstCells z k (.slice A k c)).run P w = .ok xs.toArray w := by
  cases A with
  | none =>
    rcases h with rfl | ⟨a, h, _⟩
    · rfl
    · cases h
  | some a =>
    simp only [Builtin.firstCells]
    rw [← hl]
    refine run_loadCells_list w a xs ?_
    rcases h with rfl | ⟨a', h, h'⟩
    · intro j v hv; simp at hv
    · injection h with h
      subst h
      exact h'
theorem run_append_in {t e : TypeId} {i : TypeInfo} (hu : P.underlying t = some (.slice e)) (hi : P.info? e = some i) (ty : TypeId) {a : Addr} {n cap k c : Nat} {B : Option Addr} {news : List Value} {w' : World}
    (hb : Reads w B news) (hl : news.length = k * i.size) (hc : n + k ≤ cap) (hs : (storeCells (a.add (n * i.size)) news).run P w = .ok () w') :
    (Builtin.append_ #[t, t] ty #[.slice (some a) n cap, .slice B k c]).run P w = .ok (.slice (some a) (n + k) cap) w' := by
  have hf := run_firstCells (P := P) (c := c) hb hl
  simp [Builtin.append_, run_underlying hu, sizeOf, typeInfo, hi, Builtin.lenOf, hc, hf, hs]
theorem run_append_nil {t e : TypeId} {i : TypeInfo} (hu : P.underlying t = some (.slice e)) (hi : P.info? e = some i) (ty : TypeId) {A : Option Addr} {c : Nat} {B : Option Addr} (hb : Reads w B []) :
    (Builtin.append_ #[t, t] ty #[.slice A 0 0, .slice B 0 c]).run P w = .ok (.slice A 0 0) w := by
  have hf := run_firstCells (P := P) (c := c) (k := 0) (z := i.size) hb (by simp)
  cases A with
  | none => simp [Builtin.append_, run_underlying hu, sizeOf, typeInfo, hi, Builtin.lenOf, hf]
  | some a => simp [Builtin.append_, run_underlying hu, sizeOf, typeInfo, hi, Builtin.lenOf, hf, storeCells]
def roomB (b : Nat) : Nat := if b ≤ 1048576 then 158329674399744 else 140737488355328
theorem roomB_le (b : Nat) : roomB b ≤ 158329674399744 := by unfold roomB; split <;> omega
theorem run_append_new {t e : TypeId} {i : TypeInfo} {zv : Value} (hu : P.underlying t = some (.slice e)) (hi : P.info? e = some i) (hz : i.zero = some zv) (ty : TypeId) {A B : Option Addr} {n cap k c : Nat} {olds news : List Value}
    (ha : Reads w A olds) (hla : olds.length = n * i.size) (hb : Reads w B news) (hl : news.length = k * i.size) (hc : cap < n + k) (hcap : n ≤ cap) (hby : 0 < i.bytes) (hsz : (n + k) * i.bytes ≤ roomB i.bytes) (hmax : n + k ≤ 9223372036854775807) :
    ∃ more : List Value, ∃ cap', n + k ≤ cap' ∧ cap' ≤ 9223372036854775807 ∧ more.length = (cap' - (n + k)) * zv.cells.size ∧
    (Builtin.append_ #[t, t] ty #[.slice A n cap, .slice B k c]).run P w = .ok (.slice (some ⟨w.heap.size, 0, none⟩) (n + k) cap') (w.drew.alloc (.cells (olds ++ news ++ more).toArray e)) := by
  have hd : Reads w.drew A olds := ha
  have hd' : Reads w.drew B news := hb
  have hf := run_firstCells (P := P) (c := c) hd' hl
  have hf' := run_firstCells (P := P) (c := cap) hd hla
  let cap' := Question.cut (.appendCap (n + k) cap e) (w.tape w.drawn (.appendCap (n + k) cap e))
  have hcut : cap' = (n + k) + (w.tape w.drawn (.appendCap (n + k) cap e)) % (2 ^ 63 - (n + k)) := rfl
  refine ⟨(Builtin.zeroCells zv.cells (cap' - (n + k))).toList, cap', by omega, ?_, by simp [Builtin.zeroCells], ?_⟩
  · have : (w.tape w.drawn (.appendCap (n + k) cap e)) % (2 ^ 63 - (n + k)) < 2 ^ 63 - (n + k) := Nat.mod_lt _ (by omega)
    omega
  · have hn1 : ¬ (n + k ≤ cap) := by omega
    have hn2 : ¬ (((n + k : Nat) : Int) > IntKind.i64.max ∧ ((false = true) ∨ i.bytes = 0)) := by
      intro h
      rcases h.2 with h | h
      · cases h
      · omega
    have hnext : Builtin.nextslicecap (n + k) cap ≤ 2 * (n + k) ∧ Builtin.nextslicecap (n + k) cap ≤ (n + k) + (n + k) / 4 + 512 := by
      unfold Builtin.nextslicecap
      split
      · omega
      · split
        · omega
        · rename_i h1 h2
          have step : ∀ r c0, c0 ≤ (n + k) + (n + k) / 4 + 192 → c0 ≤ 2 * (n + k) → 256 ≤ c0 → Builtin.growBy (n + k) r c0 ≤ 2 * (n + k) ∧ Builtin.growBy (n + k) r c0 ≤ (n + k) + (n + k) / 4 + 512 := by
            intro r
            induction r with
            | zero => intro c0 h h' _; simp only [Builtin.growBy]; omega
            | succ r ih =>
              intro c0 h h' h6
              simp only [Builtin.growBy]
              split
              · omega
              · rename_i hlt
                exact ih _ (by omega) (by omega) (by omega)
          exact step 4 cap (by omega) (by omega) (by omega)
    have hn3 : ¬ (Builtin.nextslicecap (n + k) cap * i.bytes > 2 ^ 48) := by
      unfold roomB at hsz
      split at hsz
      · rename_i hb20
        have h1 := Nat.mul_le_mul_right i.bytes hnext.2
        have h2 : (n + k + (n + k) / 4 + 512) * i.bytes = (n + k) * i.bytes + ((n + k) / 4) * i.bytes + 512 * i.bytes := by rw [Nat.add_mul, Nat.add_mul]
        have h3 : ((n + k) / 4) * i.bytes * 4 ≤ (n + k) * i.bytes := by
          rw [Nat.mul_right_comm]
          exact Nat.mul_le_mul_right _ (Nat.div_mul_le_self _ _)
        omega
      · have := Nat.mul_le_mul_right i.bytes hnext.1
        rw [Nat.mul_assoc] at this
        omega
    have hq : (Question.appendCap (n + k) cap e).forced = false := rfl
    have hfold : ({ w with drawn := w.drawn + 1 } : World) = w.drew := rfl
    have hzc : ∀ W : World, (zeroValue e).run P W = .ok zv W := fun W => by simp [zeroValue, typeInfo, hi, hz]
    have hcut' : (Question.appendCap (n + k) cap e).cut (w.tape w.drawn (.appendCap (n + k) cap e)) = cap' := rfl
    have hlen : Builtin.lenOf (.slice B k c) = pure k := rfl
    simp only [Builtin.append_, List.getElem?_toArray, List.getElem?_cons_zero, List.getElem?_cons_succ, Sem.run_bind, run_underlying hu, Result.andThen_ok, sizeOf, typeInfo, run_program, hi, Sem.run_pure, hlen, if_neg hn1, Bool.false_eq_true,
      if_false, if_neg hn2, if_neg hn3, run_choose, hq, hfold, hcut', run_askRoom, hf, hf', hzc, Bool.not_false, if_true, run_newRow, Sem.run_ite, false_or, List.append_toArray]
    rw [if_neg (by omega)]
    have harr : ((olds ++ news).toArray ++ Builtin.zeroCells zv.cells (cap' - (n + k))) = (olds ++ news ++ (Builtin.zeroCells zv.cells (cap' - (n + k))).toList).toArray := by
      apply Array.ext'
      simp
    rw [harr]
    rfl
def srcEs (H : AH) (z : Nat) : AV → Option (Prop × List (List AV))
  | .sl es => some (True, es)
  | .rsl j z' o n =>
    match H.obj j with
    | some (.cells z'' es _) => some (z' = z ∧ z'' = z ∧ o + n ≤ es.length, (es.drop o).take n)
    | _ => none
  | .esl => some (True, [])
  | .lit (.slice none 0 0) => some (True, [])
  | _ => none
theorem srcEs_ok (hh : Holds ρ H w) {z : Nat} {v : AV} {x : Value} {φ : Prop} {us : List (List AV)} (h : srcEs H z v = some (φ, us)) (hφ : φ) (hr : Rep ρ H w v x) (hz : ∀ e ∈ us, e.length = z) :
    ∃ B c xss, x = .slice B us.length c ∧ RepLL ρ H w us xss ∧ Reads w B xss.flatten := by
  unfold srcEs at h
  split at h
  · rename_i es
    simp only [Option.some.injEq, Prod.mk.injEq] at h
    obtain ⟨rfl, rfl⟩ := h
    simp only [Rep] at hr
    obtain ⟨A, cap, rfl, h1, h2, h3⟩ := hr
    by_cases hne : es = []
    · subst hne
      exact ⟨A, cap, [], rfl, by simp only [RepLL], .inl rfl⟩
    · obtain ⟨a, z', xss, rfl, h4, h5, h6⟩ := h3 hne
      refine ⟨_, cap, xss, rfl, h5, .inr ⟨a, rfl, fun j v hv => ?_⟩⟩
      have hxz := h5.elem_length hz
      have hzz : z' = z := by
        cases es with
        | nil => exact absurd rfl hne
        | cons e es => rw [← h4 e (by simp), hz e (by simp)]
      subst hzz
      have hlt := (List.getElem?_eq_some_iff.1 hv).1
      rw [flat_length hxz] at hlt
      have hpos : 0 < z' := by
        rcases Nat.eq_zero_or_pos z' with h | h
        · subst h; simp at hlt
        · exact h
      have hj : j / z' < xss.length := Nat.div_lt_of_lt_mul (by rw [Nat.mul_comm]; exact hlt)
      have hg : xss[j / z']? = some xss[j / z'] := List.getElem?_eq_getElem hj
      have hm : j % z' < xss[j / z'].length := by rw [hxz _ (List.getElem_mem hj)]; exact Nat.mod_lt _ hpos
      have hgm : xss[j / z'][j % z']? = some xss[j / z'][j % z'] := List.getElem?_eq_getElem hm
      have hff := flat_get hxz hg hgm
      have hdm : j / z' * z' + j % z' = j := by rw [Nat.mul_comm]; exact Nat.div_add_mod j z'
      rw [hdm, hv] at hff
      have hc := (h6 _ _ hg _ _ hgm).1
      rw [add_add, hdm] at hc
      rw [hc, ← hff]
  · rename_i j z' o n
    split at h
    · rename_i z'' es fz ho
      simp only [Option.some.injEq, Prod.mk.injEq] at h
      obtain ⟨rfl, rfl⟩ := h
      obtain ⟨rfl, rfl, hle⟩ := hφ
      have hlen : ((es.drop o).take n).length = n := by simp; omega
      rw [hlen]
      simp only [Rep] at hr
      rcases hr with ⟨b, cap, ccs', t', fr, hb, rfl, h3, h4, h5, h6⟩ | ⟨rfl, hjn, A, rfl⟩
      · rcases hh.obj j _ ho with ⟨b', ccs, t, xss, k1, k2, k3, k4, k5, k6, k7⟩ | ⟨k1, _⟩
        · rw [hb] at k1
          injection k1 with k1
          subst k1
          refine ⟨_, cap, (xss.drop o).take n, rfl, (k4.drop o).take n, .inr ⟨_, rfl, fun l v hv => ?_⟩⟩
          have hxz0 := k4.elem_length k3
          have hxz : ∀ xs ∈ (xss.drop o).take n, xs.length = z'' := fun xs hxs => hxz0 xs (List.mem_of_mem_drop (List.mem_of_mem_take hxs))
          have hlt := (List.getElem?_eq_some_iff.1 hv).1
          rw [flat_length hxz] at hlt
          have hpos : 0 < z'' := by
            rcases Nat.eq_zero_or_pos z'' with h | h
            · subst h; simp at hlt
            · exact h
          have hj : l / z'' < ((xss.drop o).take n).length := Nat.div_lt_of_lt_mul (by rw [Nat.mul_comm]; exact hlt)
          have hg : ((xss.drop o).take n)[l / z'']? = some ((xss.drop o).take n)[l / z''] := List.getElem?_eq_getElem hj
          have hm : l % z'' < ((xss.drop o).take n)[l / z''].length := by rw [hxz _ (List.getElem_mem hj)]; exact Nat.mod_lt _ hpos
          have hgm : ((xss.drop o).take n)[l / z''][l % z'']? = some ((xss.drop o).take n)[l / z''][l % z''] := List.getElem?_eq_getElem hm
          have hff := flat_get hxz hg hgm
          have hdm : l / z'' * z'' + l % z'' = l := by rw [Nat.mul_comm]; exact Nat.div_add_mod l z''
          rw [hdm, hv] at hff
          have hg' : xss[o + l / z'']? = some ((xss.drop o).take n)[l / z''] := by
            rw [← hg, List.getElem?_take, if_pos (by simp at hj; omega), List.getElem?_drop]
          have hc := k7 _ _ _ _ hg' hgm
          rw [add_flat]
          simp only [World.cell?, k2, Option.isSome_none, Bool.false_eq_true, if_false]
          rw [hff, ← hc]
          congr 1
          rw [Nat.add_mul]
          omega
        · rw [hb] at k1; cases k1
      · exact ⟨A, 0, [], rfl, by simp only [List.take_zero, RepLL], .inl rfl⟩
    · cases h
  · simp only [Option.some.injEq, Prod.mk.injEq] at h
    obtain ⟨rfl, rfl⟩ := h
    simp only [Rep] at hr
    obtain ⟨A, rfl⟩ := hr
    exact ⟨A, 0, [], rfl, by simp only [RepLL], .inl rfl⟩
  · simp only [Option.some.injEq, Prod.mk.injEq] at h
    obtain ⟨rfl, rfl⟩ := h
    simp only [Rep] at hr
    subst hr
    exact ⟨none, 0, [], rfl, by simp only [RepLL], .inl rfl⟩
  · cases h
def aappend (P : Program) (t : TypeId) (H : AH) (v u : AV) : Option (Prop × AV × AH) :=
  match tzeroE P t with
  | none => none
  | some (zs, by_) =>
    match srcEs H zs.length u with
    | none => none
    | some (ψ, us) =>
      match v with
      | .rsl i z 0 n =>
        match H.obj i with
        | some (.cells z' es fz) =>
          some (ψ ∧ z = zs.length ∧ z' = zs.length ∧ n ≤ es.length ∧ fz ≤ n ∧ (∀ e ∈ us, e.length = zs.length) ∧ (∀ e ∈ us, e.all AV.one = true) ∧ 0 < by_ ∧ (n + us.length) * by_ ≤ roomB by_,
            .rsl H.nxt zs.length 0 (n + us.length), (H.del i).add (.cells zs.length (es.take n ++ us) fz))
        | _ => none
      | .esl | .lit (.slice none 0 0) =>
        some (ψ ∧ (∀ e ∈ us, e.length = zs.length) ∧ 0 < by_ ∧ us.length * by_ ≤ roomB by_, .rsl H.nxt zs.length 0 us.length, H.add (.cells zs.length us 0))
      | _ => none
theorem made_append_new (hh : Holds ρ H w) {t e : TypeId} {i : TypeInfo} {zv : Value} (hu : P.underlying t = some (.slice e)) (hi : P.info? e = some i) (hz : i.zero = some zv) (hcs : zv.cells.size = i.size) (hpos : 0 < i.size) (hby : 0 < i.bytes) (ty : TypeId)
    {A B : Option Addr} {n cap c fz : Nat} {os us : List (List AV)} {oss uss : List (List Value)} (ho : RepLL ρ H w os oss) (hoz : ∀ e ∈ os, e.length = i.size) (ha : Reads w A oss.flatten) (hn : os.length = n)
    (hu' : RepLL ρ H w us uss) (huz : ∀ e ∈ us, e.length = i.size) (hb : Reads w B uss.flatten) (hc : cap < n + us.length) (hcap : n ≤ cap) (hsz : (n + us.length) * i.bytes ≤ roomB i.bytes) (hf : fz ≤ n) :
    ∃ x w', (Builtin.append_ #[t, t] ty #[.slice A n cap, .slice B us.length c]).run P w = .ok x w' ∧
      Rep (upd ρ H.nxt (some w.heap.size)) (H.add (.cells i.size (os ++ us) fz)) w' (.rsl H.nxt i.size 0 (n + us.length)) x ∧ Holds (upd ρ H.nxt (some w.heap.size)) (H.add (.cells i.size (os ++ us) fz)) w' ∧
      Ext ρ H w (upd ρ H.nxt (some w.heap.size)) (H.add (.cells i.size (os ++ us) fz)) w' := by
  have hmax : n + us.length ≤ 9223372036854775807 := by
    have := Nat.le_mul_of_pos_right (n + us.length) hby
    have := roomB_le i.bytes
    omega
  have hol := flat_length (ho.elem_length hoz)
  have hul := flat_length (hu'.elem_length huz)
  rw [ho.length, hn] at hol
  rw [hu'.length] at hul
  obtain ⟨more, cap', h1, h2, h3, hrun⟩ := run_append_new (P := P) hu hi hz ty ha hol hb hul hc hcap hby hsz hmax
  have hh' : Holds ρ H w.drew := hh.heap rfl rfl rfl rfl
  have he0 : Ext ρ H w ρ H w.drew := Ext.heap hh rfl rfl rfl rfl
  have hr := (RepLL.ext he0 _ _ ho).append (RepLL.ext he0 _ _ hu')
  have he := Ext.alloc hh' (.cells (oss.flatten ++ uss.flatten ++ more).toArray e) (.cells i.size (os ++ us) fz)
  have hlen : ∀ e ∈ os ++ us, e.length = i.size := fun e h => by rcases List.mem_append.1 h with h | h; exact hoz e h; exact huz e h
  refine ⟨_, _, hrun, ?_, hh'.alloc _ _ ?_, he0.trans he⟩
  · simp only [Rep]
    refine .inl ⟨_, cap', _, e, (0, 0), upd_self _ _, by simp, h1, by simp only [maxLen]; omega, heap_push_new w.drew _, ?_⟩
    simp only [List.size_toArray, List.length_append, hol, hul, h3, hcs, Nat.zero_add]
    rw [← Nat.add_mul, ← Nat.add_mul]
    exact Nat.mul_le_mul_right _ (by omega)
  · exact ObjOk.row (more := more) (upd_self _ _) (heap_push_new w.drew _) (by simp) (RepLL.ext he _ _ hr) hlen (by simp; omega)
theorem Ext.del (hh : Holds ρ H w) (i : Nat) : Ext ρ H w ρ (H.del i) w where
  old := fun i b hi => (hh.bound i b hi).1
  agree := fun _ _ h => h
  new := fun _ _ h => .inl h
  live := fun j o ho hj => by
    simp only [AH.del] at ho
    split at ho
    · cases ho
    · exact ⟨o, ho⟩
  nxt := Nat.le_refl _
  imm := fun a v hc hi => ⟨hc, fun j z es fz ho hρ => by
    simp only [AH.del] at ho
    split at ho
    · cases ho
    · exact hi j z es fz ho hρ⟩
  size := Nat.le_refl _
  rest := fun _ _ _ => rfl
  shape := fun b cs t fr hc => ⟨cs, hc, rfl⟩
  os := rfl
  tape := rfl
  output := rfl
theorem Holds.del (hh : Holds ρ H w) (i : Nat) : Holds ρ (H.del i) w where
  obj := fun j o ho => by
    have he := Ext.del hh i
    simp only [AH.del] at ho
    split at ho
    · cases ho
    · exact (hh.obj j o ho).ext he (hh.lt j o ho) fun _ _ => rfl
  inj := fun j l b oj ol hj hl hbj hbl => by
    simp only [AH.del] at hj hl
    split at hj
    · cases hj
    · split at hl
      · cases hl
      · exact hh.inj j l b oj ol hj hl hbj hbl
  lt := fun j o ho => by
    simp only [AH.del] at ho
    split at ho
    · cases ho
    · exact hh.lt j o ho
  bound := hh.bound
theorem flat_rep {es : List (List AV)} {xss : List (List Value)} (h : RepLL ρ H w es xss) : RepL ρ H w es.flatten xss.flatten := by
  induction es generalizing xss with
  | nil => simp only [RepLL] at h; subst h; simp only [List.flatten_nil, RepL]
  | cons e es ih =>
    simp only [RepLL] at h
    obtain ⟨y, ys, rfl, h1, h2⟩ := h
    exact h1.append (ih h2)
theorem add_ne {H : AH} {o : AObj} {j : Nat} (h : j ≠ H.nxt) : (H.add o).obj j = H.obj j := by simp only [AH.add]; rw [if_neg h]
theorem del_some {H : AH} {o : AObj} {i j : Nat} (h : (H.del i).obj j = some o) : H.obj j = some o ∧ j ≠ i := by
  simp only [AH.del] at h
  split at h
  · cases h
  · rename_i hj; exact ⟨h, hj⟩
theorem made_append (hh : Holds ρ H w) {t : TypeId} {ty : TypeId} {vv vu : AV} {x y : Value} {φ : Prop} {r : AV} {H' : AH} (h : aappend P t H vv vu = some (φ, r, H')) (hφ : φ) (hx : Rep ρ H w vv x) (hy : Rep ρ H w vu y) :
    Made P ρ H w (Builtin.append_ #[t, t] ty #[x, y]) r H' := by
  unfold aappend at h
  split at h
  · cases h
  rename_i zs by_ hz
  split at h
  · cases h
  rename_i ψ us hsrc
  obtain ⟨e, i, zv, hu, hi, hzv, rfl, hsz, hpos, rfl, hcs, hzero, hsize⟩ := tzeroE_ok hz w
  rw [← hsz] at hsrc hpos
  have fresh : ∀ (A : Option Addr) (hψ : ψ) (huz : ∀ e ∈ us, e.length = i.size) (hby : 0 < i.bytes) (hle : us.length * i.bytes ≤ roomB i.bytes),
      Made P ρ H w (Builtin.append_ #[t, t] ty #[.slice A 0 0, y]) (.rsl H.nxt i.size 0 us.length) (H.add (.cells i.size us 0)) := by
    intro A hψ huz hby hle
    obtain ⟨B, c, uss, rfl, hru, hrd⟩ := srcEs_ok hh hsrc hψ hy huz
    rcases Nat.eq_zero_or_pos us.length with h0 | h0
    · obtain rfl : us = [] := List.eq_nil_of_length_eq_zero h0
      refine ⟨_, _, ρ, run_append_nil hu hi ty (.inl rfl), ?_, hh.ghost _, Ext.ghost hh _⟩
      simp only [Rep]
      exact .inr ⟨rfl, Nat.lt_succ_self _, _, rfl⟩
    · obtain ⟨x, w', h1, h2, h3, h4⟩ := made_append_new (P := P) hh hu hi hzv hcs hpos hby ty (A := A) (n := 0) (cap := 0) (c := c) (fz := 0) (os := []) (oss := []) (by simp only [RepLL]) (by simp) (.inl rfl) rfl hru huz hrd (by omega) (Nat.le_refl _) (by rw [Nat.zero_add]; exact hle) (Nat.le_refl _)
      simp only [Nat.zero_add, List.nil_append] at h1 h2 h3 h4
      exact ⟨x, w', _, h1, h2, h3, h4⟩
  split at h
  · rename_i k z n
    split at h
    · rename_i z' es fz ho
      simp only [Option.some.injEq, Prod.mk.injEq, ← hsz] at h
      obtain ⟨rfl, rfl, rfl⟩ := h
      obtain ⟨hψ, rfl, rfl, hn, hf, huz, huo, hby, hle⟩ := hφ
      have hd := hh.del k
      have hde := Ext.del hh k
      simp only [Rep] at hx
      rcases hx with ⟨b, cap, ccs', t', fr, hb, rfl, h3, h4, h5, h6⟩ | ⟨rfl, hjn, A, rfl⟩
      · obtain ⟨B, c, uss, rfl, hru, hrd⟩ := srcEs_ok hh hsrc hψ hy huz
        rcases hh.obj k _ ho with ⟨b', ccs, t2, xss, k1, k2, k3, k4, k5, k6, k7⟩ | ⟨k1, _⟩
        · rw [hb] at k1
          injection k1 with k1
          subst k1
          rw [k2] at h5
          injection h5 with h5
          injection h5 with e1 e2 e3
          subst e1 e2
          simp only [Nat.zero_mul, Nat.zero_add] at h6 ⊢
          have hol := flat_length ((k4.take n).elem_length fun e he => k3 e (List.mem_of_mem_take he))
          have hul := flat_length (hru.elem_length huz)
          rw [(k4.take n).length] at hol
          rw [hru.length] at hul
          have htl : (es.take n).length = n := by simp; omega
          rw [htl] at hol
          by_cases hc : n + us.length ≤ cap
          · have hroom : (n + us.length) * i.size ≤ ccs.size := Nat.le_trans (Nat.mul_le_mul_right _ hc) h6
            rw [Nat.add_mul] at hroom
            have hones : ∀ v ∈ uss.flatten, v.oneCell' = true := ones_ok (by
              rw [List.all_eq_true]
              intro c hc
              obtain ⟨e, he, hce⟩ := List.mem_flatten.1 hc
              exact List.all_eq_true.1 (huo e he) c hce) (flat_rep hru)
            have hst := run_storeCells_at (P := P) b (n * i.size) t2 uss.flatten 0 ccs w k2 (by rw [hul]; omega) hones
            simp only [Nat.add_zero, hul] at hst
            have hW : Wrote ρ H w (upd ρ H.nxt (some b)) ((H.del k).add (.cells i.size (es.take n ++ us) fz)) k H.nxt b i.size fz es (es.take n ++ us) ccs
                (ccs.toList.take (n * i.size) ++ uss.flatten ++ ccs.toList.drop (n * i.size + us.length * i.size)).toArray t2 (xss.take n ++ uss) := {
              ho := ho
              hb := hb
              hw := k2
              ho' := by simp [AH.add, AH.del]
              hk := .inr rfl
              hρk := upd_self _ _
              hρ := fun j hj => by simp only [upd]; rw [if_neg (by omega)]
              hρ' := fun j b' hj => by
                simp only [upd] at hj
                split at hj
                · rename_i hj'; exact .inl hj'
                · exact .inr hj
              other := fun j o hj hne => by
                have hj2 : (H.del k).obj j = some o := by rw [← hj]; exact (add_ne (H := H.del k) hne).symm
                exact del_some hj2
              nxt := by simp [AH.add, AH.del]
              klt := by simp [AH.add, AH.del]
              size := by simp only [List.size_toArray, List.length_append, List.length_take, List.length_drop, Array.length_toList, hul]; omega
              low := fun j hj => by
                have : fz * i.size ≤ n * i.size := Nat.mul_le_mul_right _ hf
                simp only [List.getElem?_toArray]
                rw [List.append_assoc, List.getElem?_append_left (by simp; omega), List.getElem?_take, if_pos (by omega), Array.getElem?_toList]
              rep := (k4.take n).append hru
              len := fun u hu => by
                rcases List.mem_append.1 hu with h | h
                · exact k3 u (List.mem_of_mem_take h)
                · exact huz u h
              fz := by simp; omega
              room := by
                simp only [List.length_append, htl]
                rw [Nat.add_mul]
                exact hroom
              at_ := fun j l ys u hj hl => by
                simp only [List.getElem?_toArray]
                have hall : ∀ xs ∈ xss.take n ++ uss, xs.length = i.size := fun xs hxs => by
                  rcases List.mem_append.1 hxs with h | h
                  · exact k4.elem_length k3 xs (List.mem_of_mem_take h)
                  · exact hru.elem_length huz xs h
                have hflat := flat_get hall hj hl
                have hlt := (List.getElem?_eq_some_iff.1 hflat).1
                rw [List.flatten_append] at hflat hlt
                simp only [List.length_append, hol, hul] at hlt
                by_cases hjn : j * i.size + l < n * i.size
                · rw [List.append_assoc, List.getElem?_append_left (by simp; omega), List.getElem?_take, if_pos hjn, Array.getElem?_toList]
                  have hjlt : j < n := by
                    rcases Nat.lt_or_ge j n with h | h
                    · exact h
                    · have := Nat.mul_le_mul_right i.size h
                      omega
                  refine k7 j l ys u ?_ hl
                  rw [List.getElem?_append_left (by simp [k4.length]; omega), List.getElem?_take, if_pos hjlt] at hj
                  exact hj
                · rw [List.getElem?_append_right (by rw [hol]; omega), hol] at hflat
                  rw [List.append_assoc, List.getElem?_append_right (by simp; omega)]
                  simp only [List.length_take, Array.length_toList]
                  rw [show min (n * i.size) ccs.size = n * i.size by omega]
                  rw [List.getElem?_append_left (by rw [hul]; omega)]
                  exact hflat }
            refine ⟨_, _, _, run_append_in hu hi ty hrd hul hc (by rw [add_flat, Nat.zero_add]; exact hst), ?_, hW.holds hh, hW.ext hh⟩
            simp only [Rep]
            refine .inl ⟨b, cap, _, t2, (0, 0), upd_self _ _, by simp, hc, h4, setRow_heap w b ccs _ t2 (0, 0) k2, ?_⟩
            simp only [List.size_toArray, List.length_append, List.length_take, List.length_drop, Array.length_toList, hul, Nat.zero_add]
            omega
          · have hra : Reads w (some ⟨b, 0, none⟩) (xss.take n).flatten := by
              refine .inr ⟨_, rfl, fun l v hv => ?_⟩
              have hxz : ∀ xs ∈ xss.take n, xs.length = i.size := fun xs hxs => k4.elem_length k3 xs (List.mem_of_mem_take hxs)
              have hlt := (List.getElem?_eq_some_iff.1 hv).1
              rw [flat_length hxz] at hlt
              have hj : l / i.size < (xss.take n).length := Nat.div_lt_of_lt_mul (by rw [Nat.mul_comm]; exact hlt)
              have hg : (xss.take n)[l / i.size]? = some (xss.take n)[l / i.size] := List.getElem?_eq_getElem hj
              have hm : l % i.size < (xss.take n)[l / i.size].length := by rw [hxz _ (List.getElem_mem hj)]; exact Nat.mod_lt _ hpos
              have hgm : (xss.take n)[l / i.size][l % i.size]? = some (xss.take n)[l / i.size][l % i.size] := List.getElem?_eq_getElem hm
              have hff := flat_get hxz hg hgm
              have hdm : l / i.size * i.size + l % i.size = l := by rw [Nat.mul_comm]; exact Nat.div_add_mod l i.size
              rw [hdm, hv] at hff
              have hg' : xss[l / i.size]? = some (xss.take n)[l / i.size] := by
                rw [← hg, List.getElem?_take, if_pos (by simp at hj; omega)]
              have hc := k7 _ _ _ _ hg' hgm
              rw [hdm] at hc
              rw [add_flat, Nat.zero_add]
              simp only [World.cell?, k2, Option.isSome_none, Bool.false_eq_true, if_false]
              rw [hc, hff]
            have := made_append_new (P := P) hd hu hi hzv hcs hpos hby ty (A := some ⟨b, 0, none⟩) (n := n) (cap := cap) (c := c) (fz := fz) (RepLL.ext hde _ _ (k4.take n)) (fun e he => k3 e (List.mem_of_mem_take he)) hra htl (RepLL.ext hde _ _ hru) huz hrd (by omega) h3 hle hf
            obtain ⟨x, w', h1, h2, h3', h4'⟩ := this
            exact ⟨x, w', _, h1, h2, h3', hde.trans h4'⟩
        · rw [hb] at k1; cases k1
      · obtain rfl : fz = 0 := by omega
        obtain ⟨B, c, uss, rfl, hru, hrd⟩ := srcEs_ok hh hsrc hψ hy huz
        simp only [List.take_zero, List.nil_append, Nat.zero_add] at hle ⊢
        rcases Nat.eq_zero_or_pos us.length with h0 | h0
        · obtain rfl : us = [] := List.eq_nil_of_length_eq_zero h0
          refine ⟨_, _, ρ, run_append_nil hu hi ty (.inl rfl), ?_, hd.ghost _, hde.trans (Ext.ghost hd _)⟩
          simp only [Rep]
          exact .inr ⟨rfl, Nat.lt_succ_self _, _, rfl⟩
        · obtain ⟨x, w', h1, h2, h3, h4⟩ := made_append_new (P := P) hd hu hi hzv hcs hpos hby ty (A := A) (n := 0) (cap := 0) (c := c) (fz := 0) (os := []) (oss := []) (by simp only [RepLL]) (by simp) (.inl rfl) rfl (RepLL.ext hde _ _ hru) huz hrd (by omega) (Nat.le_refl _) (by rw [Nat.zero_add]; exact hle) (Nat.le_refl _)
          simp only [Nat.zero_add, List.nil_append] at h1 h2 h3 h4
          exact ⟨x, w', _, h1, h2, h3, hde.trans h4⟩
    · cases h
  · simp only [Option.some.injEq, Prod.mk.injEq, ← hsz] at h
    obtain ⟨rfl, rfl, rfl⟩ := h
    obtain ⟨hψ, huz, hby, hle⟩ := hφ
    simp only [Rep] at hx
    obtain ⟨A, rfl⟩ := hx
    exact fresh A hψ huz hby hle
  · simp only [Option.some.injEq, Prod.mk.injEq, ← hsz] at h
    obtain ⟨rfl, rfl, rfl⟩ := h
    obtain ⟨hψ, huz, hby, hle⟩ := hφ
    simp only [Rep] at hx
    subst hx
    exact fresh none hψ huz hby hle
  · cases h
end Go.Sim
namespace Go.Sim
variable {P : Program} {ρ : Nat → Option Nat} {H : AH} {w : World} {π : Nat → Option Nat}
/- 'Pure v': it speaks of no object. -/
mutual
def Pure : AV → Prop
  | .lit _ => True
  | .agg cs => PureL cs
  | .tup vs => PureL vs
  | .sl es => PureLL es
  | .esl => True
  | .rsl .. => False
  | .ptr .. => False
  | .iptr cs => PureL cs
  | .clo _ f c => PureL f ∧ PureL c
  | .mp _ => False
  | .gv _ v => Pure v
  | .any => True
def PureL : List AV → Prop
  | [] => True
  | v :: vs => Pure v ∧ PureL vs
def PureLL : List (List AV) → Prop
  | [] => True
  | v :: vs => PureL v ∧ PureLL vs
end
theorem pureL_iff : ∀ {l : List AV}, PureL l ↔ ∀ v ∈ l, Pure v
  | [] => by simp [PureL]
  | v :: l => by simp [PureL, pureL_iff (l := l)]
theorem pureLL_iff : ∀ {l : List (List AV)}, PureLL l ↔ ∀ v ∈ l, PureL v
  | [] => by simp [PureLL]
  | v :: l => by simp [PureLL, pureLL_iff (l := l)]
def Shut (π : Nat → Option Nat) (H H' : AH) (i n : Nat) : Prop := ∀ j, π j = some i → H'.obj j = none ∨ ∃ z es fz, H'.obj j = some (.cells z es fz) ∧ n ≤ fz
/- 'Seal π H H' v u': what v told in H, u tells in H'. -/
mutual
def Seal (π : Nat → Option Nat) (H H' : AH) (v : AV) : AV → Prop
  | .any => True
  | .lit x => v = .lit x
  | .agg cs => match v with | .agg ds => SealL π H H' ds cs | _ => False
  | .tup cs => match v with | .tup ds => SealL π H H' ds cs | _ => False
  | .sl es => match v with
    | .sl ds => SealLL π H H' ds es
    | .rsl i z o n => ∃ ds fz, H.obj i = some (.cells z ds fz) ∧ o + n ≤ ds.length ∧ SealLL π H H' ((ds.drop o).take n) es ∧ Shut π H H' i (o + n)
    | .esl => es = []
    | .lit (.slice none 0 0) => es = []
    | _ => False
  | .esl => v = .esl ∨ v = .lit (.slice none 0 0)
  | .rsl i z o n => (∃ k, π i = some k ∧ v = .rsl k z o n ∧ i < H'.nxt) ∨ (n = 0 ∧ i < H'.nxt ∧ (v = .esl ∨ v = .lit (.slice none 0 0)))
  | .ptr i z e c => ∃ k, π i = some k ∧ v = .ptr k z e c ∧ i < H'.nxt
  | .iptr cs => match v with
    | .iptr ds => SealL π H H' ds cs
    | .ptr i z e c => ∃ ds fz, H.obj i = some (.cells z ds fz) ∧ e < ds.length ∧ SealL π H H' ((ds.getD e []).drop c) cs ∧ Shut π H H' i (e + 1)
    | _ => False
  | .clo f a b => match v with | .clo f' a' b' => f' = f ∧ SealL π H H' a' a ∧ SealL π H H' b' b | _ => False
  | .mp i => ∃ k, π i = some k ∧ v = .mp k ∧ i < H'.nxt
  | .gv g u => match v with | .gv g' u' => g' = g ∧ (g = true → Seal π H H' u' u) | _ => False
def SealL (π : Nat → Option Nat) (H H' : AH) (vs : List AV) : List AV → Prop
  | [] => vs = []
  | u :: us => match vs with | v :: vs => Seal π H H' v u ∧ SealL π H H' vs us | [] => False
def SealLL (π : Nat → Option Nat) (H H' : AH) (vs : List (List AV)) : List (List AV) → Prop
  | [] => vs = []
  | u :: us => match vs with | v :: vs => SealL π H H' v u ∧ SealLL π H H' vs us | [] => False
end
mutual
theorem seal_pure {π : Nat → Option Nat} (H H' : AH) : ∀ v : AV, Pure v → Seal π H H' v v
  | .lit v, _ => by simp only [Seal]
  | .agg cs, h => by simp only [Seal]; exact sealL_pure H H' cs h
  | .tup cs, h => by simp only [Seal]; exact sealL_pure H H' cs h
  | .sl es, h => by simp only [Seal]; exact sealLL_pure H H' es h
  | .esl, _ => by simp [Seal]
  | .rsl .., h => by simp only [Pure] at h
  | .ptr .., h => by simp only [Pure] at h
  | .iptr cs, h => by simp only [Seal]; exact sealL_pure H H' cs h
  | .clo f a b, h => by simp only [Seal]; exact ⟨trivial, sealL_pure H H' a h.1, sealL_pure H H' b h.2⟩
  | .mp i, h => by simp only [Pure] at h
  | .gv g v, h => by simp only [Seal]; exact ⟨trivial, fun _ => seal_pure H H' v h⟩
  | .any, _ => by simp only [Seal]
theorem sealL_pure {π : Nat → Option Nat} (H H' : AH) : ∀ vs : List AV, PureL vs → SealL π H H' vs vs
  | [], _ => by simp only [SealL]
  | v :: vs, h => by simp only [SealL]; exact ⟨seal_pure H H' v h.1, sealL_pure H H' vs h.2⟩
theorem sealLL_pure {π : Nat → Option Nat} (H H' : AH) : ∀ vs : List (List AV), PureLL vs → SealLL π H H' vs vs
  | [], _ => by simp only [SealLL]
  | v :: vs, h => by simp only [SealLL]; exact ⟨sealL_pure H H' v h.1, sealLL_pure H H' vs h.2⟩
end
def SealO (π : Nat → Option Nat) (H H' : AH) : AObj → AObj → Prop
  | .cells z ds fz, o => ∃ es fz', o = .cells z es fz' ∧ SealLL π H H' ds es ∧ (∀ e ∈ es, e.length = z) ∧ fz ≤ fz' ∧ fz' ≤ es.length
  | .amap kvs, o => ∃ kvs', o = .amap kvs' ∧ kvs'.map (·.1) = kvs.map (·.1) ∧ SealL π H H' (kvs.map (·.2)) (kvs'.map (·.2))
  | .amit m n seen, o => ∃ m', o = .amit m' n seen ∧ π m' = some m ∧ m' < H'.nxt
  | .anit, o => o = .anit
def SealT (π : Nat → Option Nat) (H H' : AH) (T : Tm) : Tm → Prop
  | [] => True
  | (t, v) :: T' => Seal π H H' (tget T t) v ∧ SealT π H H' T T'
structure Weak (π : Nat → Option Nat) (n0 : Nat) (T : Tm) (H : AH) (T' : Tm) (H' : AH) : Prop where
  low : n0 ≤ H'.nxt
  fix : ∀ i, i < n0 → π i = some i
  inj : ∀ i j k, π i = some k → π j = some k → i = j
  tm : SealT π H H' T T'
  lt : ∀ i o, H'.obj i = some o → i < H'.nxt
  ob : ∀ i o, H'.obj i = some o → (∃ k o0, π i = some k ∧ H.obj k = some o0 ∧ SealO π H H' o0 o) ∨ (π i = none ∧ ∃ z, o = .cells z [] 0)
def cutρ (π : Nat → Option Nat) (ρ : Nat → Option Nat) (n : Nat) : Nat → Option Nat := fun i => if i < n then (π i).bind ρ else none
theorem cutρ_some {n i b : Nat} (h : cutρ π ρ n i = some b) : i < n ∧ ∃ k, π i = some k ∧ ρ k = some b := by
  unfold cutρ at h
  split at h
  · rename_i hi
    obtain ⟨k, h1, h2⟩ := Option.bind_eq_some_iff.1 h
    exact ⟨hi, k, h1, h2⟩
  · cases h
theorem cutρ_lt {n i k : Nat} (h : i < n) (hk : π i = some k) : cutρ π ρ n i = ρ k := by unfold cutρ; rw [if_pos h, hk]; rfl
theorem imm_weak {n0 : Nat} {T T' : Tm} {H' : AH} (hk : Weak π n0 T H T' H') {a : Addr} (h : Imm ρ H a) : Imm (cutρ π ρ H'.nxt) H' a := by
  intro i z es fz ho hρ
  obtain ⟨h1, k, hπ, h2⟩ := cutρ_some hρ
  rcases hk.ob i _ ho with ⟨k', o0, hπ', h3, h4⟩ | ⟨hπ', _⟩
  case inr => rw [hπ'] at hπ; cases hπ
  rw [hπ'] at hπ
  injection hπ with hπ
  subst hπ
  cases o0 with
  | cells z0 ds fz0 =>
    obtain ⟨es', fz', he, _, _, h5, _⟩ := h4
    injection he with e1 e2 e3
    subst e1 e2 e3
    exact Nat.lt_of_lt_of_le (h _ _ _ _ h3 h2) (Nat.mul_le_mul_right _ h5)
  | amap kvs => obtain ⟨_, he, _⟩ := h4; cases he
  | amit m n seen => obtain ⟨_, he, _⟩ := h4; cases he
  | anit => cases h4
theorem cellsAt_weak {n0 : Nat} {T T' : Tm} {H' : AH} (hk : Weak π n0 T H T' H') {a : Addr} {xs : List Value} (h : CellsAt ρ H w a xs) : CellsAt (cutρ π ρ H'.nxt) H' w a xs :=
  fun j v hv => ⟨(h j v hv).1, imm_weak hk (h j v hv).2⟩
section
theorem sealL_length {H H' : AH} : ∀ {us vs : List AV}, SealL π H H' vs us → us.length = vs.length
  | [], vs, h => by simp only [SealL] at h; subst h; rfl
  | u :: us, vs, h => by
    simp only [SealL] at h
    split at h
    · simp [sealL_length h.2]
    · exact h.elim
theorem sealLL_length {H H' : AH} : ∀ {us vs : List (List AV)}, SealLL π H H' vs us → us.length = vs.length
  | [], vs, h => by simp only [SealLL] at h; subst h; rfl
  | u :: us, vs, h => by
    simp only [SealLL] at h
    split at h
    · simp [sealLL_length h.2]
    · exact h.elim
theorem sealLL_lengths {H H' : AH} {z : Nat} : ∀ {us vs : List (List AV)}, SealLL π H H' vs us → (∀ e ∈ vs, e.length = z) → ∀ e ∈ us, e.length = z
  | [], vs, h, _ => by simp
  | u :: us, vs, h, hz => by
    simp only [SealLL] at h
    split at h
    · intro e he
      rcases List.mem_cons.1 he with rfl | he
      · rw [sealL_length h.1]; exact hz _ (by simp)
      · exact sealLL_lengths h.2 (fun e h => hz e (by simp [h])) e he
    · exact h.elim
end
mutual
theorem rep_seal {n0 : Nat} {T T' : Tm} {H' : AH} (hh : Holds ρ H w) (hk : Weak π n0 T H T' H') : ∀ (u v : AV) (x : Value), Seal π H H' v u → Rep ρ H w v x → Rep (cutρ π ρ H'.nxt) H' w u x
  | .any, v, x, _, _ => by simp only [Rep]
  | .lit y, v, x, h, hr => by
    simp only [Seal] at h
    subst h
    simpa only [Rep] using hr
  | .agg cs, v, x, h, hr => by
    simp only [Seal] at h
    split at h
    · simp only [Rep] at hr ⊢
      obtain ⟨xs, rfl, hr⟩ := hr
      exact ⟨xs, rfl, repL_seal hh hk cs _ xs h hr⟩
    · exact h.elim
  | .tup cs, v, x, h, hr => by
    simp only [Seal] at h
    split at h
    · simp only [Rep] at hr ⊢
      obtain ⟨xs, rfl, hr⟩ := hr
      exact ⟨xs, rfl, repL_seal hh hk cs _ xs h hr⟩
    · exact h.elim
  | .sl es, v, x, h, hr => by
    simp only [Seal] at h
    split at h
    · rename_i ds
      simp only [Rep] at hr ⊢
      obtain ⟨A, cap, rfl, h1, h2, h3⟩ := hr
      have hl := sealLL_length h
      refine ⟨A, cap, by rw [hl], by omega, h2, fun hne => ?_⟩
      obtain ⟨a, z, xss, rfl, h4, h5, h6⟩ := h3 (by intro e; subst e; exact hne (List.eq_nil_of_length_eq_zero hl))
      exact ⟨a, z, xss, rfl, sealLL_lengths h h4, repLL_seal hh hk es _ xss h h5, fun j xs hj => cellsAt_weak hk (h6 j xs hj)⟩
    · rename_i i z o n
      obtain ⟨ds, fz, ho, hle, hs, hshut⟩ := h
      have hl := sealLL_length hs
      have hdl : ((ds.drop o).take n).length = n := by simp; omega
      rw [hdl] at hl
      simp only [Rep] at hr ⊢
      rcases hr with ⟨b, cap, ccs, t, fr, hb, rfl, h3, h4, h5, h6⟩ | ⟨rfl, hjn, A, rfl⟩
      · refine ⟨_, cap, by rw [hl], by omega, h4, fun hne => ?_⟩
        rcases hh.obj i _ ho with ⟨b', ccs', t', xss, k1, k2, k3, k4, k5, k6, k7⟩ | ⟨k1, _⟩
        · rw [hb] at k1
          injection k1 with k1
          subst k1
          refine ⟨_, z, (xss.drop o).take n, rfl, sealLL_lengths hs fun e he => k3 e (List.mem_of_mem_drop (List.mem_of_mem_take he)), repLL_seal hh hk es _ _ hs ((k4.drop o).take n), fun j xs hj k v hv => ?_⟩
          rw [List.getElem?_take] at hj
          split at hj
          · rename_i hjn
            rw [List.getElem?_drop] at hj
            have hc := k7 _ _ _ _ hj hv
            have hkz : k < z := by
              have := (List.getElem?_eq_some_iff.1 hv).1
              rw [k4.elem_length k3 xs (List.mem_of_getElem? hj)] at this
              exact this
            rw [add_flat, add_flat]
            refine ⟨?_, fun i' z' es' fz' ho' hρ' => ?_⟩
            · simp only [World.cell?, k2, Option.isSome_none, Bool.false_eq_true, if_false]
              rw [← hc]
              congr 1
              rw [Nat.add_mul]
            · obtain ⟨q1, m, hπ, q2⟩ := cutρ_some hρ'
              rcases hk.ob i' _ ho' with ⟨m', o0, hπ', q3, q4⟩ | ⟨hπ', _⟩
              case inr => rw [hπ'] at hπ; cases hπ
              rw [hπ'] at hπ
              injection hπ with hπ
              subst hπ
              have hii : m' = i := hh.inj m' i b _ _ q3 ho q2 hb
              subst hii
              rcases hshut i' hπ' with hs' | ⟨z2, es2, fz2, hs', hle'⟩
              · rw [ho'] at hs'; cases hs'
              · rw [ho'] at hs'
                injection hs' with hs'
                injection hs' with e1 e2 e3
                subst e1 e2 e3
                rw [ho] at q3
                injection q3 with q3
                subst q3
                obtain ⟨_, _, he, _⟩ := q4
                injection he with e1 _ _
                subst e1
                simp only []
                have h7 : (o + j + 1) * z' ≤ fz' * z' := Nat.mul_le_mul_right _ (by omega)
                rw [Nat.succ_mul, Nat.add_mul] at h7
                omega
          · cases hj
        · rw [hb] at k1; cases k1
      · have : es = [] := List.eq_nil_of_length_eq_zero (by omega)
        subst this
        exact ⟨A, 0, rfl, by simp, by simp [maxLen], fun h => absurd rfl h⟩
    · subst h
      simp only [Rep] at hr ⊢
      obtain ⟨A, rfl⟩ := hr
      exact ⟨A, 0, by simp, by simp, by simp [maxLen], fun h => absurd rfl h⟩
    · subst h
      simp only [Rep] at hr ⊢
      subst hr
      exact ⟨none, 0, by simp, by simp, by simp [maxLen], fun h => absurd rfl h⟩
    · exact h.elim
  | .esl, v, x, h, hr => by
    simp only [Seal] at h
    rcases h with rfl | rfl
    · simpa only [Rep] using hr
    · simp only [Rep] at hr ⊢
      subst hr
      exact ⟨none, rfl⟩
  | .rsl i z o n, v, x, h, hr => by
    simp only [Seal] at h
    rcases h with ⟨m, hπ, rfl, hi⟩ | ⟨rfl, hi, rfl | rfl⟩
    · simp only [Rep] at hr ⊢
      rcases hr with ⟨b, cap, ccs, t, fr, hb, rfl, h3⟩ | h
      · exact .inl ⟨b, cap, ccs, t, fr, by rw [cutρ_lt hi hπ]; exact hb, rfl, h3⟩
      · exact .inr ⟨h.1, hi, h.2.2⟩
    · simp only [Rep] at hr ⊢
      exact .inr ⟨trivial, hi, hr⟩
    · simp only [Rep] at hr ⊢
      exact .inr ⟨trivial, hi, none, hr⟩
  | .ptr i z e c, v, x, h, hr => by
    simp only [Seal] at h
    obtain ⟨m, hπ, rfl, hi⟩ := h
    simp only [Rep] at hr ⊢
    obtain ⟨b, hb, rfl⟩ := hr
    exact ⟨b, by rw [cutρ_lt hi hπ]; exact hb, rfl⟩
  | .iptr cs, v, x, h, hr => by
    simp only [Seal] at h
    split at h
    · simp only [Rep] at hr ⊢
      obtain ⟨a, xs, rfl, h1, h2⟩ := hr
      exact ⟨a, xs, rfl, repL_seal hh hk cs _ xs h h1, cellsAt_weak hk h2⟩
    · rename_i i z e c
      obtain ⟨ds, fz, ho, he, hs, hshut⟩ := h
      simp only [Rep] at hr ⊢
      obtain ⟨b, hb, rfl⟩ := hr
      have he' : ds[e]? = some ds[e] := List.getElem?_eq_getElem he
      obtain ⟨xs, hrx, hz, hc⟩ := hh.elem ho hb he'
      have hg : ds.getD e [] = ds[e] := by simp [List.getD_eq_getElem?_getD, he']
      rw [hg] at hs
      refine ⟨_, xs.drop c, rfl, repL_seal hh hk cs _ _ hs (hrx.drop c), fun k v hv => ?_⟩
      rw [List.getElem?_drop] at hv
      have hcz : c + k < z := by
        have := (List.getElem?_eq_some_iff.1 hv).1
        rw [hrx.length, hz] at this
        exact this
      rw [add_flat]
      refine ⟨by rw [Nat.add_assoc]; exact (hc _ _ hv).1, fun i' z' es' fz' ho' hρ' => ?_⟩
      obtain ⟨q1, m, hπ, q2⟩ := cutρ_some hρ'
      rcases hk.ob i' _ ho' with ⟨m', o0, hπ', q3, q4⟩ | ⟨hπ', _⟩
      case inr => rw [hπ'] at hπ; cases hπ
      rw [hπ'] at hπ
      injection hπ with hπ
      subst hπ
      have hii : m' = i := hh.inj m' i b _ _ q3 ho q2 hb
      subst hii
      rcases hshut i' hπ' with hs' | ⟨z2, es2, fz2, hs', hle'⟩
      · rw [ho'] at hs'; cases hs'
      · rw [ho'] at hs'
        injection hs' with hs'
        injection hs' with e1 e2 e3
        subst e1 e2 e3
        rw [ho] at q3
        injection q3 with q3
        subst q3
        obtain ⟨_, _, he2, _⟩ := q4
        injection he2 with e1 _ _
        subst e1
        simp only []
        have h7 : (e + 1) * z' ≤ fz' * z' := Nat.mul_le_mul_right _ hle'
        rw [Nat.succ_mul] at h7
        omega
    · exact h.elim
  | .clo f a b, v, x, h, hr => by
    simp only [Seal] at h
    split at h
    · obtain ⟨rfl, h1, h2⟩ := h
      simp only [Rep] at hr ⊢
      obtain ⟨fs, ks, rfl, h3, h4⟩ := hr
      exact ⟨fs, ks, rfl, repL_seal hh hk a _ fs h1 h3, repL_seal hh hk b _ ks h2 h4⟩
    · exact h.elim
  | .mp i, v, x, h, hr => by
    simp only [Seal] at h
    obtain ⟨m, hπ, rfl, hi⟩ := h
    simp only [Rep] at hr ⊢
    obtain ⟨b, hb, rfl⟩ := hr
    exact ⟨b, by rw [cutρ_lt hi hπ]; exact hb, rfl⟩
  | .gv g u, v, x, h, hr => by
    simp only [Seal] at h
    split at h
    · obtain ⟨rfl, h⟩ := h
      simp only [Rep] at hr ⊢
      exact ⟨fun hg => rep_seal hh hk u _ x (h hg) (hr.1 hg), hr.2⟩
    · exact h.elim
theorem repL_seal {n0 : Nat} {T T' : Tm} {H' : AH} (hh : Holds ρ H w) (hk : Weak π n0 T H T' H') : ∀ (us vs : List AV) (xs : List Value), SealL π H H' vs us → RepL ρ H w vs xs → RepL (cutρ π ρ H'.nxt) H' w us xs
  | [], vs, xs, h, hr => by
    simp only [SealL] at h
    subst h
    simpa only [RepL] using hr
  | u :: us, vs, xs, h, hr => by
    simp only [SealL] at h
    split at h
    · simp only [RepL] at hr ⊢
      obtain ⟨y, ys, rfl, h1, h2⟩ := hr
      exact ⟨y, ys, rfl, rep_seal hh hk u _ y h.1 h1, repL_seal hh hk us _ ys h.2 h2⟩
    · exact h.elim
theorem repLL_seal {n0 : Nat} {T T' : Tm} {H' : AH} (hh : Holds ρ H w) (hk : Weak π n0 T H T' H') : ∀ (us vs : List (List AV)) (xs : List (List Value)), SealLL π H H' vs us → RepLL ρ H w vs xs → RepLL (cutρ π ρ H'.nxt) H' w us xs
  | [], vs, xs, h, hr => by
    simp only [SealLL] at h
    subst h
    simpa only [RepLL] using hr
  | u :: us, vs, xs, h, hr => by
    simp only [SealLL] at h
    split at h
    · simp only [RepLL] at hr ⊢
      obtain ⟨y, ys, rfl, h1, h2⟩ := hr
      exact ⟨y, ys, rfl, repL_seal hh hk u _ y h.1 h1, repLL_seal hh hk us _ ys h.2 h2⟩
    · exact h.elim
end
theorem repT_seal {n0 : Nat} {T T' : Tm} {H' : AH} {tmps : Array Value} (hh : Holds ρ H w) (hk : Weak π n0 T H T' H') (hr : RepT ρ H w T tmps) : RepT (cutρ π ρ H'.nxt) H' w T' tmps := by
  have key : ∀ (U : Tm), SealT π H H' T U → RepT (cutρ π ρ H'.nxt) H' w U tmps := by
    intro U
    induction U with
    | nil => intro _ t; simp only [tget, Rep]
    | cons p U ih =>
      obtain ⟨i, v⟩ := p
      intro hU t
      simp only [SealT] at hU
      simp only [tget]
      split
      · rename_i e
        subst e
        exact rep_seal hh hk v _ _ hU.1 (hr i)
      · exact ih hU.2 t
  exact key T' hk.tm
theorem holds_weak {n0 : Nat} {T T' : Tm} {H' : AH} (hh : Holds ρ H w) (hk : Weak π n0 T H T' H') : Holds (cutρ π ρ H'.nxt) H' w where
  obj := fun i o ho => by
    have hi := hk.lt i o ho
    rcases hk.ob i o ho with ⟨m, o0, hπ, h1, h2⟩ | ⟨hπ, z, rfl⟩
    case inr => exact .inr ⟨by unfold cutρ; rw [if_pos hi, hπ]; rfl, rfl, rfl⟩
    cases o0 with
    | cells z ds fz =>
      obtain ⟨es, fz', rfl, h3, h4, h5, h6⟩ := h2
      have hl := sealLL_length h3
      rcases hh.obj m _ h1 with ⟨b, ccs, t, xss, k1, k2, k3, k4, k5, k6, k7⟩ | ⟨k1, k2, k3⟩
      · exact .inl ⟨b, ccs, t, xss, by rw [cutρ_lt hi hπ]; exact k1, k2, h4, repLL_seal hh hk es _ xss h3 k4, h6, by rw [hl]; exact k6, k7⟩
      · subst k2
        have : es = [] := List.eq_nil_of_length_eq_zero (by rw [hl]; rfl)
        subst this
        exact .inr ⟨by rw [cutρ_lt hi hπ]; exact k1, rfl, by simpa using h6⟩
    | amap kvs =>
      obtain ⟨kvs', rfl, h3, h4⟩ := h2
      obtain ⟨b, es, clock, k1, k2, k3, k4, k5⟩ := hh.obj m _ h1
      exact ⟨b, es, clock, by rw [cutρ_lt hi hπ]; exact k1, k2, k3, repL_seal hh hk _ _ _ h4 k4, by rw [h3]; exact k5⟩
    | amit q n seen =>
      obtain ⟨m', rfl, h3, h4⟩ := h2
      obtain ⟨b, bm, k1, k2, k3⟩ := hh.obj m _ h1
      exact ⟨b, bm, by rw [cutρ_lt hi hπ]; exact k1, by rw [cutρ_lt h4 h3]; exact k2, k3⟩
    | anit =>
      have h2' : o = .anit := h2
      subst h2'
      obtain ⟨b, k1, k2⟩ := hh.obj m _ h1
      exact ⟨b, by rw [cutρ_lt hi hπ]; exact k1, k2⟩
  inj := fun i j b oi oj hi hj hbi hbj => by
    obtain ⟨_, ki, p1, h1⟩ := cutρ_some hbi
    obtain ⟨_, kj, p2, h2⟩ := cutρ_some hbj
    rcases hk.ob i oi hi with ⟨k1, o1, p3, h3, _⟩ | ⟨p3, _⟩
    case inr => rw [p3] at p1; cases p1
    rcases hk.ob j oj hj with ⟨k2, o2, p4, h4, _⟩ | ⟨p4, _⟩
    case inr => rw [p4] at p2; cases p2
    rw [p3] at p1
    injection p1 with p1
    subst p1
    rw [p4] at p2
    injection p2 with p2
    subst p2
    have e := hh.inj k1 k2 b o1 o2 h3 h4 h1 h2
    subst e
    exact hk.inj _ _ _ p3 p4
  lt := hk.lt
  bound := fun i b hi => by
    obtain ⟨h1, k, _, h2⟩ := cutρ_some hi
    exact ⟨h1, (hh.bound k b h2).2⟩
theorem ext_weak {T T' : Tm} {H' : AH} {ρ0 : Nat → Option Nat} {H0 : AH} {w0 : World} (he : Ext ρ0 H0 w0 ρ H w) (hk : Weak π H0.nxt T H T' H') : Ext ρ0 H0 w0 (cutρ π ρ H'.nxt) H' w where
  old := he.old
  agree := fun i b hi => by
    rw [cutρ_lt (Nat.lt_of_lt_of_le (he.old i b hi) hk.low) (hk.fix i (he.old i b hi))]
    exact he.agree i b hi
  new := fun i b hi => by
    obtain ⟨_, k, hπ, h1⟩ := cutρ_some hi
    rcases Nat.lt_or_ge i H0.nxt with hlt | hge
    · have := hk.fix i hlt
      rw [hπ] at this
      injection this with this
      subst this
      exact he.new _ b h1
    · rcases he.new k b h1 with h2 | h2
      · have h3 := he.old k b h2
        have := hk.inj i k k hπ (hk.fix k h3)
        omega
      · exact .inr ⟨hge, h2.2⟩
  live := fun i o ho hi => by
    rcases hk.ob i o ho with ⟨k, o0, hπ, h1, _⟩ | ⟨hπ, _⟩
    · have := hk.fix i hi
      rw [hπ] at this
      injection this with this
      subst this
      exact he.live _ o0 h1 hi
    · rw [hk.fix i hi] at hπ
      cases hπ
  nxt := hk.low
  imm := fun a v hc hi => let ⟨h1, h2⟩ := he.imm a v hc hi; ⟨h1, imm_weak hk h2⟩
  size := he.size
  rest := he.rest
  shape := he.shape
  os := he.os
  tape := he.tape
  output := he.output
end Go.Sim
namespace Go.Sim
variable {P : Program} {ρ : Nat → Option Nat} {H : AH} {w : World}
def same1 : Value → Value → Bool
  | .int j a, .int k b => decide (j = k) && decide (a = b)
  | .bool a, .bool b => a == b
  | .string a, .string b => a == b
  | _, _ => false
def sameVs : List Value → List Value → Bool
  | [], [] => true
  | x :: xs, y :: ys => same1 x y && sameVs xs ys
  | _, _ => false
def sameV : Value → Value → Bool
  | .agg xs, .agg ys => sameVs xs.toList ys.toList
  | x, y => same1 x y
theorem sameV_int (k : IntKind) (a b : Int) : sameV (.int k a) (.int k b) = decide (a = b) := by simp [sameV, same1]
def kidx (k : Value) : List Value → Option Nat
  | [] => none
  | x :: l => if sameV k x then some 0 else (kidx k l).map (· + 1)
def FindAt (P : Program) (kt : TypeId) (k : Value) (ks : List Value) : Prop :=
  ∀ w : World, (∀ em, (Instr.checkKey em 10000 kt k).run P w = .ok () w) ∧
    (∀ es : List MapEntry, es.map (·.key) = ks → (Instr.findKey kt k es).run P w = .ok ((kidx k ks).bind fun i => es[i]?.map fun e => (i, e.val)) w) ∧
    ∀ i, kidx k ks = some i → ks[i]? = some k ∧ (Instr.keyThatStays k k).run P w = .ok k w
theorem same1_key {d : TypeDesc} {a b : Value} (ha : MapKept.IsKey d a) (hb : MapKept.IsKey d b) : Instr.sameNow d a b = some (sameV a b) ∧ (sameV a b = true ↔ a = b) := by
  cases d <;> cases a <;> cases b <;> simp_all [MapKept.IsKey, Instr.sameNow, sameV, same1, MapKept.bytes_beq] <;> rfl
theorem findNow_first {d : TypeDesc} {k : Value} (hk : MapKept.IsKey d k) : ∀ (l : List MapEntry) (i : Nat), (∀ x ∈ l, MapKept.IsKey d x.key) →
    Instr.findNow d k l i = some ((kidx k (l.map (·.key))).bind fun j => l[j]?.map fun e => (i + j, e.val))
  | [], _, _ => rfl
  | e :: es, i, h => by
    obtain ⟨hr, hiff⟩ := same1_key hk (h e (.head _))
    rw [Instr.findNow, hr, List.map_cons, kidx]
    cases hs : sameV k e.key with
    | true => simp
    | false =>
      simp only [Bool.false_eq_true, if_false]
      rw [findNow_first hk es (i + 1) (fun x hx => h x (.tail _ hx))]
      cases kidx k (es.map (·.key)) with
      | none => rfl
      | some j =>
        simp only [Option.bind_some, Option.map_some, List.getElem?_cons_succ]
        cases es[j]? with
        | none => rfl
        | some e' => simp only [Option.map_some]; congr 3; omega
theorem kidx_at {k : Value} : ∀ {ks : List Value} {i : Nat}, (∀ v ∈ ks, sameV k v = true → k = v) → kidx k ks = some i → ks[i]? = some k
  | [], _, _, h => by cases h
  | x :: l, i, hks, h => by
    rw [kidx] at h
    split at h
    · rename_i hs
      injection h with h
      subst h
      rw [hks x (.head _) hs]
      rfl
    · obtain ⟨j, hj, rfl⟩ := Option.map_eq_some_iff.1 h
      exact kidx_at (ks := l) (fun v hv => hks v (.tail _ hv)) hj
theorem stays_key {d : TypeDesc} {k : Value} (hk : MapKept.IsKey d k) (w : World) : (Instr.keyThatStays k k).run P w = .ok k w := by
  have : Instr.sameBits 10000 k k = true := by
    cases d <;> cases k <;> simp_all [MapKept.IsKey, Instr.sameBits, MapKept.bytes_beq]
  simp [Instr.keyThatStays, this]
theorem findAt_key {kt : TypeId} {d : TypeDesc} (hd : P.underlying kt = some d) {k : Value} {ks : List Value} (hk : MapKept.IsKey d k) (hks : ∀ v ∈ ks, MapKept.IsKey d v) : FindAt P kt k ks := by
  intro w
  refine ⟨fun em => MapKept.run_checkKey hd hk em 9999, fun es hes => ?_, fun i hi => ⟨kidx_at (fun v hv h => (same1_key hk (hks v hv)).2.1 h) hi, stays_key hk w⟩⟩
  subst hes
  have := findNow_first hk es 0 (fun x hx => hks _ (List.mem_map.2 ⟨x, hx, rfl⟩))
  rw [MapKept.run_findKey hd this]
  congr 1
  cases kidx k (es.map (·.key)) with
  | none => rfl
  | some j => simp only [Option.bind_some, Nat.zero_add]
theorem findAt_ask {kt : TypeId} (hwide : (match P.underlying kt with | some (.array _ _) | some (.struct _) => true | _ => false) = true) {k : Value} {ks : List Value}
    (hc : ∀ w em, (Instr.checkKey em 10000 kt k).run P w = .ok () w) (he : ∀ v ∈ ks, ∀ w, (Op.equal kt k v).run P w = .ok (sameV k v) w) (hs : ∀ v ∈ ks, sameV k v = true → k = v) (hb : Instr.sameBits 10000 k k = true) : FindAt P kt k ks := by
  intro w
  refine ⟨hc w, fun es hes => ?_, fun i hi => ⟨kidx_at hs hi, by simp [Instr.keyThatStays, hb]⟩⟩
  subst hes
  rw [run_findKey_eq w hwide]
  have : ∀ (l : List MapEntry) (i : Nat), (∀ x ∈ l, ∀ w, (Op.equal kt k x.key).run P w = .ok (sameV k x.key) w) →
      (Instr.findAsking kt k l i).run P w = .ok ((kidx k (l.map (·.key))).bind fun j => l[j]?.map fun e => (i + j, e.val)) w := by
    intro l
    induction l with
    | nil => intro i _; rfl
    | cons e es ih =>
      intro i h
      rw [Instr.findAsking, List.map_cons, kidx]
      simp only [Sem.run_bind, h e (.head _) w, Result.andThen_ok]
      cases hs : sameV k e.key with
      | true => simp
      | false =>
        simp only [Bool.false_eq_true, if_false]
        rw [ih (i + 1) (fun x hx => h x (.tail _ hx))]
        cases kidx k (es.map (·.key)) with
        | none => rfl
        | some j =>
          simp only [Option.bind_some, Option.map_some, List.getElem?_cons_succ]
          cases es[j]? with
          | none => rfl
          | some e' => simp only [Option.map_some]; congr 3; omega
  rw [this es 0 (fun x hx => he _ (List.mem_map.2 ⟨x, hx, rfl⟩))]
  congr 1
  cases kidx k (es.map (·.key)) with
  | none => rfl
  | some j => simp only [Option.bind_some, Nat.zero_add]
def keyV : AV → Option Value
  | .lit v => some v
  | .agg cs => (lits cs).map fun vs => .agg vs.toArray
  | _ => none
theorem keyV_rep {v : AV} {k x : Value} (h : keyV v = some k) (hr : Rep ρ H w v x) : x = k := by
  cases v with
  | lit v => simp only [keyV, Option.some.injEq] at h; simp only [Rep] at hr; rw [hr, h]
  | agg cs =>
    simp only [keyV, Option.map_eq_some_iff] at h
    obtain ⟨vs, h1, rfl⟩ := h
    simp only [Rep] at hr
    obtain ⟨xs, rfl, h2⟩ := hr
    rw [rep_of_lits h1 h2]
  | _ => simp [keyV] at h
def afind (k : Value) : List (Value × AV) → Option AV
  | [] => none
  | (k', v) :: l => if sameV k k' then some v else afind k l
def aput (k : Value) (v : AV) : List (Value × AV) → List (Value × AV)
  | [] => [(k, v)]
  | (k', u) :: l => if sameV k k' then (k, v) :: l else (k', u) :: aput k v l
def mget : Option AV → AV → AV
  | some v, _ => v
  | none, z => z
def vzero (P : Program) (t : TypeId) : Option AV :=
  match (P.info? t).bind (·.zero) with
  | some (.agg cs) => some (.agg (cs.toList.map .lit))
  | some z => some (.lit z)
  | none => none
theorem afind_kidx (k : Value) : ∀ kvs : List (Value × AV), afind k kvs = (kidx k (kvs.map (·.1))).bind fun i => kvs[i]?.map (·.2)
  | [] => rfl
  | (k', v) :: l => by
    rw [afind, List.map_cons, kidx]
    split
    · rfl
    · rw [afind_kidx k l]
      cases kidx k (l.map (·.1)) <;> simp
theorem aput_none {k : Value} {v : AV} : ∀ {kvs : List (Value × AV)}, kidx k (kvs.map (·.1)) = none → aput k v kvs = kvs ++ [(k, v)]
  | [], _ => rfl
  | (k', u) :: l, h => by
    rw [List.map_cons, kidx] at h
    split at h
    · cases h
    · rename_i hs
      rw [aput, if_neg hs, aput_none (Option.map_eq_none_iff.1 h)]
      rfl
theorem aput_some {k : Value} {v : AV} : ∀ {kvs : List (Value × AV)} {i : Nat}, kidx k (kvs.map (·.1)) = some i → aput k v kvs = kvs.set i (k, v)
  | [], _, h => by cases h
  | (k', u) :: l, i, h => by
    rw [List.map_cons, kidx] at h
    split at h
    · rename_i hs
      injection h with h
      subst h
      rw [aput, if_pos hs]
      rfl
    · rename_i hs
      obtain ⟨j, hj, rfl⟩ := Option.map_eq_some_iff.1 h
      rw [aput, if_neg hs, aput_some hj]
      rfl
theorem vzero_ok {t : TypeId} {v : AV} (h : vzero P t = some v) (w : World) : ∃ z, (zeroValue t).run P w = .ok z w ∧ Rep ρ H w v z := by
  unfold vzero at h
  cases hi : P.info? t with
  | none => rw [hi] at h; simp at h
  | some i =>
    rw [hi] at h
    simp only [Option.bind_some] at h
    cases hz : i.zero with
    | none => rw [hz] at h; simp at h
    | some z =>
      have hrun : (zeroValue t).run P w = .ok z w := by simp [zeroValue, typeInfo, hi, hz]
      refine ⟨z, hrun, ?_⟩
      rw [hz] at h
      split at h
      · rename_i cs he
        injection he with he
        injection h with h
        subst h he
        simp only [Rep]
        exact ⟨cs.toList, by simp, rep_lits ρ H w _⟩
      · rename_i he
        injection he with he
        injection h with h
        subst h he
        simp only [Rep]
      · cases h
def alookup (P : Program) (t : TypeId) (H : AH) (m k : AV) (ok : Bool) : Option (Prop × AV) :=
  match m with
  | .mp i =>
    match H.obj i with
    | some (.amap kvs) =>
      match keyV k, P.underlying t with
      | some key, some (.map kt et) =>
        (vzero P et).map fun z => (FindAt P kt key (kvs.map (·.1)), bif ok then .tup [mget (afind key kvs) z, .bool (afind key kvs).isSome] else mget (afind key kvs) z)
      | _, _ => none
    | _ => none
  | _ => none
theorem alookup_ok (hh : Holds ρ H w) {t : TypeId} {vm vk : AV} {m k : Value} {ok : Bool} {φ : Prop} {r : AV} (h : alookup P t H vm vk ok = some (φ, r)) (hφ : φ) (hm : Rep ρ H w vm m) (hk : Rep ρ H w vk k) :
    ∃ y, (Instr.lookup t m k ok).run P w = .ok y w ∧ Rep ρ H w r y := by
  unfold alookup at h
  split at h
  · rename_i i
    split at h
    · rename_i kvs ho
      split at h
      · rename_i key kt et hkey hu
        simp only [Option.map_eq_some_iff, Prod.mk.injEq] at h
        obtain ⟨z, hz, rfl, rfl⟩ := h
        obtain rfl := keyV_rep hkey hk
        obtain ⟨zv, hzv, hzr⟩ := vzero_ok (ρ := ρ) (H := H) hz w
        simp only [Rep] at hm
        obtain ⟨b, hb, rfl⟩ := hm
        obtain ⟨b', es, clock, hb', hw, _, hv, hks⟩ := hh.obj i _ ho
        rw [hb] at hb'
        injection hb' with hb'
        subst hb'
        obtain ⟨hc, hf, _⟩ := hφ w
        have hfind := hf es.toList hks.symm
        have ha := afind_kidx k kvs
        cases hidx : kidx k (kvs.map (·.1)) with
        | none =>
          rw [hidx] at hfind ha
          simp only [Option.bind_none] at hfind ha
          rw [ha]
          cases ok with
          | false => exact ⟨zv, by simp [Instr.lookup, run_underlying hu, MapKept.run_getObj_map hw, hc, hfind, hzv], hzr⟩
          | true => exact ⟨.tuple #[zv, .bool false], by simp [Instr.lookup, run_underlying hu, MapKept.run_getObj_map hw, hc, hfind, hzv], by simp only [mget, Option.isSome_none, cond_true, Rep, RepL]; exact ⟨_, rfl, _, _, rfl, hzr, _, _, rfl, rfl, rfl⟩⟩
        | some j =>
          obtain ⟨hj, _⟩ := (hφ w).2.2 j hidx
          rw [hidx] at hfind ha
          simp only [Option.bind_some] at hfind ha
          have hjl : j < kvs.length := by have := (List.getElem?_eq_some_iff.1 hj).1; simpa using this
          have hel : es.toList.length = kvs.length := by have := congrArg List.length hks; simpa using this.symm
          have hje : j < es.toList.length := by omega
          rw [List.getElem?_eq_getElem hjl] at ha
          rw [List.getElem?_eq_getElem hje] at hfind
          simp only [Option.map_some] at hfind ha
          have hrv : Rep ρ H w kvs[j].2 es.toList[j].val := hv.get_both (j := j) (by rw [List.getElem?_map, List.getElem?_eq_getElem hjl]; rfl) (by rw [List.getElem?_map, List.getElem?_eq_getElem hje]; rfl)
          rw [ha]
          generalize es.toList[j].val = y at hfind hrv
          cases ok with
          | false => exact ⟨y, by simp [Instr.lookup, run_underlying hu, MapKept.run_getObj_map hw, hc, hfind], hrv⟩
          | true => exact ⟨.tuple #[y, .bool true], by simp [Instr.lookup, run_underlying hu, MapKept.run_getObj_map hw, hc, hfind], by simp only [mget, Option.isSome_some, cond_true, Rep, RepL]; exact ⟨_, rfl, _, _, rfl, hrv, _, _, rfl, rfl, rfl⟩⟩
      · cases h
    · cases h
  · cases h
theorem made_map (hh : Holds ρ H w) (t : TypeId) : Made P ρ H w (Instr.makeMap t none) (.mp H.nxt) (H.add (.amap [])) := by
  refine ⟨_, _, _, by simp only [Instr.makeMap, Sem.run_bind, Sem.run_pure]; rfl, ?_, hh.alloc (.map #[] 0) (.amap []) ?_, Ext.alloc hh (.map #[] 0) (.amap [])⟩
  · simp only [Rep]
    exact ⟨_, upd_self _ _, rfl⟩
  · exact ⟨_, #[], 0, upd_self _ _, heap_push_new w _, by simp, by simp [RepL], by simp⟩
theorem map_written (hh : Holds ρ H w) {i b : Nat} {kvs kvs' : List (Value × AV)} {es es' : Array MapEntry} {clock clock' : Nat} (ho : H.obj i = some (.amap kvs)) (hb : ρ i = some b) (hw : w.heap[b]? = some (.map es clock))
    (hborn : es'.toList.map (·.born) = List.range clock') (hv : RepL ρ H w (kvs'.map (·.2)) (es'.toList.map (·.val))) (hk : kvs'.map (·.1) = es'.toList.map (·.key)) :
    Holds ρ (H.set i (.amap kvs')) { w with heap := w.heap.setIfInBounds b (.map es' clock') } ∧ Ext ρ H w ρ (H.set i (.amap kvs')) { w with heap := w.heap.setIfInBounds b (.map es' clock') } := by
  obtain ⟨hset, hold⟩ := MapKept.heap_set (o' := .map es' clock') hw
  have hil := hh.lt i _ ho
  have hext : Ext ρ H w ρ (H.set i (.amap kvs')) { w with heap := w.heap.setIfInBounds b (.map es' clock') } := {
    old := fun j c hj => (hh.bound j c hj).1
    agree := fun _ _ h => h
    new := fun _ _ h => .inl h
    live := fun j o hj _ => by
      simp only [AH.set] at hj
      split at hj
      · rename_i e; subst e; exact ⟨_, ho⟩
      · exact ⟨o, hj⟩
    nxt := Nat.le_refl _
    imm := fun a v hc hi => by
      have hne : a.block ≠ b := fun e => by simp [World.cell?, e, hw] at hc
      refine ⟨by simp only [World.cell?, hold _ hne] at hc ⊢; exact hc, fun j z es fz hj hρ => ?_⟩
      simp only [AH.set] at hj
      split at hj
      · cases hj
      · exact hi j z es fz hj hρ
    size := by simp
    rest := fun c hc hn => hold c fun e => hn i _ ho (by rw [hb, e])
    shape := fun c cs t fr hc => by
      have hne : c ≠ b := fun e => by rw [e, hw] at hc; cases hc
      exact ⟨cs, by rw [hold c hne]; exact hc, rfl⟩
    os := rfl
    tape := rfl
    output := rfl }
  refine ⟨?_, hext⟩
  constructor
  · intro j o hj
    simp only [AH.set] at hj
    split at hj
    · rename_i e
      subst e
      injection hj with hj
      subst hj
      exact ⟨b, es', clock', hb, hset, hborn, RepL.ext hext _ _ hv, hk⟩
    · rename_i hne
      exact (hh.obj j o hj).ext hext (hh.lt j o hj) fun c hc => hold c fun e => hne (hh.inj j i c o _ hj ho hc (by rw [hb, e]))
  · intro j k c oj ok hj hk hbj hbk
    have live : ∀ {j o}, (H.set i (.amap kvs')).obj j = some o → ∃ o', H.obj j = some o' := by
      intro j o h
      simp only [AH.set] at h
      split at h
      · rename_i e; subst e; exact ⟨_, ho⟩
      · exact ⟨o, h⟩
    obtain ⟨oj', hj'⟩ := live hj
    obtain ⟨ok', hk'⟩ := live hk
    exact hh.inj j k c oj' ok' hj' hk' hbj hbk
  · intro j o hj
    simp only [AH.set] at hj ⊢
    split at hj
    · rename_i e; subst e; exact hil
    · exact hh.lt j o hj
  · intro j c hj
    have := hh.bound j c hj
    simpa [AH.set] using this
def amapPut (P : Program) (t : TypeId) (H : AH) (m k v : AV) : Option (Prop × AH) :=
  match m with
  | .mp i =>
    match H.obj i with
    | some (.amap kvs) =>
      match keyV k, P.underlying t with
      | some key, some (.map kt _) => some (FindAt P kt key (kvs.map (·.1)), H.set i (.amap (aput key v kvs)))
      | _, _ => none
    | _ => none
  | _ => none
theorem made_put (hh : Holds ρ H w) {t : TypeId} {vm vk vv : AV} {m k v : Value} {φ : Prop} {H' : AH} (h : amapPut P t H vm vk vv = some (φ, H')) (hφ : φ) (hm : Rep ρ H w vm m) (hk : Rep ρ H w vk k) (hv : Rep ρ H w vv v) :
    MadeU P ρ H w (Instr.mapUpdate t m k v) H' := by
  unfold amapPut at h
  split at h
  · rename_i i
    split at h
    · rename_i kvs ho
      split at h
      · rename_i key kt et hkey hu
        simp only [Option.some.injEq, Prod.mk.injEq] at h
        obtain ⟨rfl, rfl⟩ := h
        obtain rfl := keyV_rep hkey hk
        simp only [Rep] at hm
        obtain ⟨b, hb, rfl⟩ := hm
        obtain ⟨b', es, clock, hb', hw, hborn, hvs, hks⟩ := hh.obj i _ ho
        rw [hb] at hb'
        injection hb' with hb'
        subst hb'
        obtain ⟨hc, hf, hst⟩ := hφ w
        have hfind := hf es.toList hks.symm
        cases hidx : kidx k (kvs.map (·.1)) with
        | none =>
          rw [hidx] at hfind
          simp only [Option.bind_none] at hfind
          rw [aput_none hidx]
          have hmw := map_written hh (kvs' := kvs ++ [(k, vv)]) (es' := es.push { key := k, val := v, born := clock }) (clock' := clock + 1) ho hb hw ?_ ?_ ?_
          · obtain ⟨h1, h2⟩ := hmw
            exact ⟨_, ρ, by simp [Instr.mapUpdate, run_underlying hu, MapKept.run_getObj_map hw, hc, hfind, MapKept.run_setObj_map _ hw], h1, h2⟩
          · rw [Array.toList_push, List.map_append, hborn, List.range_succ]
            rfl
          · simp only [List.map_append, List.map_cons, List.map_nil, Array.toList_push]
            exact hvs.append (by simp only [RepL]; exact ⟨_, _, rfl, hv, rfl⟩)
          · simp only [List.map_append, List.map_cons, List.map_nil, Array.toList_push, hks]
        | some j =>
          obtain ⟨hj, hstay⟩ := hst j hidx
          rw [hidx] at hfind
          simp only [Option.bind_some] at hfind
          have hjl : j < kvs.length := by have := (List.getElem?_eq_some_iff.1 hj).1; simpa using this
          have hel : es.toList.length = kvs.length := by have := congrArg List.length hks; simpa using this.symm
          have hje : j < es.toList.length := by omega
          have hjs : j < es.size := by simpa using hje
          rw [List.getElem?_eq_getElem hje] at hfind
          simp only [Option.map_some] at hfind
          have hkey' : es.toList[j].key = k := by
            rw [hks, List.getElem?_map, List.getElem?_eq_getElem hje] at hj
            simpa using hj
          have hgk : (es[j]?.map (·.key)).getD k = k := by
            rw [Array.getElem?_eq_getElem hjs]
            simpa using hkey'
          have hmod : (es.modify j fun e => { e with key := k, val := v }).toList = es.toList.set j { key := k, val := v, born := es.toList[j].born } := by
            apply List.ext_getElem?
            intro n
            rw [List.getElem?_set, Array.getElem?_toList, Array.getElem?_modify]
            by_cases hn : j = n
            · subst hn
              simp [hjs]
            · simp [hn]
          rw [aput_some hidx]
          have hmw := map_written hh (kvs' := kvs.set j (k, vv)) (es' := es.modify j fun e => { e with key := k, val := v }) (clock' := clock) ho hb hw ?_ ?_ ?_
          · obtain ⟨h1, h2⟩ := hmw
            refine ⟨_, ρ, ?_, h1, h2⟩
            simp [Instr.mapUpdate, run_underlying hu, MapKept.run_getObj_map hw, hc, hfind]
            rw [hgk]
            simp [hstay, MapKept.run_setObj_map _ hw]
          · rw [hmod, ← hborn]
            apply List.ext_getElem?
            intro n
            rw [List.getElem?_map, List.getElem?_map, List.getElem?_set]
            by_cases hn : j = n
            · subst hn
              rw [if_pos rfl, if_pos hje, List.getElem?_eq_getElem hje]
              rfl
            · rw [if_neg hn]
          · rw [hmod, List.map_set, List.map_set]
            refine RepL.mk (by simp [hel]) fun n u x hu hx => ?_
            rw [List.getElem?_set] at hu hx
            by_cases hn : j = n
            · subst hn
              simp only [if_true, List.length_map, hjl, hje, Option.some.injEq] at hu hx
              subst hu hx
              exact hv
            · rw [if_neg hn] at hu hx
              exact hvs.get_both hu hx
          · rw [hmod, List.map_set, List.map_set, hks]
      · cases h
    · cases h
  · cases h
def amakeSlice (P : Program) (t : TypeId) (H : AH) (l c : AV) : Option (Prop × AV × AH) :=
  match l, c, tzeroE P t with
  | .lit (.int _ n), .lit (.int _ m), some (zs, by_) =>
    some (m = n ∧ 0 ≤ n ∧ n ≤ 16777216 ∧ by_ ≤ 1048576, .rsl H.nxt zs.length 0 n.toNat, H.add (.cells zs.length (List.replicate n.toNat (zs.map .lit)) 0))
  | _, _, _ => none
theorem made_makeSlice (hh : Holds ρ H w) {t : TypeId} {vl vc : AV} {l c : Value} {φ : Prop} {r : AV} {H' : AH} (h : amakeSlice P t H vl vc = some (φ, r, H')) (hφ : φ) (hl : Rep ρ H w vl l) (hc : Rep ρ H w vc c) :
    Made P ρ H w (Instr.makeSlice t l c) r H' := by
  unfold amakeSlice at h
  split at h
  · rename_i k n k' m zs by_ hz
    simp only [Option.some.injEq, Prod.mk.injEq] at h
    obtain ⟨rfl, rfl, rfl⟩ := h
    obtain ⟨rfl, h0, h1, h2⟩ := hφ
    simp only [Rep] at hl hc
    subst hl hc
    obtain ⟨e, i, z, hu, hi, hzv, rfl, hsz, hpos, hby, hcs, hzero, hsize⟩ := tzeroE_ok hz w
    have hmade := made_row hh e (rep_replicate (ρ := ρ) (H := H) (w := w) m.toNat z.cells.toList) (z := z.cells.toList.length) (fun e he => by rw [(List.mem_replicate.1 he).2]; simp) (by simp only [List.length_replicate, maxLen]; omega)
    rw [List.length_replicate] at hmade
    refine ⟨_, _, _, ?_, hmade⟩
    have hz' := zeros_flat z.cells (by simpa using hpos) m.toNat
    have hle : z.cells.toList.length = z.cells.size := by simp
    have h6 : ((Array.range (m.toNat * z.cells.toList.length)).map (z.cells[· % z.cells.size]!)) = (List.replicate m.toNat z.cells.toList).flatten.toArray := by
      apply Array.ext'
      rw [hle, hz']
    have hw : IntKind.wrap .i64 m = m := by rw [IntKind.wrap_i64]; omega
    have hbm : (by_ : Int) * m ≤ 1048576 * 16777216 := Int.mul_le_mul (by omega) h1 h0 (by omega)
    have hbn : m.toNat * by_ ≤ 16777216 * 1048576 := Nat.mul_le_mul (by omega) h2
    subst hby
    have t1 : ¬ ((i.bytes : Int) * m > 2 ^ 48) := by omega
    have t2 : ¬ (m < 0) := by omega
    have t3 : ¬ (m > m) := by omega
    have t4 : ¬ (m.toNat * i.bytes > roomBytes) := by simp only [roomBytes]; omega
    by_cases hn0 : m.toNat * z.cells.toList.length = 0
    · have hn1 : m.toNat = 0 := by
        rcases Nat.mul_eq_zero.1 hn0 with h | h
        · exact h
        · omega
      have e0 : ((Array.range (0 * z.cells.toList.length)).map ((#[] : Array Value)[· % (#[] : Array Value).size]!)) = (List.replicate 0 z.cells.toList).flatten.toArray := by simp
      have hz0 : 0 * z.cells.toList.length = 0 := Nat.zero_mul _
      have t40 : ¬ (0 * i.bytes > roomBytes) := by rw [Nat.zero_mul]; omega
      simp only [Instr.makeSlice, Sem.run_bind, run_underlying hu, Result.andThen_ok, asInt, asIntOf, Sem.run_pure, typeInfo, run_program, hi, hw, t1, t2, t3, Bool.false_eq_true, decide_false, Bool.or_self, if_false, askRoom, Sem.run_ite, if_neg t40, hsize, if_pos hz0, run_newRow, hn1, e0]
    · simp only [Instr.makeSlice, Sem.run_bind, run_underlying hu, Result.andThen_ok, asInt, asIntOf, Sem.run_pure, typeInfo, run_program, hi, hw, t1, t2, t3, Bool.false_eq_true, decide_false, Bool.or_self, if_false, askRoom, Sem.run_ite, if_neg t4, hsize, if_neg hn0, hzero, run_newRow, h6]
  · cases h
def aclear (P : Program) (t : TypeId) (H : AH) (v : AV) : Option (Prop × AV × AH) :=
  match v, tzeroE P t with
  | .rsl i z off len, some (zs, _) =>
    match H.obj i with
    | some (.cells z' es fz) => some (z' = z ∧ zs.length = z ∧ fz ≤ off ∧ off + len = es.length ∧ zs.all Value.oneCell' = true, .tup [], H.set i (.cells z (es.take off ++ List.replicate len (zs.map .lit)) fz))
    | _ => none
  | _, _ => none
theorem set_same {H : AH} {i : Nat} {o : AObj} (h : H.obj i = some o) : H.set i o = H := by
  obtain ⟨f, n⟩ := H
  simp only [AH.set, AH.mk.injEq, and_true]
  funext j
  split
  · rename_i e; subst e; exact h.symm
  · rfl
theorem made_clear (hh : Holds ρ H w) {t ty : TypeId} {vx : AV} {x : Value} {φ : Prop} {r : AV} {H' : AH} (h : aclear P t H vx = some (φ, r, H')) (hφ : φ) (hx : Rep ρ H w vx x) :
    Made P ρ H w (Builtin.clear_ #[t] ty #[x]) r H' := by
  unfold aclear at h
  split at h
  · rename_i i z off len zs by_ hz
    split at h
    · rename_i z' es fz ho
      simp only [Option.some.injEq, Prod.mk.injEq] at h
      obtain ⟨rfl, rfl, rfl⟩ := h
      obtain ⟨rfl, hzl, hf, hlen, hone⟩ := hφ
      obtain ⟨e, inf, zv, hu, hi, hzv, rfl, hsz, hpos, hby, hcs, hzero, hsize⟩ := tzeroE_ok hz w
      have rt : ∀ ρ' H' w', Rep ρ' H' w' (.tup []) (.tuple #[]) := fun ρ' H' w' => by simp only [Rep, RepL]; exact ⟨[], rfl, rfl⟩
      rcases Nat.eq_zero_or_pos len with h0 | h0
      · subst h0
        have hsame : H.set i (.cells z' (es.take off ++ List.replicate 0 (zv.cells.toList.map .lit)) fz) = H := by
          rw [List.replicate_zero, List.append_nil, List.take_of_length_le (by omega)]
          exact set_same ho
        rw [hsame]
        refine ⟨.tuple #[], w, ρ, ?_, rt _ _ _, hh, Ext.refl hh⟩
        simp only [Rep] at hx
        rcases hx with ⟨b, cap, ccs, t', fr, _, rfl, _⟩ | ⟨_, _, A, rfl⟩
        · simp [Builtin.clear_, run_underlying hu]
        · cases A <;> simp [Builtin.clear_, run_underlying hu]
      · simp only [Rep] at hx
        rcases hx with ⟨b, cap, ccs0, t0, fr, hb, rfl, h3, h4, h5, h6⟩ | ⟨h1, _⟩
        case inr => omega
        rcases hh.obj i _ ho with ⟨b', ccs, t2, xss, k1, k2, k3, k4, k5, k6, k7⟩ | ⟨k1, _⟩
        case inr => rw [hb] at k1; cases k1
        rw [hb] at k1
        injection k1 with k1
        subst k1
        have hru : RepLL ρ H w (List.replicate len (zv.cells.toList.map .lit)) (List.replicate len zv.cells.toList) := rep_replicate len zv.cells.toList
        have huz : ∀ e ∈ List.replicate len (zv.cells.toList.map AV.lit), e.length = z' := fun e he => by rw [(List.mem_replicate.1 he).2, List.length_map]; exact hzl
        have hol := flat_length ((k4.take off).elem_length fun e he => k3 e (List.mem_of_mem_take he))
        have hul := flat_length (hru.elem_length huz)
        rw [(k4.take off).length] at hol
        rw [List.length_replicate] at hul
        have htl : (es.take off).length = off := by simp; omega
        rw [htl] at hol
        have hroom : (off + len) * z' ≤ ccs.size := by rw [hlen]; exact k6
        rw [Nat.add_mul] at hroom
        have hones : ∀ v ∈ (List.replicate len zv.cells.toList).flatten, v.oneCell' = true := by
          intro v hv
          obtain ⟨l, hl, hvl⟩ := List.mem_flatten.1 hv
          rw [(List.mem_replicate.1 hl).2] at hvl
          exact List.all_eq_true.1 hone v hvl
        have hst := run_storeCells_at (P := P) b (off * z') t2 (List.replicate len zv.cells.toList).flatten 0 ccs w k2 (by rw [hul]; omega) hones
        simp only [Nat.add_zero, hul] at hst
        have hW : Wrote ρ H w ρ (H.set i (.cells z' (es.take off ++ List.replicate len (zv.cells.toList.map .lit)) fz)) i i b z' fz es (es.take off ++ List.replicate len (zv.cells.toList.map .lit)) ccs
            (ccs.toList.take (off * z') ++ (List.replicate len zv.cells.toList).flatten ++ ccs.toList.drop (off * z' + len * z')).toArray t2 (xss.take off ++ List.replicate len zv.cells.toList) := {
          ho := ho
          hb := hb
          hw := k2
          ho' := by simp [AH.set]
          hk := .inl rfl
          hρk := hb
          hρ := fun _ _ => rfl
          hρ' := fun j b' hj => .inr hj
          other := fun j o hj hne => by simp only [AH.set] at hj; rw [if_neg hne] at hj; exact ⟨hj, hne⟩
          nxt := Nat.le_refl _
          klt := hh.lt i _ ho
          size := by simp only [List.size_toArray, List.length_append, List.length_take, List.length_drop, Array.length_toList, hul]; omega
          low := fun j hj => by
            have : fz * z' ≤ off * z' := Nat.mul_le_mul_right _ hf
            simp only [List.getElem?_toArray]
            rw [List.append_assoc, List.getElem?_append_left (by simp; omega), List.getElem?_take, if_pos (by omega), Array.getElem?_toList]
          rep := (k4.take off).append hru
          len := fun u hu => by
            rcases List.mem_append.1 hu with h | h
            · exact k3 u (List.mem_of_mem_take h)
            · exact huz u h
          fz := by simp only [List.length_append, htl]; omega
          room := by
            simp only [List.length_append, htl, List.length_replicate]
            rw [Nat.add_mul]
            exact hroom
          at_ := fun j l ys u hj hl => by
            simp only [List.getElem?_toArray]
            have hall : ∀ xs ∈ xss.take off ++ List.replicate len zv.cells.toList, xs.length = z' := fun xs hxs => by
              rcases List.mem_append.1 hxs with h | h
              · exact k4.elem_length k3 xs (List.mem_of_mem_take h)
              · exact hru.elem_length huz xs h
            have hflat := flat_get hall hj hl
            have hlt := (List.getElem?_eq_some_iff.1 hflat).1
            rw [List.flatten_append] at hflat hlt
            simp only [List.length_append, hol, hul] at hlt
            by_cases hjn : j * z' + l < off * z'
            · rw [List.append_assoc, List.getElem?_append_left (by simp; omega), List.getElem?_take, if_pos hjn, Array.getElem?_toList]
              have hjlt : j < off := by
                rcases Nat.lt_or_ge j off with h | h
                · exact h
                · have := Nat.mul_le_mul_right z' h
                  omega
              refine k7 j l ys u ?_ hl
              rw [List.getElem?_append_left (by simp [k4.length]; omega), List.getElem?_take, if_pos hjlt] at hj
              exact hj
            · rw [List.getElem?_append_right (by rw [hol]; omega), hol] at hflat
              rw [List.append_assoc, List.getElem?_append_right (by simp; omega)]
              simp only [List.length_take, Array.length_toList]
              rw [show min (off * z') ccs.size = off * z' by omega]
              rw [List.getElem?_append_left (by rw [hul]; omega)]
              exact hflat }
        refine ⟨.tuple #[], _, ρ, ?_, rt _ _ _, hW.holds hh, hW.ext hh⟩
        obtain ⟨m, rfl⟩ : ∃ m, len = m + 1 := ⟨len - 1, by omega⟩
        have hz' := zeros_flat zv.cells (by simpa using hpos) (m + 1)
        have hzc : (Builtin.zeroCells zv.cells (m + 1)).toList = (List.replicate (m + 1) zv.cells.toList).flatten := hz'
        simp only [Builtin.clear_, List.getElem?_toArray, List.getElem?_cons_zero, Sem.run_bind, run_underlying hu, Result.andThen_ok, hzero, hzc, hst, Sem.run_pure]
    · cases h
  · cases h
def aentry (P : Program) (t : TypeId) (H : AH) (m k : AV) : Option (Prop × AV × AH) :=
  match m with
  | .mp i =>
    match H.obj i with
    | some (.amap kvs) =>
      match keyV k, P.underlying t with
      | some key, some (.map kt et) =>
        (vzero P et).map fun z => (FindAt P kt key (kvs.map (·.1)) ∧ kidx key (kvs.map (·.1)) = none, .tup [z, .int kvs.length], H.set i (.amap (kvs ++ [(key, z)])))
      | _, _ => none
    | _ => none
  | _ => none
theorem made_entry (hh : Holds ρ H w) {t : TypeId} {vm vk : AV} {m k : Value} {φ : Prop} {r : AV} {H' : AH} (h : aentry P t H vm vk = some (φ, r, H')) (hφ : φ) (hm : Rep ρ H w vm m) (hk : Rep ρ H w vk k) :
    Made P ρ H w (Instr.mapEntry t m k) r H' := by
  unfold aentry at h
  split at h
  · rename_i i
    split at h
    · rename_i kvs ho
      split at h
      · rename_i key kt et hkey hu
        simp only [Option.map_eq_some_iff, Prod.mk.injEq] at h
        obtain ⟨z, hz, rfl, rfl, rfl⟩ := h
        obtain rfl := keyV_rep hkey hk
        obtain ⟨hφ, hidx⟩ := hφ
        obtain ⟨zv, hzv, hzr⟩ := vzero_ok (ρ := ρ) (H := H) hz w
        simp only [Rep] at hm
        obtain ⟨b, hb, rfl⟩ := hm
        obtain ⟨b', es, clock, hb', hw, hborn, hvs, hks⟩ := hh.obj i _ ho
        rw [hb] at hb'
        injection hb' with hb'
        subst hb'
        obtain ⟨hc, hf, hst⟩ := hφ w
        have hfind := hf es.toList hks.symm
        rw [hidx] at hfind
        simp only [Option.bind_none] at hfind
        have hmw := map_written hh (kvs' := kvs ++ [(k, z)]) (es' := es.push { key := k, val := zv, born := clock }) (clock' := clock + 1) ho hb hw ?_ ?_ ?_
        · obtain ⟨h1, h2⟩ := hmw
          have hcl : clock = kvs.length := by
            have e1 := congrArg List.length hborn
            have e2 := congrArg List.length hks
            simp only [List.length_map, List.length_range] at e1 e2
            omega
          refine ⟨.tuple #[zv, goInt clock], _, ρ, by simp [Instr.mapEntry, run_underlying hu, MapKept.run_getObj_map hw, hc, hfind, hzv, MapKept.run_setObj_map _ hw], ?_, h1, h2⟩
          simp only [Rep, RepL]
          exact ⟨_, rfl, _, _, rfl, Rep.ext h2 _ _ hzr, _, _, rfl, by rw [hcl]; rfl, rfl⟩
        · rw [Array.toList_push, List.map_append, hborn, List.range_succ]
          rfl
        · simp only [List.map_append, List.map_cons, List.map_nil, Array.toList_push]
          exact hvs.append (by simp only [RepL]; exact ⟨_, _, rfl, hzr, rfl⟩)
        · simp only [List.map_append, List.map_cons, List.map_nil, Array.toList_push, hks]
      · cases h
    · cases h
  · cases h
def aestore (H : AH) (m n v : AV) : Option (Prop × AH) :=
  match m, n with
  | .mp i, .lit (.int .i64 n) =>
    match H.obj i with
    | some (.amap kvs) => some (0 ≤ n ∧ n < kvs.length, H.set i (.amap (kvs.modify n.toNat fun p => (p.1, v))))
    | _ => none
  | _, _ => none
theorem findIdx_range : ∀ (l : List MapEntry) (s n : Nat), l.map (·.born) = List.range' s l.length → s ≤ n → n < s + l.length → l.findIdx? (fun e => (e.born : Int) == (n : Int)) = some (n - s)
  | [], s, n, _, _, h => by simp at h; omega
  | e :: l, s, n, hb, h1, h2 => by
    rw [List.map_cons, List.length_cons, List.range'_succ, List.cons.injEq] at hb
    rw [List.findIdx?_cons]
    by_cases hn : s = n
    · rw [if_pos (by rw [hb.1, hn]; simp), hn, Nat.sub_self]
    · rw [if_neg (by rw [hb.1]; simp; omega), findIdx_range l (s + 1) n hb.2 (by omega) (by rw [List.length_cons] at h2; omega)]
      simp only [Option.map_some]
      congr 1
      omega
theorem made_estore (hh : Holds ρ H w) {t : TypeId} {vm vn vv : AV} {m n v : Value} {φ : Prop} {H' : AH} (h : aestore H vm vn vv = some (φ, H')) (hφ : φ) (hm : Rep ρ H w vm m) (hn : Rep ρ H w vn n) (hv : Rep ρ H w vv v) :
    MadeU P ρ H w (Instr.entryStore t m n v) H' := by
  unfold aestore at h
  split at h
  · rename_i i k
    split at h
    · rename_i kvs ho
      simp only [Option.some.injEq, Prod.mk.injEq] at h
      obtain ⟨rfl, rfl⟩ := h
      obtain ⟨h0, hlt⟩ := hφ
      simp only [Rep] at hm hn
      subst hn
      obtain ⟨b, hb, rfl⟩ := hm
      obtain ⟨b', es, clock, hb', hw, hborn, hvs, hks⟩ := hh.obj i _ ho
      rw [hb] at hb'
      injection hb' with hb'
      subst hb'
      have e1 := congrArg List.length hborn
      have e2 := congrArg List.length hks
      simp only [List.length_map, List.length_range] at e1 e2
      obtain ⟨k, rfl⟩ : ∃ y : Nat, k = y := ⟨k.toNat, by omega⟩
      have hke : k < es.toList.length := by omega
      have hks' : k < es.size := by simpa using hke
      have hfi : es.findIdx? (fun e => (e.born : Int) == (k : Int)) = some k := by
        have hl : es.findIdx? (fun e => (e.born : Int) == (k : Int)) = es.toList.findIdx? (fun e => (e.born : Int) == (k : Int)) := by cases es; simp
        rw [hl]
        have := findIdx_range es.toList 0 k (by rw [hborn, e1, List.range_eq_range']) (by omega) (by omega)
        rw [this, Nat.sub_zero]
      have hmod : (es.modify k fun e => { e with val := v }).toList = es.toList.modify k fun e => { e with val := v } := by
        apply List.ext_getElem?
        intro n
        rw [Array.getElem?_toList, Array.getElem?_modify, List.getElem?_modify, Array.getElem?_toList]
        by_cases hn : k = n
        · subst hn; simp
        · simp [hn]
      rw [Int.toNat_natCast]
      have hmw := map_written hh (kvs' := kvs.modify k fun p => (p.1, vv)) (es' := es.modify k fun e => { e with val := v }) (clock' := clock) ho hb hw ?_ ?_ ?_
      · obtain ⟨h1, h2⟩ := hmw
        exact ⟨_, ρ, by simp [Instr.entryStore, MapKept.run_getObj_map hw, asInt, asIntOf, hfi, MapKept.run_setObj_map _ hw], h1, h2⟩
      · rw [hmod, ← hborn]
        apply List.ext_getElem?
        intro n
        rw [List.getElem?_map, List.getElem?_map, List.getElem?_modify]
        by_cases hn : k = n
        · subst hn; cases es.toList[k]? <;> simp
        · simp [hn]
      · rw [hmod]
        refine RepL.mk (by simp only [List.length_map, List.length_modify]; omega) fun n u x hu hx => ?_
        rw [List.getElem?_map, List.getElem?_modify] at hu hx
        simp only [Option.map_eq_map] at hu hx
        by_cases hn : k = n
        · subst hn
          have hkk : k < kvs.length := by omega
          rw [List.getElem?_eq_getElem hkk] at hu
          rw [List.getElem?_eq_getElem hke] at hx
          simp only [if_true, Option.map_some, Option.some.injEq] at hu hx
          subst hu hx
          exact hv
        · simp only [hn, if_false, Option.map_id_fun', id] at hu hx
          exact hvs.get_both (j := n) (by rw [List.getElem?_map]; exact hu) (by rw [List.getElem?_map]; exact hx)
      · rw [hmod]
        apply List.ext_getElem?
        intro n
        have := congrArg (fun l : List Value => l[n]?) hks
        simp only [List.getElem?_map] at this
        rw [List.getElem?_map, List.getElem?_map, List.getElem?_modify, List.getElem?_modify]
        by_cases hn : k = n
        · subst hn
          cases h1 : kvs[k]? <;> cases h2 : es.toList[k]? <;> rw [h1, h2] at this <;> simp_all
        · simpa [hn] using this
    · cases h
  · cases h
theorem nc_written (hh : Holds ρ H w) {i b : Nat} {o o' : AObj} {x y : Obj} (ho : H.obj i = some o) (hb : ρ i = some b) (hw : w.heap[b]? = some x) (hx : ∀ cs t fr, x ≠ .cells cs t fr) (ho' : ∀ z es fz, o' ≠ .cells z es fz)
    (hok : Ext ρ H w ρ (H.set i o') { w with heap := w.heap.setIfInBounds b y } → ({ w with heap := w.heap.setIfInBounds b y } : World).heap[b]? = some y → ObjOk ρ (H.set i o') { w with heap := w.heap.setIfInBounds b y } i o') :
    Holds ρ (H.set i o') { w with heap := w.heap.setIfInBounds b y } ∧ Ext ρ H w ρ (H.set i o') { w with heap := w.heap.setIfInBounds b y } := by
  have hbl : b < w.heap.size := (Array.getElem?_eq_some_iff.1 hw).1
  have hset : ({ w with heap := w.heap.setIfInBounds b y } : World).heap[b]? = some y := by
    show (w.heap.setIfInBounds b y)[b]? = _
    rw [Array.getElem?_setIfInBounds, if_pos rfl, if_pos hbl]
  have hold : ∀ c, c ≠ b → ({ w with heap := w.heap.setIfInBounds b y } : World).heap[c]? = w.heap[c]? := fun c hc => by
    show (w.heap.setIfInBounds b y)[c]? = _
    rw [Array.getElem?_setIfInBounds, if_neg (Ne.symm hc)]
  have hil := hh.lt i _ ho
  have hext : Ext ρ H w ρ (H.set i o') { w with heap := w.heap.setIfInBounds b y } := {
    old := fun j c hj => (hh.bound j c hj).1
    agree := fun _ _ h => h
    new := fun _ _ h => .inl h
    live := fun j o hj _ => by
      simp only [AH.set] at hj
      split at hj
      · rename_i e; subst e; exact ⟨_, ho⟩
      · exact ⟨o, hj⟩
    nxt := Nat.le_refl _
    imm := fun a v hc hi => by
      have hne : a.block ≠ b := fun e => by
        unfold World.cell? at hc
        rw [e, hw] at hc
        cases x <;> simp at hc
        exact hx _ _ _ rfl
      refine ⟨by unfold World.cell? at hc ⊢; rw [hold _ hne]; exact hc, fun j z es fz hj hρ => ?_⟩
      simp only [AH.set] at hj
      split at hj
      · injection hj with hj; exact absurd hj (ho' _ _ _)
      · exact hi j z es fz hj hρ
    size := by simp
    rest := fun c hc hn => hold c fun e => hn i _ ho (by rw [hb, e])
    shape := fun c cs t fr hc => by
      have hne : c ≠ b := fun e => by rw [e, hw] at hc; injection hc with hc; exact hx _ _ _ hc
      exact ⟨cs, by rw [hold c hne]; exact hc, rfl⟩
    os := rfl
    tape := rfl
    output := rfl }
  refine ⟨?_, hext⟩
  constructor
  · intro j o hj
    simp only [AH.set] at hj
    split at hj
    · rename_i e
      subst e
      injection hj with hj
      subst hj
      exact hok hext hset
    · rename_i hne
      exact (hh.obj j o hj).ext hext (hh.lt j o hj) fun c hc => hold c fun e => hne (hh.inj j i c o _ hj ho hc (by rw [hb, e]))
  · intro j k c oj ok hj hk hbj hbk
    have live : ∀ {j o}, (H.set i o').obj j = some o → ∃ o1, H.obj j = some o1 := by
      intro j o h
      simp only [AH.set] at h
      split at h
      · rename_i e; subst e; exact ⟨_, ho⟩
      · exact ⟨o, h⟩
    obtain ⟨oj', hj'⟩ := live hj
    obtain ⟨ok', hk'⟩ := live hk
    exact hh.inj j k c oj' ok' hj' hk' hbj hbk
  · intro j o hj
    simp only [AH.set] at hj ⊢
    split at hj
    · rename_i e; subst e; exact hil
    · exact hh.lt j o hj
  · intro j c hj
    have := hh.bound j c hj
    simpa [AH.set] using this
def unseen (n : Nat) (seen : List Nat) : List Nat := (List.range n).filter fun j => !seen.contains j
def amrange (P : Program) (t : TypeId) (H : AH) (v : AV) : Option (Prop × AV × AH) :=
  match v with
  | .mp i =>
    match H.obj i with
    | some (.amap kvs) => some ((∃ k e, P.underlying t = some (.map k e)), .ptr H.nxt 1 0 0, H.add (.amit i kvs.length []))
    | _ => none
  | .lit (.map none) => some ((∃ k e, P.underlying t = some (.map k e)), .ptr H.nxt 1 0 0, H.add .anit)
  | _ => none
theorem made_range (hh : Holds ρ H w) {t : TypeId} {vx : AV} {x : Value} {φ : Prop} {r : AV} {H' : AH} (h : amrange P t H vx = some (φ, r, H')) (hφ : φ) (hx : Rep ρ H w vx x) : Made P ρ H w (Instr.range t x) r H' := by
  unfold amrange at h
  split at h
  · rename_i i
    split at h
    · rename_i kvs ho
      simp only [Option.some.injEq, Prod.mk.injEq] at h
      obtain ⟨rfl, rfl, rfl⟩ := h
      obtain ⟨k, e, hu⟩ := hφ
      simp only [Rep] at hx
      obtain ⟨b, hb, rfl⟩ := hx
      obtain ⟨b', es, clock, hb', hw, hborn, hvs, hks⟩ := hh.obj i _ ho
      rw [hb] at hb'
      injection hb' with hb'
      subst hb'
      have hcl : clock = kvs.length := by
        have e1 := congrArg List.length hborn
        have e2 := congrArg List.length hks
        simp only [List.length_map, List.length_range] at e1 e2
        omega
      subst hcl
      have hil := hh.lt i _ ho
      refine ⟨_, _, _, run_range_map w t k e b es _ hu hw, ?_, hh.alloc (.mapIter (some b) kvs.length #[] kvs.length) (.amit i kvs.length []) ?_, Ext.alloc hh (.mapIter (some b) kvs.length #[] kvs.length) (.amit i kvs.length [])⟩
      · simp only [Rep]
        exact ⟨_, upd_self _ _, rfl⟩
      · exact ⟨_, b, upd_self _ _, by unfold upd; rw [if_neg (by omega)]; exact hb, heap_push_new w _⟩
    · cases h
  · simp only [Option.some.injEq, Prod.mk.injEq] at h
    obtain ⟨rfl, rfl, rfl⟩ := h
    obtain ⟨k, e, hu⟩ := hφ
    simp only [Rep] at hx
    subst hx
    refine ⟨_, _, _, run_range_nilMap w t k e hu, ?_, hh.alloc (.mapIter none 0 #[] 0) .anit ?_, Ext.alloc hh (.mapIter none 0 #[] 0) .anit⟩
    · simp only [Rep]
      exact ⟨_, upd_self _ _, rfl⟩
    · exact ⟨_, upd_self _ _, heap_push_new w _⟩
  · cases h
def anexts (H : AH) (i m n : Nat) (seen : List Nat) (kvs : List (Value × AV)) : List (AV × AH) :=
  if unseen n seen = [] then [(.tup [.bool false], H)]
  else (unseen n seen).map fun j => (.tup [.bool true, .lit ((kvs[j]?.map (·.1)).getD undef), (kvs[j]?.map (·.2)).getD .any], H.set i (.amit m n (seen ++ [j])))
def anext (H : AH) (v : AV) : Option (Prop × List (AV × AH)) :=
  match v with
  | .ptr i z e c =>
    match H.obj i with
    | some .anit => some (z = 1 ∧ e = 0 ∧ c = 0, [(.tup [.bool false], H)])
    | some (.amit m n seen) =>
      match H.obj m with
      | some (.amap kvs) => some ((z = 1 ∧ e = 0 ∧ c = 0) ∧ kvs.length = n, anexts H i m n seen kvs)
      | _ => none
    | _ => none
  | _ => none
theorem anext_ok (hh : Holds ρ H w) {ty : TypeId} {vx : AV} {x : Value} {φ : Prop} {L : List (AV × AH)} (h : anext H vx = some (φ, L)) (hφ : φ) (hx : Rep ρ H w vx x) :
    ∃ o ∈ L, ∃ y w', (Instr.next x false ty).run P w = .ok y w' ∧ Rep ρ o.2 w' o.1 y ∧ Holds ρ o.2 w' ∧ Ext ρ H w ρ o.2 w' := by
  unfold anext at h
  split at h
  · rename_i i z e c
    split at h
    · rename_i ho
      simp only [Option.some.injEq, Prod.mk.injEq] at h
      obtain ⟨rfl, rfl⟩ := h
      obtain ⟨rfl, rfl, rfl⟩ := hφ
      simp only [Rep] at hx
      obtain ⟨b, hb, rfl⟩ := hx
      obtain ⟨b', hb', hw⟩ := hh.obj i _ ho
      rw [hb] at hb'
      injection hb' with hb'
      subst hb'
      refine ⟨_, .head _, .tuple #[.bool false], w, ?_, ?_, hh, Ext.refl hh⟩
      · simp only [Instr.next, getObj, Sem.run_bind, Sem.run, hw, Result.andThen]
        rfl
      · simp only [Rep, RepL]
        exact ⟨_, rfl, _, _, rfl, rfl, rfl⟩
    · rename_i m n seen ho
      split at h
      · rename_i kvs hm
        simp only [Option.some.injEq, Prod.mk.injEq] at h
        obtain ⟨rfl, rfl⟩ := h
        obtain ⟨⟨rfl, rfl, rfl⟩, hn⟩ := hφ
        simp only [Rep] at hx
        obtain ⟨b, hb, rfl⟩ := hx
        obtain ⟨b', bm, hb', hbm, hw⟩ := hh.obj i _ ho
        rw [hb] at hb'
        injection hb' with hb'
        subst hb'
        obtain ⟨bm', es, clock, hbm', hwm, hborn, hvs, hks⟩ := hh.obj m _ hm
        rw [hbm] at hbm'
        injection hbm' with hbm'
        subst hbm'
        have hl1 := congrArg List.length hborn
        have hl2 := congrArg List.length hks
        simp only [List.length_map, List.length_range] at hl1 hl2
        obtain rfl : clock = n := by omega
        have hbn : ∀ j (hj : j < es.toList.length), es.toList[j].born = j := fun j hj => by
          have := congrArg (fun l : List Nat => l[j]?) hborn
          simp only [List.getElem?_map] at this
          rw [List.getElem?_eq_getElem hj, List.getElem?_range (by omega)] at this
          simpa using this
        have hold : ∀ x ∈ es.toList, x.born < clock := fun x hx => by
          obtain ⟨j, hj, rfl⟩ := List.getElem_of_mem hx
          rw [hbn j hj]; omega
        have ht := next_test_false seen.toArray es clock clock hold (Nat.le_refl _)
        have hz : 0 * 1 + 0 = 0 := rfl
        simp only [Instr.next, getObj, Sem.run_bind, Sem.run, hw, hwm, Result.andThen, ht, Bool.false_eq_true, if_false, hz]
        have hmem : ∀ x ∈ (Array.filter (fun e => !seen.toArray.contains e.born) es).toList, x.born < clock := fun x hx => hold x (by simp at hx ⊢; exact hx.1)
        have hin : ∀ x ∈ (Array.filter (fun e => !seen.toArray.contains e.born) es).toList, ∃ j, j ∈ unseen clock seen ∧ es.toList[j]? = some x ∧ x.born = j := fun x hx => by
          simp only [Array.toList_filter, List.mem_filter] at hx
          obtain ⟨j, hj, rfl⟩ := List.getElem_of_mem hx.1
          refine ⟨j, ?_, List.getElem?_eq_getElem hj, hbn j hj⟩
          unfold unseen
          rw [List.mem_filter, List.mem_range]
          have h2 := hx.2
          rw [hbn j hj] at h2
          exact ⟨by omega, by simpa using h2⟩
        have hout : (Array.filter (fun e => !seen.toArray.contains e.born) es).size = 0 → unseen clock seen = [] := fun h0 => by
          rw [List.eq_nil_iff_forall_not_mem]
          intro j hj
          unfold unseen at hj
          rw [List.mem_filter, List.mem_range] at hj
          have hjl : j < es.toList.length := by omega
          have : es.toList[j] ∈ (Array.filter (fun e => !seen.toArray.contains e.born) es).toList := by
            simp only [Array.toList_filter, List.mem_filter]
            refine ⟨List.getElem_mem hjl, ?_⟩
            rw [hbn j hjl]
            simpa using hj.2
          have hnil : (Array.filter (fun e => !seen.toArray.contains e.born) es).toList = [] := List.eq_nil_of_length_eq_zero (by simpa using h0)
          rw [hnil] at this
          cases this
        generalize Array.filter (fun e => !seen.toArray.contains e.born) es = L at hmem hin hout ⊢
        have e1 : L.filter (fun x => decide (x.born < clock)) = L := Array.filter_eq_self.2 (fun x hx => by simpa using hmem x (by simpa using hx))
        have e2 : L.filter (fun x => decide (x.born ≥ clock)) = #[] := by
          rw [Array.filter_eq_empty_iff]
          intro x hx
          have := hmem x (by simpa using hx)
          simp
          omega
        simp only [e1, e2, Array.append_empty]
        by_cases h0 : L.size = 0
        · have hu := hout h0
          have hLe : L = #[] := Array.eq_empty_of_size_eq_zero h0
          subst hLe
          refine ⟨(.tup [.bool false], H), by rw [anexts, if_pos hu]; exact .head _, .tuple #[.bool false], w, ?_, ?_, hh, Ext.refl hh⟩
          · simp [choose, Sem.run, Question.forced]
          · simp only [Rep, RepL]
            exact ⟨_, rfl, _, _, rfl, rfl, rfl⟩
        · have hne : L.isEmpty = false := by simp [Array.isEmpty, h0]
          simp only [hne, Bool.false_eq_true, if_false, Array.empty_append, Array.size_map]
          have hch : ∃ (j : Nat) (w1 : World), j < L.size ∧ (w1.heap = w.heap ∧ w1.os = w.os ∧ w1.tape = w.tape ∧ w1.output = w.output) ∧ (choose (Question.mapNext L.size)).run P w = .ok j w1 := by
            by_cases hf : L.size ≤ 1
            · exact ⟨0, w, by omega, ⟨rfl, rfl, rfl, rfl⟩, by simp [choose, Sem.run, Question.forced, hf]⟩
            · exact ⟨_, w.drew, Nat.mod_lt _ (by omega), ⟨rfl, rfl, rfl, rfl⟩, by
                simp only [choose, Sem.run, Question.forced, decide_eq_true_eq, hf, if_false, Question.cut]
                rfl⟩
          obtain ⟨j, w1, hj, ⟨q1, q2, q3, q4⟩, hrun⟩ := hch
          obtain ⟨k, hk, hek, hbk⟩ := hin L[j] (by simp)
          have hh1 : Holds ρ H w1 := hh.heap q1 q2 q3 q4
          have he1 : Ext ρ H w ρ H w1 := Ext.heap hh q1 q2 q3 q4
          have hw1 : w1.heap[b]? = some (.mapIter (some bm) clock seen.toArray clock) := by rw [q1]; exact hw
          obtain ⟨hh2, he2⟩ := nc_written hh1 (o' := .amit m clock (seen ++ [k])) (y := .mapIter (some bm) clock (seen.toArray.push k) clock) ho hb hw1 (by simp) (by simp) (fun he hy => ⟨b, bm, hb, hbm, by rw [hy]; simp⟩)
          have hkl : k < kvs.length := by
            have := (List.getElem?_eq_some_iff.1 hek).1
            omega
          refine ⟨(.tup [.bool true, .lit ((kvs[k]?.map (·.1)).getD undef), (kvs[k]?.map (·.2)).getD .any], H.set i (.amit m clock (seen ++ [k]))), ?_, .tuple #[.bool true, L[j].key, L[j].val], _, ?_, ?_, hh2, he1.trans he2⟩
          · rw [anexts, if_neg (fun e => by rw [e] at hk; cases hk)]
            exact List.mem_map.2 ⟨k, hk, rfl⟩
          · simp only [hrun, Array.getElem?_map, Array.getElem?_eq_getElem hj, Option.map_some, Sem.run_bind, setObj, Sem.run, hw1, Result.andThen, hbk]
            rfl
          · have hkey : L[j].key = kvs[k].1 := by
              have := congrArg (fun l : List Value => l[k]?) hks
              simp only [List.getElem?_map] at this
              rw [hek, List.getElem?_eq_getElem hkl] at this
              simpa using this.symm
            have hval : Rep ρ H w kvs[k].2 L[j].val := hvs.get_both (j := k) (by rw [List.getElem?_map, List.getElem?_eq_getElem hkl]; rfl) (by rw [List.getElem?_map, hek]; rfl)
            rw [List.getElem?_eq_getElem hkl]
            simp only [Option.map_some, Option.getD_some, Rep, RepL]
            exact ⟨_, rfl, _, _, rfl, rfl, _, _, rfl, hkey, _, _, rfl, Rep.ext (he1.trans he2) _ _ hval, rfl⟩
      · cases h
    · cases h
  · cases h
def alast (H : AH) (v : AV) : Option (Prop × AV) :=
  match v with
  | .ptr i z e c =>
    match H.obj i with
    | some (.amit m n seen) =>
      match H.obj m, seen.getLast? with
      | some (.amap kvs), some j => (kvs[j]?).map fun p => ((z = 1 ∧ e = 0 ∧ c = 0) ∧ kvs.length = n, .tup [.lit p.1, p.2])
      | _, _ => none
    | _ => none
  | _ => none
theorem alast_ok (hh : Holds ρ H w) {vx : AV} {x : Value} {φ : Prop} {r : AV} (h : alast H vx = some (φ, r)) (hφ : φ) (hx : Rep ρ H w vx x) :
    ∃ y, (Instr.entry x).run P w = .ok y w ∧ Rep ρ H w r y := by
  unfold alast at h
  split at h
  · rename_i i z e c
    split at h
    · rename_i m n seen ho
      split at h
      · rename_i kvs j hm hlast
        simp only [Option.map_eq_some_iff, Prod.mk.injEq] at h
        obtain ⟨p, hp, rfl, rfl⟩ := h
        obtain ⟨⟨rfl, rfl, rfl⟩, hn⟩ := hφ
        simp only [Rep] at hx
        obtain ⟨b, hb, rfl⟩ := hx
        obtain ⟨b', bm, hb', hbm, hw⟩ := hh.obj i _ ho
        rw [hb] at hb'
        injection hb' with hb'
        subst hb'
        obtain ⟨bm', es, clock, hbm', hwm, hborn, hvs, hks⟩ := hh.obj m _ hm
        rw [hbm] at hbm'
        injection hbm' with hbm'
        subst hbm'
        have hl1 := congrArg List.length hborn
        have hl2 := congrArg List.length hks
        simp only [List.length_map, List.length_range] at hl1 hl2
        obtain rfl : clock = n := by omega
        have hjl : j < kvs.length := (List.getElem?_eq_some_iff.1 hp).1
        have hje : j < es.toList.length := by omega
        have hback : seen.toArray.back? = some j := by rw [List.back?_toArray]; exact hlast
        have hfind : es.find? (fun e => e.born == j) = some es.toList[j] := by
          rw [← Array.find?_toList]
          have h := find_born es.toList[j] es.toList (by rw [hborn]; exact List.nodup_range) (List.getElem_mem hje)
          have hbj : es.toList[j].born = j := by
            have := congrArg (fun l : List Nat => l[j]?) hborn
            simp only [List.getElem?_map] at this
            rw [List.getElem?_eq_getElem hje, List.getElem?_range (by omega)] at this
            simpa using this
          rw [hbj] at h
          exact h
        refine ⟨.tuple #[es.toList[j].key, es.toList[j].val], ?_, ?_⟩
        · have hz : 0 * 1 + 0 = 0 := rfl
          simp only [Instr.entry, getObj, Sem.run_bind, Sem.run, hw, hwm, Result.andThen, hz, hback, bne_self_eq_false, Bool.false_eq_true, if_false, hfind]
          rfl
        · have hkey : es.toList[j].key = p.1 := by
            have := congrArg (fun l : List Value => l[j]?) hks
            simp only [List.getElem?_map] at this
            rw [hp, List.getElem?_eq_getElem hje] at this
            simpa using this.symm
          have hval : Rep ρ H w p.2 es.toList[j].val := hvs.get_both (j := j) (by rw [List.getElem?_map, hp]; rfl) (by rw [List.getElem?_map, List.getElem?_eq_getElem hje]; rfl)
          simp only [Rep, RepL]
          exact ⟨_, rfl, _, _, rfl, hkey, _, _, rfl, hval, rfl⟩
      · cases h
    · cases h
  · cases h
end Go.Sim
