/- The operations that leave memory alone: loads, places, parts, slices, functions made; each told over abstract values, and that it is right. Conditions: none. -/
import Derived.Test.YtnoajklojkmonaaGreatSimB
import Derived.Great.FillDense
import Derived.Laws.Slices
set_option linter.unusedVariables false
set_option linter.unusedSimpArgs false
namespace Go.Sim

variable {P : Program} {ρ : Nat → Option Nat} {H : AH} {w : World}

/-! ### Types -/
def tload (P : Program) (t : TypeId) : Option (Nat × Bool) :=
  match P.info? t, P.underlying t with
  | some i, some d => some (i.size, descAgg (some d))
  | _, _ => none
theorem tload_ok {t : TypeId} {n : Nat} {g : Bool} (h : tload P t = some (n, g)) (w : World) :
    (sizeOf t).run P w = .ok n w ∧ (isAgg t).run P w = .ok g w ∧ ∃ i, P.info? t = some i ∧ i.size = n := by
  unfold tload at h
  split at h
  · rename_i i d hi hd
    simp only [Option.some.injEq, Prod.mk.injEq] at h
    obtain ⟨rfl, rfl⟩ := h
    refine ⟨by simp [sizeOf, typeInfo, hi], ?_, i, hi, rfl⟩
    simp only [isAgg, Sem.run_bind, run_underlying hd, Result.andThen_ok]
    cases d <;> simp [descAgg]
  · cases h

/-- A field's place, size, and whether it has parts. -/
def tfld (P : Program) (t : TypeId) (f : Nat) : Option (Nat × Nat × Bool) :=
  match P.underlying t with
  | some (.struct fs) => (fs[f]?).bind fun x => (tload P x.type).map fun (n, g) => (x.offset, n, g)
  | _ => none
theorem tfld_ok {t : TypeId} {f o n : Nat} {g : Bool} (h : tfld P t f = some (o, n, g)) :
    ∃ fs x, P.underlying t = some (.struct fs) ∧ fs[f]? = some x ∧ x.offset = o ∧ tload P x.type = some (n, g) := by
  unfold tfld at h
  split at h
  · rename_i fs hu
    simp only [Option.bind_eq_some_iff, Option.map_eq_some_iff, Prod.mk.injEq] at h
    obtain ⟨x, hx, ⟨n', g'⟩, hl, rfl, rfl, rfl⟩ := h
    exact ⟨fs, x, hu, hx, rfl, hl⟩
  · cases h

/-- A slice's elements: how many cells each has, and whether it has parts. -/
def tel (P : Program) (t : TypeId) : Option (Nat × Bool) :=
  match P.underlying t with
  | some (.slice e) => tload P e
  | _ => none
theorem tel_ok {t : TypeId} {n : Nat} {g : Bool} (h : tel P t = some (n, g)) : ∃ e, P.underlying t = some (.slice e) ∧ tload P e = some (n, g) := by
  unfold tel at h
  split at h
  · rename_i e hu; exact ⟨e, hu, h⟩
  · cases h
/-- An array: how many, of how many cells each, and whether these have parts. -/
def tarr (P : Program) (t : TypeId) : Option (Nat × Nat × Bool) :=
  match P.underlying t with
  | some (.array n e) => (tload P e).map fun (z, g) => (n, z, g)
  | _ => none
theorem tarr_ok {t : TypeId} {n z : Nat} {g : Bool} (h : tarr P t = some (n, z, g)) : ∃ e, P.underlying t = some (.array n e) ∧ tload P e = some (z, g) := by
  unfold tarr at h
  split at h
  · rename_i m e hu
    simp only [Option.map_eq_some_iff, Prod.mk.injEq] at h
    obtain ⟨⟨z', g'⟩, hl, rfl, rfl, rfl⟩ := h
    exact ⟨e, hu, hl⟩
  · cases h

/-! ### Cells -/
def AV.one : AV → Bool
  | .lit v => v.oneCell'
  | .agg _ | .tup _ | .gv _ _ | .any => false
  | _ => true
def acells : AV → List AV
  | .agg cs => cs
  | v => [v]
theorem one_ok {v : AV} {x : Value} (h : v.one = true) (hr : Rep ρ H w v x) : x.oneCell' = true := by
  cases v <;> simp only [AV.one, Bool.false_eq_true] at h <;> simp only [Rep] at hr
  case lit v => subst hr; exact h
  case sl es => obtain ⟨A, cap, rfl, _⟩ := hr; rfl
  case esl => obtain ⟨A, rfl⟩ := hr; rfl
  case rsl => rcases hr with ⟨b, cap, _, _, _, _, rfl, _⟩ | ⟨_, _, A, rfl⟩ <;> rfl
  case ptr => obtain ⟨b, _, rfl⟩ := hr; rfl
  case iptr => obtain ⟨a, xs, rfl, _⟩ := hr; rfl
  case clo => obtain ⟨fs, ks, rfl, _⟩ := hr; rfl
  case mp => obtain ⟨b, _, rfl⟩ := hr; rfl
theorem cells_of_one {x : Value} (h : x.oneCell' = true) : x.cells = #[x] := by cases x <;> first | rfl | cases h
/-- A value that has parts, or is one cell. -/
def AV.fit : AV → Bool
  | .agg _ => true
  | v => v.one
theorem acells_ok {v : AV} {x : Value} (h : v.fit = true) (hr : Rep ρ H w v x) : RepL ρ H w (acells v) x.cells.toList := by
  cases v with
  | agg cs => simp only [Rep] at hr; obtain ⟨xs, rfl, hr⟩ := hr; simpa [Value.cells, acells] using hr
  | lit v => rw [cells_of_one (one_ok (v := .lit v) h hr)]; exact RepL.single hr
  | tup v => cases h
  | sl es => rw [cells_of_one (one_ok (v := .sl es) rfl hr)]; exact RepL.single hr
  | esl => rw [cells_of_one (one_ok (v := .esl) rfl hr)]; exact RepL.single hr
  | rsl i z o l => rw [cells_of_one (one_ok (v := .rsl i z o l) rfl hr)]; exact RepL.single hr
  | ptr i z e c => rw [cells_of_one (one_ok (v := .ptr i z e c) rfl hr)]; exact RepL.single hr
  | iptr cs => rw [cells_of_one (one_ok (v := .iptr cs) rfl hr)]; exact RepL.single hr
  | clo f a b => rw [cells_of_one (one_ok (v := .clo f a b) rfl hr)]; exact RepL.single hr
  | mp i => rw [cells_of_one (one_ok (v := .mp i) rfl hr)]; exact RepL.single hr
  | gv g v => cases h
  | any => cases h

/-- A part of cells, as a value. -/
def apart (cs : List AV) (o n : Nat) (g : Bool) : AV := if g then .agg ((cs.drop o).take n) else cs.getD o .any

theorem apart_ok {cs : List AV} {xs : List Value} (h : RepL ρ H w cs xs) {o n : Nat} {g : Bool} {t : TypeId} (ht : tload P t = some (n, g)) (hn : o + n ≤ cs.length) (h1 : g = false → o < cs.length) :
    ∃ x, (part t xs.toArray o).run P w = .ok x w ∧ Rep ρ H w (apart cs o n g) x := by
  obtain ⟨hs, ha, _⟩ := tload_ok ht w
  cases g with
  | true =>
    refine ⟨.agg (xs.toArray.extract o (o + n)), by simp [part, ha, hs], ?_⟩
    simp only [apart, if_true, Rep]
    refine ⟨(xs.drop o).take n, ?_, (h.drop o).take n⟩
    congr 1
    apply Array.ext'
    simp
  | false =>
    have hlt := h1 rfl
    have hv : cs[o]? = some cs[o] := List.getElem?_eq_getElem hlt
    obtain ⟨x, hx, hr⟩ := h.get hv
    refine ⟨x, by simp [part, ha, hx], ?_⟩
    simp only [apart, Bool.false_eq_true, if_false, List.getD_eq_getElem?_getD, hv, Option.getD_some]
    exact hr

/-! ### Loads -/
def aload (P : Program) (t : TypeId) (H : AH) : AV → Option (Prop × AV)
  | .ptr i z e c =>
    match H.obj i, tload P t with
    | some (.cells z' es _), some (n, g) => some (z' = z ∧ e < es.length ∧ c + (if g then n else 1) ≤ z, apart (es.getD e []) c n g)
    | _, _ => none
  | .iptr cs =>
    match tload P t with
    | some (n, g) => some ((if g then n else 1) ≤ cs.length, apart cs 0 n g)
    | none => none
  | _ => none

theorem load_cells {a : Addr} {cs : List AV} {xs : List Value} {t : TypeId} {n : Nat} {g : Bool} (ht : tload P t = some (n, g)) (hr : RepL ρ H w cs xs) (c : Nat)
    (hc : ∀ (j : Nat) v, xs[j]? = some v → w.cell? (a.add j) = some v) (hn : c + (if g then n else 1) ≤ cs.length) :
    ∃ x, (Instr.loadAt t (.pointer (some (a.add c)))).run P w = .ok x w ∧ Rep ρ H w (apart cs c n g) x := by
  obtain ⟨hs, ha, _⟩ := tload_ok ht w
  cases g with
  | true =>
    simp only [if_true] at hn
    have hl : ((xs.drop c).take n).length = n := by simp [hr.length]; omega
    have hload := run_loadCells_list (P := P) w (a.add c) ((xs.drop c).take n) (fun j v hv => by
      rw [add_add]
      refine hc _ _ ?_
      rw [List.getElem?_take] at hv
      split at hv
      · rwa [List.getElem?_drop] at hv
      · cases hv)
    rw [hl] at hload
    refine ⟨.agg ((xs.drop c).take n).toArray, by simp [Instr.loadAt, Instr.sureAddr, loadVar, ha, hs, hload], ?_⟩
    simp only [apart, if_true, Rep]
    exact ⟨_, rfl, (hr.drop c).take n⟩
  | false =>
    simp only [Bool.false_eq_true, if_false] at hn
    have hlt : c < cs.length := by omega
    have hv : cs[c]? = some cs[c] := List.getElem?_eq_getElem hlt
    obtain ⟨x, hx, hr'⟩ := hr.get hv
    refine ⟨x, by simp [Instr.loadAt, Instr.sureAddr, loadVar, ha, hc _ _ hx], ?_⟩
    simp only [apart, Bool.false_eq_true, if_false, List.getD_eq_getElem?_getD, hv, Option.getD_some]
    exact hr'

theorem aload_ok {t : TypeId} {v : AV} {x : Value} {φ : Prop} {r : AV} (hh : Holds ρ H w) (h : aload P t H v = some (φ, r)) (hφ : φ) (hr : Rep ρ H w v x) :
    ∃ y, (Instr.loadAt t x).run P w = .ok y w ∧ Rep ρ H w r y := by
  unfold aload at h
  split at h
  · rename_i i z e c
    split at h
    · rename_i z' es fz n g ho ht
      simp only [Option.some.injEq, Prod.mk.injEq] at h
      obtain ⟨rfl, rfl⟩ := h
      obtain ⟨rfl, h1, h2⟩ := hφ
      simp only [Rep] at hr
      obtain ⟨b, hb, rfl⟩ := hr
      have he : es[e]? = some es[e] := List.getElem?_eq_getElem h1
      obtain ⟨xs, hr, hz, hc⟩ := hh.elem ho hb he
      have hg : es.getD e [] = es[e] := by simp [List.getD_eq_getElem?_getD, he]
      rw [hg]
      have key := load_cells (a := ⟨b, e * z' + 0, none⟩) ht hr c (fun j v hv => by rw [add_flat]; exact (hc j v hv).1) (by omega)
      rwa [add_flat, Nat.add_zero] at key
    · cases h
  · rename_i cs
    split at h
    · rename_i n g ht
      simp only [Option.some.injEq, Prod.mk.injEq] at h
      obtain ⟨rfl, rfl⟩ := h
      simp only [Rep] at hr
      obtain ⟨a, xs, rfl, hr, hc⟩ := hr
      have key := load_cells (a := a) ht hr 0 (fun j v hv => (hc j v hv).1) (by omega)
      rwa [add_zero] at key
    · cases h
  · cases h

/-! ### Places -/
def afaddr (P : Program) (t : TypeId) (f : Nat) : AV → Option (Prop × AV)
  | .ptr i z e c => (tfld P t f).map fun (o, n, _) => (n ≠ 0, .ptr i z e (c + o))
  | .iptr cs => (tfld P t f).map fun (o, n, _) => (n ≠ 0, .iptr (cs.drop o))
  | _ => none

theorem run_fieldAt {t : TypeId} {f o n : Nat} {g : Bool} (h : tfld P t f = some (o, n, g)) (hn : n ≠ 0) (a : Addr) (w : World) :
    (Instr.fieldAt t (.pointer (some a)) f).run P w = .ok (.pointer (some (a.add o))) w := by
  obtain ⟨fs, x, hu, hx, rfl, hl⟩ := tfld_ok h
  obtain ⟨hs, _, _⟩ := tload_ok hl w
  simp [Instr.fieldAt, run_underlying hu, hx, Instr.sureAddr, fieldPlace, hs, hn]

theorem afaddr_ok {t : TypeId} {f : Nat} {v : AV} {x : Value} {φ : Prop} {r : AV} (h : afaddr P t f v = some (φ, r)) (hφ : φ) (hr : Rep ρ H w v x) :
    ∃ y, (Instr.fieldAt t x f).run P w = .ok y w ∧ Rep ρ H w r y := by
  unfold afaddr at h
  split at h
  · rename_i i z e c
    simp only [Option.map_eq_some_iff, Prod.mk.injEq] at h
    obtain ⟨⟨o, n, g⟩, h1, rfl, rfl⟩ := h
    simp only [Rep] at hr
    obtain ⟨b, hb, rfl⟩ := hr
    refine ⟨_, run_fieldAt h1 hφ _ w, ?_⟩
    simp only [Rep]
    exact ⟨b, hb, by rw [add_flat, Nat.add_assoc]⟩
  · rename_i cs
    simp only [Option.map_eq_some_iff, Prod.mk.injEq] at h
    obtain ⟨⟨o, n, g⟩, h1, rfl, rfl⟩ := h
    simp only [Rep] at hr
    obtain ⟨a, xs, rfl, hr, hc⟩ := hr
    refine ⟨_, run_fieldAt h1 hφ _ w, ?_⟩
    simp only [Rep]
    exact ⟨_, _, rfl, hr.drop o, hc.drop o⟩
  · cases h

def aiaddr (P : Program) (t : TypeId) (x i : AV) : Option (Prop × AV) :=
  match x, i with
  | .sl es, .lit (.int _ n) => (tel P t).map fun (z, _) => (0 ≤ n ∧ n < es.length ∧ (es.getD n.toNat []).length = z, .iptr (es.getD n.toNat []))
  | .rsl j z o l, .lit (.int _ n) => (tel P t).map fun (z', _) => (0 ≤ n ∧ n < l ∧ z' = z, .ptr j z (o + n.toNat) 0)
  | .ptr j z e c, .lit (.int _ n) => (tarr P t).map fun (m, z', _) => (0 ≤ n ∧ n < m, .ptr j z e (c + n.toNat * z'))
  | .iptr cs, .lit (.int _ n) => (tarr P t).map fun (m, z', _) => (0 ≤ n ∧ n < m, .iptr (cs.drop (n.toNat * z')))
  | _, _ => none

theorem run_indexAt_sl {t : TypeId} {z : Nat} {g : Bool} (ht : tel P t = some (z, g)) (a : Addr) (len cap : Nat) (k : IntKind) (n : Int) (h0 : 0 ≤ n) (h1 : n < len) (w : World) :
    (Instr.indexAt t (.slice (some a) len cap) (.int k n)).run P w = .ok (.pointer (some (a.add (n.toNat * z)))) w := by
  obtain ⟨e, hu, hl⟩ := tel_ok ht
  obtain ⟨hs, _, _⟩ := tload_ok hl w
  simp [Instr.indexAt, asIntOf, run_underlying hu, hs, h0, h1]

theorem run_indexAt_arr {t : TypeId} {m z : Nat} {g : Bool} (ht : tarr P t = some (m, z, g)) (a : Addr) (k : IntKind) (n : Int) (h0 : 0 ≤ n) (h1 : n < m) (w : World) :
    (Instr.indexAt t (.pointer (some a)) (.int k n)).run P w = .ok (.pointer (some (a.add (n.toNat * z)))) w := by
  obtain ⟨e, hu, hl⟩ := tarr_ok ht
  obtain ⟨hs, _, _⟩ := tload_ok hl w
  simp [Instr.indexAt, asIntOf, run_underlying hu, hs, h0, h1, Instr.sureAddr]

theorem aiaddr_ok {t : TypeId} {vx vi : AV} {x i : Value} {φ : Prop} {r : AV} (h : aiaddr P t vx vi = some (φ, r)) (hφ : φ) (hx : Rep ρ H w vx x) (hi : Rep ρ H w vi i) :
    ∃ y, (Instr.indexAt t x i).run P w = .ok y w ∧ Rep ρ H w r y := by
  unfold aiaddr at h
  split at h <;> simp only [Option.map_eq_some_iff, Prod.mk.injEq, reduceCtorEq] at h
  · rename_i es k n
    obtain ⟨⟨z, g⟩, ht, rfl, rfl⟩ := h
    obtain ⟨h0, h1, hz⟩ := hφ
    simp only [Rep] at hx hi
    subst hi
    obtain ⟨A, cap, rfl, h2, h3, h4⟩ := hx
    obtain ⟨a, z', xss, rfl, h5, h6, h7⟩ := h4 (by intro he; subst he; simp at h1; omega)
    have hlt : n.toNat < es.length := by omega
    have he : es[n.toNat]? = some es[n.toNat] := List.getElem?_eq_getElem hlt
    have hg : es.getD n.toNat [] = es[n.toNat] := by simp [List.getD_eq_getElem?_getD, he]
    rw [hg] at hz ⊢
    have hz2 : es[n.toNat].length = z := hz
    have : z' = z := by rw [← hz2]; exact (h5 _ (List.getElem_mem hlt)).symm
    subst this
    refine ⟨_, run_indexAt_sl ht a _ cap k n h0 h1 w, ?_⟩
    obtain ⟨xs, hxs, hr⟩ := h6.get he
    simp only [Rep]
    exact ⟨_, xs, rfl, hr, h7 _ _ hxs⟩
  · rename_i j z o l k n
    obtain ⟨⟨z', g⟩, ht, rfl, rfl⟩ := h
    obtain ⟨h0, h1, rfl⟩ := hφ
    simp only [Rep] at hx hi
    subst hi
    rcases hx with ⟨b, cap, ccs, t', fr, hb, rfl, h2, h3, h4, h5⟩ | ⟨rfl, _⟩
    · refine ⟨_, run_indexAt_sl ht _ _ cap k n h0 h1 w, ?_⟩
      simp only [Rep]
      exact ⟨b, hb, by rw [add_flat, Nat.add_mul, Nat.add_zero]⟩
    · omega
  · rename_i j z e c k n
    obtain ⟨⟨m, z', g⟩, ht, rfl, rfl⟩ := h
    obtain ⟨h0, h1⟩ := hφ
    simp only [Rep] at hx hi
    subst hi
    obtain ⟨b, hb, rfl⟩ := hx
    refine ⟨_, run_indexAt_arr ht _ k n h0 h1 w, ?_⟩
    simp only [Rep]
    exact ⟨b, hb, by rw [add_flat, Nat.add_assoc]⟩
  · rename_i cs k n
    obtain ⟨⟨m, z', g⟩, ht, rfl, rfl⟩ := h
    obtain ⟨h0, h1⟩ := hφ
    simp only [Rep] at hx hi
    subst hi
    obtain ⟨a, xs, rfl, hr, hc⟩ := hx
    refine ⟨_, run_indexAt_arr ht _ k n h0 h1 w, ?_⟩
    simp only [Rep]
    exact ⟨_, _, rfl, hr.drop _, hc.drop _⟩

/-! ### Parts of values -/
def afield (P : Program) (t : TypeId) (f : Nat) : AV → Option (Prop × AV)
  | .agg cs => (tfld P t f).map fun (o, n, g) => (o + (if g then n else 1) ≤ cs.length ∧ o + n ≤ cs.length, apart cs o n g)
  | _ => none
theorem afield_ok {t : TypeId} {f : Nat} {v : AV} {x : Value} {φ : Prop} {r : AV} (h : afield P t f v = some (φ, r)) (hφ : φ) (hr : Rep ρ H w v x) :
    ∃ y, (Instr.field t x f).run P w = .ok y w ∧ Rep ρ H w r y := by
  unfold afield at h
  split at h
  · rename_i cs
    simp only [Option.map_eq_some_iff, Prod.mk.injEq] at h
    obtain ⟨⟨o, n, g⟩, h1, rfl, rfl⟩ := h
    simp only [Rep] at hr
    obtain ⟨xs, rfl, hr⟩ := hr
    obtain ⟨fs, x, hu, hx, rfl, hl⟩ := tfld_ok h1
    obtain ⟨y, hy, hry⟩ := apart_ok (P := P) hr hl hφ.2 (fun hg => by subst hg; simp at hφ; omega)
    exact ⟨y, by simp [Instr.field, run_underlying hu, hx, asAgg, hy], hry⟩
  · cases h

def aindex (P : Program) (t : TypeId) (x i : AV) : Option (Prop × AV) :=
  match x, i with
  | .agg cs, .lit (.int _ n) => (tarr P t).map fun (m, z, g) => (0 ≤ n ∧ n < m ∧ (g = false → z = 1) ∧ n.toNat * z + z ≤ cs.length, apart cs (n.toNat * z) z g)
  | .lit (.string s), .lit (.int _ n) => some (P.underlying t = some .string ∧ 0 ≤ n ∧ n < s.size, .lit (.int .u8 ((s[n.toNat]?.getD 0).toNat : Int)))
  | _, _ => none
theorem aindex_ok {t : TypeId} {vx vi : AV} {x i : Value} {φ : Prop} {r : AV} (h : aindex P t vx vi = some (φ, r)) (hφ : φ) (hx : Rep ρ H w vx x) (hi : Rep ρ H w vi i) :
    ∃ y, (Instr.index t x i).run P w = .ok y w ∧ Rep ρ H w r y := by
  unfold aindex at h
  split at h
  · rename_i cs k n
    simp only [Option.map_eq_some_iff, Prod.mk.injEq] at h
    obtain ⟨⟨m, z, g⟩, h1, rfl, rfl⟩ := h
    obtain ⟨h0, h2, h3, h4⟩ := hφ
    simp only [Rep] at hx hi
    subst hi
    obtain ⟨xs, rfl, hr⟩ := hx
    obtain ⟨e, hu, hl⟩ := tarr_ok h1
    obtain ⟨hs, _, _⟩ := tload_ok hl w
    have h4' : n.toNat * z + z ≤ cs.length := h4
    obtain ⟨y, hy, hry⟩ := apart_ok (P := P) hr hl h4' (fun hg => by have h3' : z = 1 := h3 hg; omega)
    exact ⟨y, by simp [Instr.index, asIntOf, run_underlying hu, h0, h2, hs, hy], hry⟩
  · rename_i s k n
    simp only [Option.some.injEq, Prod.mk.injEq] at h
    obtain ⟨rfl, rfl⟩ := h
    obtain ⟨hu, h0, h1⟩ := hφ
    simp only [Rep] at hx hi
    subst hx hi
    have hlt : n.toNat < s.size := by omega
    have he : s[n.toNat]? = some s[n.toNat] := getElem?_pos s n.toNat hlt
    refine ⟨.int .u8 ((s[n.toNat]).toNat : Int), by simp [Instr.index, asIntOf, run_underlying hu, h0, he], ?_⟩
    simp only [Rep, he, Option.getD_some]
  · cases h

def aextract (n : Nat) : AV → Option (Prop × AV)
  | .tup vs => some (n < vs.length, vs.getD n .any)
  | _ => none
theorem aextract_ok {n : Nat} {v : AV} {x : Value} {φ : Prop} {r : AV} (h : aextract n v = some (φ, r)) (hφ : φ) (hr : Rep ρ H w v x) :
    ∃ y, (Instr.extract x n).run P w = .ok y w ∧ Rep ρ H w r y := by
  unfold aextract at h
  split at h
  · rename_i vs
    simp only [Option.some.injEq, Prod.mk.injEq] at h
    obtain ⟨rfl, rfl⟩ := h
    simp only [Rep] at hr
    obtain ⟨xs, rfl, hr⟩ := hr
    have hv : vs[n]? = some vs[n] := List.getElem?_eq_getElem hφ
    obtain ⟨y, hy, hry⟩ := hr.get hv
    refine ⟨y, by simp [Instr.extract, hy], ?_⟩
    simpa [List.getD_eq_getElem?_getD, hv] using hry
  · cases h

def aun (op : UnOp) : AV → Option (Prop × AV)
  | .lit (.bool b) => match op with | .not => some (True, .bool (!b)) | _ => none
  | .lit (.int k n) => match op with | .neg => some (True, .lit (.int k (k.wrap (0 - n)))) | _ => none
  | _ => none
theorem aun_ok {op : UnOp} {v : AV} {x : Value} {φ : Prop} {r : AV} (h : aun op v = some (φ, r)) (hr : Rep ρ H w v x) :
    ∃ y, (Op.unary op x).run P w = .ok y w ∧ Rep ρ H w r y := by
  unfold aun at h
  split at h
  · rename_i b
    simp only [Rep] at hr
    subst hr
    cases op <;> simp only [Option.some.injEq, Prod.mk.injEq, reduceCtorEq] at h
    obtain ⟨rfl, rfl⟩ := h
    exact ⟨.bool (!b), by simp only [Op.unary, Sem.run_pure], by simp only [Rep]⟩
  · rename_i k n
    simp only [Rep] at hr
    subst hr
    cases op <;> simp only [Option.some.injEq, Prod.mk.injEq, reduceCtorEq] at h
    obtain ⟨rfl, rfl⟩ := h
    exact ⟨.int k (k.wrap (0 - n)), by simp only [Op.unary, Op.intArith, Sem.run_pure], by simp only [Rep]⟩
  · cases h

def pickv (p : Bool) (a b : AV) : AV :=
  match a, b with
  | .lit (.bool x), .lit (.bool y) => .bool (if p then x else y)
  | a, b => if p then a else b
theorem rep_pickv {p : Bool} {va vb : AV} {a b : Value} (ha : p = true → Rep ρ H w va a) (hb : p = false → Rep ρ H w vb b) : Rep ρ H w (pickv p va vb) (if p then a else b) := by
  have key : Rep ρ H w (if p then va else vb) (if p then a else b) := by
    cases p
    · simpa using hb rfl
    · simpa using ha rfl
  unfold pickv
  split
  · cases p
    · simpa [Rep] using hb rfl
    · simpa [Rep] using ha rfl
  · exact key
def apick (T : Tm) (c a b : Operand) : Option (Prop × AV) :=
  match (ev T c).core with
  | .lit (.bool p) => some ((p = true → (ev T a).grd = true) ∧ (p = false → (ev T b).grd = true), pickv p (ev T a).core (ev T b).core)
  | _ => none

/-! ### A slice's slice -/
/-- A bound that is a number. -/
def abound : Option AV → Option (Option Int)
  | none => some none
  | some (.lit (.int _ n)) => some (some n)
  | _ => none
def aslice (P : Program) (t : TypeId) (x : AV) (lo hi mx : Option AV) : Option (Prop × AV) :=
  match x, abound lo, abound hi, abound mx with
  | .sl es, some l, some h, some none =>
    (tel P t).map fun (z, _) => (0 ≤ l.getD 0 ∧ l.getD 0 ≤ h.getD es.length ∧ h.getD es.length ≤ es.length ∧ ∀ e ∈ es, e.length = z, .sl ((es.take (h.getD es.length).toNat).drop (l.getD 0).toNat))
  | .rsl j z o n, some l, some h, some none =>
    (tel P t).map fun (z', _) => (z' = z ∧ 0 ≤ l.getD 0 ∧ l.getD 0 ≤ h.getD n ∧ h.getD n ≤ n, .rsl j z (o + (l.getD 0).toNat) ((h.getD n).toNat - (l.getD 0).toNat))
  | .lit (.string s), some l, some h, some none =>
    some (P.underlying t = some .string ∧ 0 ≤ l.getD 0 ∧ l.getD 0 ≤ h.getD s.size ∧ h.getD s.size ≤ s.size, .lit (.string (s.extract (l.getD 0).toNat (h.getD s.size).toNat)))
  | _, _, _, _ => none

theorem abound_ok {v : Option AV} {x : Option Value} {n : Option Int} (h : abound v = some n) (hv : v.isSome = x.isSome) (hr : ∀ u y, v = some u → x = some y → Rep ρ H w u y) :
    (n = none ∧ x = none) ∨ ∃ k m, n = some m ∧ x = some (.int k m) := by
  unfold abound at h
  split at h
  · simp only [Option.some.injEq] at h
    cases x with
    | none => exact .inl ⟨h.symm, rfl⟩
    | some y => simp at hv
  · rename_i k m
    simp only [Option.some.injEq] at h
    cases x with
    | none => simp at hv
    | some y =>
      have := hr _ y rfl rfl
      simp only [Rep] at this
      subst this
      exact .inr ⟨k, m, h.symm, rfl⟩
  · cases h

theorem run_bounds {isS : Bool} {len cap : Nat} {lo hi : Option Value} {l h : Option Int} (hl : (l = none ∧ lo = none) ∨ ∃ k m, l = some m ∧ lo = some (.int k m)) (hh : (h = none ∧ hi = none) ∨ ∃ k m, h = some m ∧ hi = some (.int k m))
    (h0 : 0 ≤ l.getD 0) (h1 : l.getD 0 ≤ h.getD len) (h2 : h.getD len ≤ cap) (w : World) :
    (Instr.sliceBounds isS len cap lo hi none).run P w = .ok ((l.getD 0).toNat, (h.getD len).toNat, cap) w := by
  rcases hl with ⟨rfl, rfl⟩ | ⟨kl, m, rfl, rfl⟩ <;> rcases hh with ⟨rfl, rfl⟩ | ⟨kh, m', rfl, rfl⟩ <;> simp only [Option.getD_none, Option.getD_some] at h0 h1 h2 ⊢
  · simp [Instr.sliceBounds]
  · have : (0 : Int) ≤ m' := by omega
    simp [Instr.sliceBounds, Instr.sliceBound, asIntOf, this, h2]
  · simp [Instr.sliceBounds, Instr.sliceBound, asIntOf, h0, h1]
  · have : (0 : Int) ≤ m' := by omega
    obtain ⟨a, rfl⟩ := Int.eq_ofNat_of_zero_le this
    obtain ⟨b, rfl⟩ := Int.eq_ofNat_of_zero_le h0
    have h3 : b ≤ a := by omega
    have h4 : a ≤ cap := by omega
    simp [Instr.sliceBounds, Instr.sliceBound, asIntOf, h3, h4]

theorem aslice_ok {t : TypeId} {vx : AV} {x : Value} {vl vh vm : Option AV} {lo hi mx : Option Value} {φ : Prop} {r : AV} (hH : Holds ρ H w) (h : aslice P t vx vl vh vm = some (φ, r)) (hφ : φ) (hx : Rep ρ H w vx x)
    (hl : vl.isSome = lo.isSome) (hl' : ∀ u y, vl = some u → lo = some y → Rep ρ H w u y) (hh : vh.isSome = hi.isSome) (hh' : ∀ u y, vh = some u → hi = some y → Rep ρ H w u y)
    (hm : vm.isSome = mx.isSome) (hm' : ∀ u y, vm = some u → mx = some y → Rep ρ H w u y) :
    ∃ y, (Instr.sliceAt t x lo hi mx).run P w = .ok y w ∧ Rep ρ H w r y := by
  unfold aslice at h
  split at h
  · rename_i es l h' bl bh bm
    have bl' := abound_ok bl hl hl'
    have bh' := abound_ok bh hh hh'
    have bm' := abound_ok bm hm hm'
    simp only [Option.map_eq_some_iff, Prod.mk.injEq] at h
    obtain ⟨⟨z, g⟩, ht, rfl, rfl⟩ := h
    obtain ⟨h0, h1, h2, hz⟩ := hφ
    simp only [Rep] at hx
    obtain ⟨A, cap, rfl, h3, h4, h5⟩ := hx
    obtain ⟨e, hu, hld⟩ := tel_ok ht
    obtain ⟨hs, _, _⟩ := tload_ok hld w
    rcases bm' with ⟨_, rfl⟩ | ⟨_, _, hc, _⟩
    · have hb := run_bounds (P := P) (isS := true) (len := es.length) (cap := cap) bl' bh' h0 h1 (by omega) w
      have hz2 : ∀ e ∈ es, e.length = z := hz
      clear hz
      generalize hL : (l.getD 0).toNat = L at *
      generalize hR : (h'.getD (es.length : Int)).toNat = R at *
      have hLR : L ≤ R := by omega
      have hRe : R ≤ es.length := by omega
      have hlen : ((es.take R).drop L).length = R - L := by simp; omega
      refine ⟨_, by simp only [Instr.sliceAt, Sem.run_bind, run_underlying hu, Result.andThen_ok, Instr.slice, hb, hs, Sem.run_pure]; rfl, ?_⟩
      simp only [Rep, hlen]
      refine ⟨_, _, rfl, by omega, by omega, fun hne => ?_⟩
      have hlt : L < R := by
        rcases Nat.lt_or_ge L R with h | h
        · exact h
        · exact absurd (List.eq_nil_of_length_eq_zero (by rw [hlen]; omega)) hne
      obtain ⟨a, z', xss, rfl, h6, h7, h8⟩ := h5 (by intro he; subst he; simp at hRe; omega)
      have hzz : z' = z := by
        have hm : es[0]'(by omega) ∈ es := List.getElem_mem _
        rw [← h6 _ hm, hz2 _ hm]
      subst hzz
      rw [if_neg (by omega)]
      refine ⟨_, z', (xss.take R).drop L, rfl, fun e he => h6 e (List.mem_of_mem_take (List.mem_of_mem_drop he)), (h7.take R).drop L, fun j xs hj => ?_⟩
      rw [List.getElem?_drop, List.getElem?_take] at hj
      split at hj
      · rw [add_add, ← Nat.add_mul]
        exact h8 _ _ hj
      · cases hj
    · cases hc
  · rename_i j z o n l h' bl bh bm
    have bl' := abound_ok bl hl hl'
    have bh' := abound_ok bh hh hh'
    have bm' := abound_ok bm hm hm'
    simp only [Option.map_eq_some_iff, Prod.mk.injEq] at h
    obtain ⟨⟨z', g⟩, ht, rfl, rfl⟩ := h
    obtain ⟨rfl, h0, h1, h2⟩ := hφ
    simp only [Rep] at hx
    obtain ⟨e, hu, hld⟩ := tel_ok ht
    obtain ⟨hs, _, _⟩ := tload_ok hld w
    rcases bm' with ⟨_, rfl⟩ | ⟨_, _, hc, _⟩
    · rcases hx with ⟨b, cap, ccs, t', fr, hb, rfl, h3, h4, h5, h6⟩ | ⟨rfl, hjn, A, rfl⟩
      · have hbd := run_bounds (P := P) (isS := true) (len := n) (cap := cap) bl' bh' h0 h1 (by omega) w
        generalize hL : (l.getD 0).toNat = L at *
        generalize hR : (h'.getD (n : Int)).toNat = R at *
        have hLR : L ≤ R := by omega
        have hRe : R ≤ n := by omega
        refine ⟨_, by simp only [Instr.sliceAt, Sem.run_bind, run_underlying hu, Result.andThen_ok, Instr.slice, hbd, hs, Sem.run_pure]; rfl, ?_⟩
        simp only [Rep]
        by_cases hc : cap = L
        · refine .inr ⟨by omega, (hH.bound _ _ hb).1, ⟨some ⟨b, o * z', none⟩, ?_⟩⟩
          rw [if_pos hc, show R - L = 0 by omega, show cap - L = 0 by omega]
        · refine .inl ⟨b, cap - L, ccs, t', fr, hb, ?_, by omega, by omega, h5, ?_⟩
          · rw [if_neg hc]
            simp only [Option.map_some, add_flat]
            rw [Nat.add_mul]
          · have : o + L + (cap - L) = o + cap := by omega
            rw [this]
            exact h6
      · have hbd := run_bounds (P := P) (isS := true) (len := 0) (cap := 0) bl' bh' h0 h1 (by omega) w
        generalize hL : (l.getD 0).toNat = L at *
        generalize hR : (h'.getD ((0 : Nat) : Int)).toNat = R at *
        have hR0 : R = 0 := by omega
        have hL0 : L = 0 := by omega
        rw [hR0, hL0] at hbd
        rw [hR0, hL0]
        refine ⟨.slice A 0 0, by simp only [Instr.sliceAt, Sem.run_bind, run_underlying hu, Result.andThen_ok, Instr.slice, hbd, hs, Sem.run_pure]; simp, ?_⟩
        simp only [Rep]
        exact .inr ⟨by simp, hjn, ⟨_, rfl⟩⟩
    · cases hc
  · rename_i s l h' bl bh bm
    have bl' := abound_ok bl hl hl'
    have bh' := abound_ok bh hh hh'
    have bm' := abound_ok bm hm hm'
    simp only [Option.some.injEq, Prod.mk.injEq] at h
    obtain ⟨rfl, rfl⟩ := h
    obtain ⟨hu, h0, h1, h2⟩ := hφ
    simp only [Rep] at hx
    subst hx
    rcases bm' with ⟨_, rfl⟩ | ⟨_, _, hc, _⟩
    · have hbd := run_bounds (P := P) (isS := false) (len := s.size) (cap := s.size) bl' bh' h0 h1 (by omega) w
      exact ⟨_, by simp only [Instr.sliceAt, Sem.run_bind, run_underlying hu, Result.andThen_ok, Instr.slice, hbd, Sem.run_pure, Option.isSome_none, Bool.false_eq_true, if_false]; rfl, by simp only [Rep]⟩
    · cases hc
  · cases h


/-! ### Conversions, values built, builtins -/
def aconv (P : Program) (src dst : TypeId) : AV → Option (Prop × AV)
  | .lit (.int k n) =>
    match P.underlying src, P.underlying dst with
    | some _, some (.int k') => some (True, .lit (.int k' (k'.wrap n)))
    | some _, some .string => some (True, .lit (.string (Utf8.encode n)))
    | _, _ => none
  | _ => none
theorem aconv_ok {src dst : TypeId} {v : AV} {x : Value} {φ : Prop} {r : AV} (h : aconv P src dst v = some (φ, r)) (hr : Rep ρ H w v x) :
    ∃ y, (convert src dst x).run P w = .ok y w ∧ Rep ρ H w r y := by
  unfold aconv at h
  split at h
  · rename_i k n
    simp only [Rep] at hr
    subst hr
    split at h
    · rename_i d k' hs hd
      simp only [Option.some.injEq, Prod.mk.injEq] at h
      obtain ⟨rfl, rfl⟩ := h
      exact ⟨_, by simp only [convert, Sem.run_bind, run_underlying hs, run_underlying hd, Result.andThen_ok, Conv.intToInt, Sem.run_pure]; rfl, by simp only [Rep]⟩
    · rename_i d hs hd
      simp only [Option.some.injEq, Prod.mk.injEq] at h
      obtain ⟨rfl, rfl⟩ := h
      exact ⟨_, by simp only [convert, Sem.run_bind, run_underlying hs, run_underlying hd, Result.andThen_ok, Conv.intToString, Sem.run_pure]; rfl, by simp only [Rep]⟩
    · cases h
  · cases h

/-- Cells, with some others in the place of as many of them. -/
def splice (cs : List AV) (o : Nat) (ps : List AV) : List AV := cs.take o ++ ps ++ cs.drop (o + ps.length)

theorem foldl_splice (o : Nat) : ∀ (l : List Value) (s : Nat) (cs : Array Value), o + s + l.length ≤ cs.size →
    ((l.zipIdx s).foldl (fun cs (c, j) => cs.setIfInBounds (o + j) c) cs).toList = cs.toList.take (o + s) ++ l ++ cs.toList.drop (o + s + l.length)
  | [], s, cs, _ => by simp
  | x :: l, s, cs, h => by
    simp only [List.zipIdx_cons, List.foldl_cons]
    simp only [List.length_cons] at h
    rw [foldl_splice o l (s + 1) _ (by simp; omega)]
    simp only [Array.toList_setIfInBounds]
    rw [List.drop_set_of_lt (by omega), show o + (s + 1) = o + s + 1 by omega, List.take_add_one]
    rw [List.take_set, List.getElem?_set]
    have hlt : o + s < cs.toList.length := by simp; omega
    rw [if_pos rfl, if_pos hlt]
    rw [List.set_eq_of_length_le (by simp; omega)]
    simp only [List.length_cons, Option.toList_some, List.append_assoc, List.singleton_append]
    rw [show o + s + 1 + l.length = o + s + (l.length + 1) by omega]

/-- The places of a type's parts, and how great they are. -/
def tparts (P : Program) (t : TypeId) : Nat → Option (Nat × Nat)
  | i =>
    match P.underlying t with
    | some (.struct fs) => (fs[i]?).bind fun f => (tload P f.type).map fun (n, _) => (f.offset, n)
    | some (.array _ e) => (tload P e).map fun (n, _) => (i * n, n)
    | _ => none
def afill (place : Nat → Option (Nat × Nat)) : List AV → List (Nat × AV) → Option (Prop × List AV)
  | cs, [] => some (True, cs)
  | cs, (i, v) :: rest =>
    match place i with
    | none => none
    | some (o, n) => (afill place (splice cs o (acells v)) rest).map fun (φ, r) => (v.fit = true ∧ (acells v).length = n ∧ o + n ≤ cs.length ∧ φ, r)

theorem RepL.splice {cs ps : List AV} {xs ys : List Value} (h : RepL ρ H w cs xs) (k : RepL ρ H w ps ys) (o : Nat) : RepL ρ H w (splice cs o ps) (xs.take o ++ ys ++ xs.drop (o + ps.length)) :=
  ((h.take o).append k).append (h.drop _)

theorem afill_ok {place : Nat → Option (Nat × Nat)} {pl : Nat → Option (Nat × Nat)} (hpl : ∀ i x, place i = some x → pl i = some x) : ∀ {parts : List (Nat × AV)} {ps : List (Nat × Value)} {cs : List AV} {xs : Array Value} {φ : Prop} {r : List AV},
    afill place cs parts = some (φ, r) → φ → RepL ρ H w cs xs.toList → parts.map (·.1) = ps.map (·.1) → (∀ (j : Nat) u v, parts[j]? = some u → ps[j]? = some v → Rep ρ H w u.2 v.2) →
    ∃ ys, Instr.fill pl xs ps = some ys ∧ RepL ρ H w r ys.toList
  | [], ps, cs, xs, φ, r, h, _, hr, hm, _ => by
    simp only [afill, Option.some.injEq, Prod.mk.injEq] at h
    obtain ⟨rfl, rfl⟩ := h
    have : ps = [] := by simpa using hm.symm
    subst this
    exact ⟨xs, by simp [Instr.fill], hr⟩
  | (i, v) :: parts, [], cs, xs, φ, r, h, _, hr, hm, _ => by simp at hm
  | (i, v) :: parts, (i', y) :: ps, cs, xs, φ, r, h, hφ, hr, hm, hp => by
    simp only [List.map_cons, List.cons.injEq] at hm
    obtain ⟨rfl, hm⟩ := hm
    simp only [afill] at h
    split at h
    · cases h
    · rename_i o n hpi
      simp only [Option.map_eq_some_iff, Prod.mk.injEq] at h
      obtain ⟨⟨ψ, r'⟩, h1, rfl, rfl⟩ := h
      obtain ⟨hf, hl, hle, hψ⟩ := hφ
      have hv : Rep ρ H w v y := hp 0 _ _ rfl rfl
      have hc := acells_ok hf hv
      have hcl : y.cells.size = n := by rw [← hl, ← hc.length]; simp
      have hxl : xs.size = cs.length := by rw [← hr.length]; simp
      simp only [Instr.fill, hpl _ _ hpi, hcl]
      have hcond : (decide (n ≠ n) || decide (o + n > xs.size)) = false := by simp; omega
      simp only [hcond, Bool.false_eq_true, if_false]
      have hfold : (y.cells.zipIdx.foldl (fun cs (c, j) => cs.setIfInBounds (o + j) c) xs).toList = xs.toList.take o ++ y.cells.toList ++ xs.toList.drop (o + (acells v).length) := by
        have := foldl_splice o y.cells.toList 0 xs (by simp; omega)
        rw [Nat.add_zero] at this
        have e1 : y.cells.zipIdx.foldl (fun cs (c, j) => cs.setIfInBounds (o + j) c) xs = y.cells.toList.zipIdx.foldl (fun cs (c, j) => cs.setIfInBounds (o + j) c) xs := by
          rw [← Array.foldl_toList, Array.toList_zipIdx]
        rw [e1, this, hl, ← hcl, Array.length_toList]
      exact afill_ok hpl h1 hψ (by rw [hfold]; exact hr.splice hc o) hm (fun j u v' hu hv' => hp (j + 1) u v' (by simpa using hu) (by simpa using hv'))

def tzero (P : Program) (t : TypeId) : Option (List Value) := ((P.info? t).bind (·.zero)).map fun z => z.cells.toList

def abuild (P : Program) (t : TypeId) (parts : List (Nat × AV)) : Option (Prop × AV) :=
  match tzero P t with
  | some zs => (afill (tparts P t) (zs.map .lit) parts).map fun (φ, r) => (φ, .agg r)
  | none => none

theorem mapM_sizes {P : Program} (w : World) : ∀ (l : List Field), (∀ f ∈ l, (tload P f.type).isSome = true) →
    (l.mapM fun f => (do pure (f.offset, ← sizeOf f.type) : Sem (Nat × Nat))).run P w = .ok (l.map fun f => (f.offset, ((tload P f.type).map (·.1)).getD 0)) w
  | [], _ => by simp
  | f :: l, h => by
    obtain ⟨⟨n, g⟩, hf⟩ := Option.isSome_iff_exists.1 (h f (by simp))
    obtain ⟨hs, _, _⟩ := tload_ok hf w
    have ih := mapM_sizes w l (fun f hf => h f (by simp [hf]))
    simp only [List.mapM_cons, Sem.run_bind, hs, Result.andThen_ok, Sem.run_pure, ih, List.map_cons, hf, Option.map_some, Option.getD_some]

def tstruct (P : Program) (t : TypeId) : Bool :=
  match P.underlying t with
  | some (.struct fs) => fs.toList.all fun f => (tload P f.type).isSome
  | some (.array _ e) => (tload P e).isSome
  | _ => false

theorem abuild_ok {t : TypeId} {parts : List (Nat × AV)} {ps : Array (Nat × Value)} {φ : Prop} {r : AV} (ht : tstruct P t = true) (h : abuild P t parts = some (φ, r)) (hφ : φ)
    (hm : parts.map (·.1) = ps.toList.map (·.1)) (hp : ∀ (j : Nat) u v, parts[j]? = some u → ps.toList[j]? = some v → Rep ρ H w u.2 v.2) :
    ∃ y, (Instr.build t ps).run P w = .ok y w ∧ Rep ρ H w r y := by
  unfold abuild at h
  split at h
  · rename_i zs hz
    simp only [tzero, Option.map_eq_some_iff, Option.bind_eq_some_iff] at hz
    obtain ⟨z, ⟨i, hi, hz⟩, rfl⟩ := hz
    simp only [Option.map_eq_some_iff, Prod.mk.injEq] at h
    obtain ⟨⟨ψ, r'⟩, h1, rfl, rfl⟩ := h
    have hzero : (zeroValue t).run P w = .ok z w := by simp [zeroValue, typeInfo, hi, hz]
    unfold tstruct at ht
    split at ht
    · rename_i fs hu
      have hms := mapM_sizes (P := P) w fs.toList (fun f hf => List.all_eq_true.1 ht f hf)
      have hms' : (fs.mapM fun f => (do pure (f.offset, ← sizeOf f.type) : Sem (Nat × Nat))).run P w = .ok (fs.map fun f => (f.offset, ((tload P f.type).map (·.1)).getD 0)) w := by
        rw [Array.mapM_eq_mapM_toList]
        simp only [Sem.run_map, hms, Result.andThen_ok]
        congr 1
        apply Array.ext'
        simp
      obtain ⟨ys, hy, hry⟩ := afill_ok (pl := fun i => (fs.map fun f => (f.offset, ((tload P f.type).map (·.1)).getD 0))[i]?) (place := tparts P t) (fun i x hx => by
        simp only [tparts, hu, Option.bind_eq_some_iff, Option.map_eq_some_iff] at hx
        obtain ⟨f, hf, ⟨n, g⟩, hn, rfl⟩ := hx
        simp [hf, hn]) h1 hφ (xs := z.cells) (rep_lits ρ H w _) hm hp
      refine ⟨.agg ys, by simp only [Instr.build, Sem.run_bind, hzero, Result.andThen_ok, run_underlying hu, hms', hy, Sem.run_pure], ?_⟩
      simp only [Rep]
      exact ⟨ys.toList, by simp, hry⟩
    · rename_i n e hu
      obtain ⟨⟨m, g⟩, he⟩ := Option.isSome_iff_exists.1 ht
      obtain ⟨hs, _, _⟩ := tload_ok he w
      obtain ⟨ys, hy, hry⟩ := afill_ok (pl := fun i => some (i * m, m)) (place := tparts P t) (fun i x hx => by
        simp only [tparts, hu, Option.map_eq_some_iff] at hx
        obtain ⟨⟨n, g⟩, hn, rfl⟩ := hx
        rw [he] at hn
        injection hn with hn
        injection hn with hn _
        subst hn
        rfl) h1 hφ (xs := z.cells) (rep_lits ρ H w _) hm hp
      refine ⟨.agg ys, by simp only [Instr.build, Sem.run_bind, hzero, Result.andThen_ok, run_underlying hu, hs, hy, Sem.run_pure], ?_⟩
      simp only [Rep]
      exact ⟨ys.toList, by simp, hry⟩
    · cases ht
  · cases h

def alen (P : Program) (t : TypeId) (H : AH) : AV → Option (Prop × AV)
  | .sl es => some ((tel P t).isSome = true, .int es.length)
  | .rsl _ _ _ n => some ((tel P t).isSome = true, .int n)
  | .esl => some ((tel P t).isSome = true, .int 0)
  | .lit (.slice none 0 0) => some ((tel P t).isSome = true, .int 0)
  | .lit (.string s) => some (P.underlying t = some .string, .int s.size)
  | .mp i => match H.obj i with | some (.amap kvs) => some ((∃ k e, P.underlying t = some (.map k e)), .int kvs.length) | _ => none
  | _ => none

theorem alen_ok {t ty : TypeId} {v : AV} {x : Value} {φ : Prop} {r : AV} (hh : Holds ρ H w) (h : alen P t H v = some (φ, r)) (hφ : φ) (hr : Rep ρ H w v x) :
    ∃ y, (Builtin.len_ #[t] ty #[x]).run P w = .ok y w ∧ Rep ρ H w r y := by
  have sl : ∀ (A : Option Addr) (n c : Nat), (tel P t).isSome = true → (Builtin.len_ #[t] ty #[.slice A n c]).run P w = .ok (.int .i64 n) w := by
    intro A n c ht
    obtain ⟨⟨z, g⟩, ht⟩ := Option.isSome_iff_exists.1 ht
    obtain ⟨e, hu, _⟩ := tel_ok ht
    simp [Builtin.len_, run_underlying hu, goInt]
  unfold alen at h
  split at h <;> (try simp only [Option.some.injEq, Prod.mk.injEq, reduceCtorEq] at h)
  · obtain ⟨rfl, rfl⟩ := h
    simp only [Rep] at hr
    obtain ⟨A, cap, rfl, _⟩ := hr
    exact ⟨_, sl _ _ _ hφ, by simp only [Rep]⟩
  · obtain ⟨rfl, rfl⟩ := h
    simp only [Rep] at hr
    rcases hr with ⟨b, cap, _, _, _, _, rfl, _⟩ | ⟨rfl, hjn, A, rfl⟩
    · exact ⟨_, sl _ _ _ hφ, by simp only [Rep]⟩
    · exact ⟨_, sl _ _ _ hφ, by simp only [Rep]⟩
  · obtain ⟨rfl, rfl⟩ := h
    simp only [Rep] at hr
    obtain ⟨A, rfl⟩ := hr
    exact ⟨_, sl _ _ _ hφ, by simp only [Rep]; rfl⟩
  · obtain ⟨rfl, rfl⟩ := h
    simp only [Rep] at hr
    subst hr
    exact ⟨_, sl _ _ _ hφ, by simp only [Rep]; rfl⟩
  · rename_i s
    obtain ⟨rfl, rfl⟩ := h
    simp only [Rep] at hr
    subst hr
    exact ⟨.int .i64 s.size, by simp [Builtin.len_, run_underlying hφ, goInt], by simp only [Rep]⟩
  · rename_i i
    split at h <;> simp only [Option.some.injEq, Prod.mk.injEq, reduceCtorEq] at h
    rename_i kvs ho
    obtain ⟨rfl, rfl⟩ := h
    obtain ⟨k, e, hu⟩ := hφ
    simp only [Rep] at hr
    obtain ⟨b, hb, rfl⟩ := hr
    obtain ⟨b', es, clock, hb', hw, _, hl, _⟩ := hh.obj i _ ho
    rw [hb] at hb'
    injection hb' with hb'
    subst hb'
    have hsz : es.size = kvs.length := by
      have := hl.length
      simpa using this
    refine ⟨.int .i64 kvs.length, ?_, by simp only [Rep]⟩
    simp [Builtin.len_, run_underlying hu, goInt, getObj, Sem.run, hw, hsz]

def aminmax (mx : Bool) : List AV → Option (Prop × AV)
  | .lit (.int k a) :: [.lit (.int _ b)] => some (True, .lit (.int k (if mx then (if b > a then b else a) else (if b < a then b else a))))
  | _ => none

theorem aminmax_ok {mx : Bool} {at_ : Array TypeId} {ty : TypeId} {vs : List AV} {xs : Array Value} {φ : Prop} {r : AV} (h : aminmax mx vs = some (φ, r)) (hr : RepL ρ H w vs xs.toList) :
    ∃ y, (if mx then Builtin.max_ at_ ty xs else Builtin.min_ at_ ty xs).run P w = .ok y w ∧ Rep ρ H w r y := by
  unfold aminmax at h
  split at h
  · rename_i k a k' b
    simp only [Option.some.injEq, Prod.mk.injEq] at h
    obtain ⟨rfl, rfl⟩ := h
    simp only [RepL, Rep] at hr
    obtain ⟨x, ys, hxs, rfl, y, zs, rfl, rfl, rfl⟩ := hr
    obtain rfl : xs = #[.int k a, .int k' b] := Array.ext' hxs
    cases mx
    · exact ⟨.int k (if b < a then b else a), by simp [Builtin.min_, Builtin.min2], by simp [Rep]⟩
    · exact ⟨.int k (if b > a then b else a), by simp [Builtin.max_, Builtin.max2], by simp [Rep]⟩
  · cases h

def abuiltin (P : Program) (H : AH) (b : Builtin) (ts : Array TypeId) (vs : List AV) : Option (Prop × AV) :=
  match b, vs with
  | .len, [v] => (ts.toList.head?).bind fun t => (alen P t H v).map fun (φ, r) => (ts = #[t] ∧ φ, r)
  | .max, vs => aminmax true vs
  | .min, vs => aminmax false vs
  | _, _ => none

theorem abuiltin_ok {b : Builtin} {ts : Array TypeId} {ty : TypeId} {cs : Array Bool} {vs : List AV} {xs : Array Value} {φ : Prop} {r : AV} (hh : Holds ρ H w) (h : abuiltin P H b ts vs = some (φ, r)) (hφ : φ) (hr : RepL ρ H w vs xs.toList) :
    ∃ y, (builtin b ts ty cs xs).run P w = .ok (.value y) w ∧ Rep ρ H w r y := by
  unfold abuiltin at h
  split at h
  · rename_i v
    simp only [Option.bind_eq_some_iff, Option.map_eq_some_iff, Prod.mk.injEq] at h
    obtain ⟨t, ht, ⟨ψ, r'⟩, h1, rfl, rfl⟩ := h
    obtain ⟨rfl, hψ⟩ := hφ
    simp only [RepL] at hr
    obtain ⟨x, ys, hxs, hr, rfl⟩ := hr
    obtain rfl : xs = #[x] := Array.ext' hxs
    obtain ⟨y, hy, hry⟩ := alen_ok (P := P) (ty := ty) hh h1 hψ hr
    exact ⟨y, by simp only [builtin, Sem.run_bind, hy, Result.andThen_ok, Sem.run_pure], hry⟩
  · obtain ⟨y, hy, hry⟩ := aminmax_ok (P := P) (at_ := ts) (ty := ty) h hr
    simp only [if_true] at hy
    exact ⟨y, by simp only [builtin, Sem.run_bind, hy, Result.andThen_ok, Sem.run_pure], hry⟩
  · obtain ⟨y, hy, hry⟩ := aminmax_ok (P := P) (at_ := ts) (ty := ty) h hr
    simp only [Bool.false_eq_true, if_false] at hy
    exact ⟨y, by simp only [builtin, Sem.run_bind, hy, Result.andThen_ok, Sem.run_pure], hry⟩
  · cases h

def anil : AV → Option (Prop × AV)
  | .ptr i z e c => some (True, .ptr i z e c)
  | .iptr cs => some (True, .iptr cs)
  | .clo (.func f) a b => some (True, .clo (.func f) a b)
  | _ => none

/-! ### Lookups -/
/-- Where a key stands. -/
def akey (k : Value) : List (Value × AV) → Option AV
  | [] => none
  | (x, v) :: l => if cellEq k x then some v else akey k l
/-- Keys of one plain kind. -/
def keyKind : Value → Nat
  | .int _ _ => 1
  | .string _ => 2
  | .bool _ => 3
  | _ => 0

/-! ### All of them -/
def evL (T : Tm) (xs : Array Operand) : List AV := xs.toList.map fun x => (ev T x).core

def apure (P : Program) (H : AH) (T : Tm) : Op → Option (Prop × AV)
  | .move x => some ((ev T x).grd = true, (ev T x).core)
  | .assign x => some ((ev T x).grd = true, (ev T x).core)
  | .pick c a b => (apick T c a b).map fun (φ, r) => ((ev T c).grd = true ∧ φ, r)
  | .binOp op t x y _ => (abin P op t (ev T x).core (ev T y).core).map fun (φ, r) => (gokL T [x, y] ∧ φ, r)
  | .unOp op _ x => (aun op (ev T x).core).map fun (φ, r) => (gokL T [x] ∧ φ, r)
  | .load t x => (aload P t H (ev T x).core).map fun (φ, r) => (gokL T [x] ∧ φ, r)
  | .fieldAddr t x f => (afaddr P t f (ev T x).core).map fun (φ, r) => (gokL T [x] ∧ φ, r)
  | .field t x f => (afield P t f (ev T x).core).map fun (φ, r) => (gokL T [x] ∧ φ, r)
  | .indexAddr t x i => (aiaddr P t (ev T x).core (ev T i).core).map fun (φ, r) => (gokL T [x, i] ∧ φ, r)
  | .index t x i => (aindex P t (ev T x).core (ev T i).core).map fun (φ, r) => (gokL T [x, i] ∧ φ, r)
  | .extract x n => (aextract n (ev T x).core).map fun (φ, r) => (gokL T [x] ∧ φ, r)
  | .slice t x lo hi mx => (aslice P t (ev T x).core (lo.map fun x => (ev T x).core) (hi.map fun x => (ev T x).core) (mx.map fun x => (ev T x).core)).map fun (φ, r) =>
      (gokL T ([x] ++ lo.toList ++ hi.toList ++ mx.toList) ∧ φ, r)
  | .convert s d x => (aconv P s d (ev T x).core).map fun (φ, r) => (gokL T [x] ∧ φ, r)
  | .makeFunc fn f c => some (gokL T f.toList ∧ gokL T c.toList, .clo fn (evL T f) (evL T c))
  | .build t ps => (abuild P t (ps.toList.map fun (i, x) => (i, (ev T x).core))).map fun (φ, r) => (gokL T (ps.toList.map (·.2)) ∧ tstruct P t = true ∧ φ, r)
  | .nilCheck x => (anil (ev T x).core).map fun (φ, r) => (gokL T [x] ∧ φ, r)
  | .call ⟨.builtin b, args, ts⟩ => (abuiltin P H b ts (evL T args)).map fun (φ, r) => (gokL T args.toList ∧ φ, r)
  | _ => none

theorem rep_evL {T : Tm} {a : Act} (h : RepT ρ H w T a.tmps) : ∀ {xs : List Operand}, gokL T xs → RepL ρ H w (xs.map fun x => (ev T x).core) (xs.map a.eval)
  | [], _ => by simp only [List.map_nil, RepL]
  | x :: xs, hg => by
    simp only [gokL] at hg
    simp only [List.map_cons, RepL]
    exact ⟨_, _, rfl, rep_evc h hg.1, rep_evL h hg.2⟩

theorem apure_ok {T : Tm} {a : Act} {o : Oper} {φ : Prop} {r : AV} (hh : Holds ρ H w) (ht : RepT ρ H w T a.tmps) (h : apure P H T o.op = some (φ, r)) (hφ : φ) :
    ∃ x, (execOp a.eval o).run P w = .ok (.value x) w ∧ Rep ρ H w r x := by
  have val : ∀ {s : Sem Value}, (∃ y, s.run P w = .ok y w ∧ Rep ρ H w r y) → ∃ x, (do pure (.value (← s)) : Sem Next).run P w = .ok (.value x) w ∧ Rep ρ H w r x := by
    rintro s ⟨y, hy, hr⟩
    exact ⟨y, by simp only [Sem.run_bind, hy, Result.andThen_ok, Sem.run_pure], hr⟩
  unfold apure at h
  unfold execOp
  split at h <;> simp only [Option.some.injEq, Option.map_eq_some_iff, Prod.mk.injEq, reduceCtorEq] at h <;> rename_i heq <;> simp only [heq]
  · obtain ⟨rfl, rfl⟩ := h
    exact ⟨_, rfl, rep_evc ht hφ⟩
  · obtain ⟨rfl, rfl⟩ := h
    exact ⟨_, rfl, rep_evc ht hφ⟩
  · rename_i c x y
    obtain ⟨⟨ψ, r'⟩, h1, rfl, rfl⟩ := h
    obtain ⟨hg, hψ⟩ := hφ
    unfold apick at h1
    split at h1
    · rename_i p hp
      simp only [Option.some.injEq, Prod.mk.injEq] at h1
      obtain ⟨rfl, rfl⟩ := h1
      have hc := rep_evc ht hg
      rw [hp] at hc
      simp only [Rep] at hc
      refine ⟨if p then a.eval x else a.eval y, ?_, rep_pickv (fun h => rep_evc ht (hψ.1 h)) fun h => rep_evc ht (hψ.2 h)⟩
      simp [hc, asBool]
    · cases h1
  · obtain ⟨⟨ψ, r'⟩, h1, rfl, rfl⟩ := h
    obtain ⟨⟨g1, g2, _⟩, hψ⟩ := hφ
    exact val (abin_ok h1 hψ (rep_evc ht g1) (rep_evc ht g2))
  · obtain ⟨⟨ψ, r'⟩, h1, rfl, rfl⟩ := h
    obtain ⟨⟨g1, _⟩, hψ⟩ := hφ
    exact val (aun_ok h1 (rep_evc ht g1))
  · obtain ⟨⟨ψ, r'⟩, h1, rfl, rfl⟩ := h
    obtain ⟨⟨g1, _⟩, hψ⟩ := hφ
    exact val (aload_ok hh h1 hψ (rep_evc ht g1))
  · obtain ⟨⟨ψ, r'⟩, h1, rfl, rfl⟩ := h
    obtain ⟨⟨g1, _⟩, hψ⟩ := hφ
    exact val (afaddr_ok h1 hψ (rep_evc ht g1))
  · obtain ⟨⟨ψ, r'⟩, h1, rfl, rfl⟩ := h
    obtain ⟨⟨g1, _⟩, hψ⟩ := hφ
    exact val (afield_ok h1 hψ (rep_evc ht g1))
  · obtain ⟨⟨ψ, r'⟩, h1, rfl, rfl⟩ := h
    obtain ⟨⟨g1, g2, _⟩, hψ⟩ := hφ
    exact val (aiaddr_ok h1 hψ (rep_evc ht g1) (rep_evc ht g2))
  · obtain ⟨⟨ψ, r'⟩, h1, rfl, rfl⟩ := h
    obtain ⟨⟨g1, g2, _⟩, hψ⟩ := hφ
    exact val (aindex_ok h1 hψ (rep_evc ht g1) (rep_evc ht g2))
  · obtain ⟨⟨ψ, r'⟩, h1, rfl, rfl⟩ := h
    obtain ⟨⟨g1, _⟩, hψ⟩ := hφ
    exact val (aextract_ok h1 hψ (rep_evc ht g1))
  · rename_i t x lo hi mx
    obtain ⟨⟨ψ, r'⟩, h1, rfl, rfl⟩ := h
    obtain ⟨hg, hψ⟩ := hφ
    have hmem : ∀ y ∈ [x] ++ lo.toList ++ hi.toList ++ mx.toList, (ev T y).grd = true := by
      have : ∀ (l : List Operand), gokL T l → ∀ y ∈ l, (ev T y).grd = true := by
        intro l
        induction l with
        | nil => intro _ y hy; cases hy
        | cons z l ih => intro hl y hy; simp only [gokL] at hl; cases hy with | head => exact hl.1 | tail _ hy => exact ih hl.2 y hy
      exact this _ hg
    refine val (aslice_ok hh h1 hψ (rep_evc ht (hmem x (by simp))) ?_ ?_ ?_ ?_ ?_ ?_)
    all_goals first
      | (simp; done)
      | (intro u y hu hy
         simp only [Option.map_eq_some_iff] at hu hy
         obtain ⟨z, hz, rfl⟩ := hu
         obtain ⟨z', hz', rfl⟩ := hy
         rw [hz] at hz'
         injection hz' with hz'
         subst hz'
         exact rep_evc ht (hmem z (by simp [hz])))
  · obtain ⟨⟨ψ, r'⟩, h1, rfl, rfl⟩ := h
    obtain ⟨⟨g1, _⟩, hψ⟩ := hφ
    exact val (aconv_ok h1 (rep_evc ht g1))
  · rename_i fn f c
    obtain ⟨rfl, rfl⟩ := h
    obtain ⟨g1, g2⟩ := hφ
    refine val ⟨.func fn (f.map a.eval) (c.map a.eval), by simp only [Instr.makeFunc, Sem.run_pure], ?_⟩
    simp only [Rep]
    refine ⟨f.toList.map a.eval, c.toList.map a.eval, ?_, rep_evL ht g1, rep_evL ht g2⟩
    congr 1 <;> (apply Array.ext'; simp)
  · rename_i t ps
    obtain ⟨⟨ψ, r'⟩, h1, rfl, rfl⟩ := h
    obtain ⟨g1, g2, hψ⟩ := hφ
    refine val (abuild_ok (ps := ps.map fun (i, x) => (i, a.eval x)) g2 h1 hψ (by simp) ?_)
    intro j u v hu hv
    have hg : ∀ (l : List (Nat × Operand)), gokL T (l.map (·.2)) → ∀ y ∈ l, (ev T y.2).grd = true := by
      intro l
      induction l with
      | nil => intro _ y hy; cases hy
      | cons z l ih => intro hl y hy; simp only [List.map_cons, gokL] at hl; cases hy with | head => exact hl.1 | tail _ hy => exact ih hl.2 y hy
    simp only [Array.toList_map, List.getElem?_map, Option.map_eq_some_iff] at hu hv
    obtain ⟨⟨i1, x1⟩, hx1, rfl⟩ := hu
    obtain ⟨⟨i2, x2⟩, hx2, rfl⟩ := hv
    rw [hx1] at hx2
    injection hx2 with hx2
    injection hx2 with _ hx2
    subst hx2
    exact rep_evc ht (hg _ g1 _ (List.mem_of_getElem? hx1))
  · rename_i x
    obtain ⟨⟨ψ, r'⟩, h1, rfl, rfl⟩ := h
    obtain ⟨⟨g1, _⟩, hψ⟩ := hφ
    have hx := rep_evc ht g1
    unfold anil at h1
    split at h1 <;> simp only [Option.some.injEq, Prod.mk.injEq, reduceCtorEq] at h1
    · rename_i hc
      obtain ⟨rfl, rfl⟩ := h1
      rw [hc] at hx
      have hx' := hx
      simp only [Rep] at hx'
      obtain ⟨b, _, hb⟩ := hx'
      rw [hb] at hx ⊢
      exact ⟨_, rfl, hx⟩
    · rename_i hc
      obtain ⟨rfl, rfl⟩ := h1
      rw [hc] at hx
      have hx' := hx
      simp only [Rep] at hx'
      obtain ⟨b, _, hb, _⟩ := hx'
      rw [hb] at hx ⊢
      exact ⟨_, rfl, hx⟩
    · rename_i hc
      obtain ⟨rfl, rfl⟩ := h1
      rw [hc] at hx
      have hx' := hx
      simp only [Rep] at hx'
      obtain ⟨b, _, hb, _⟩ := hx'
      rw [hb] at hx ⊢
      exact ⟨_, rfl, hx⟩
  · rename_i b args ts
    obtain ⟨⟨ψ, r'⟩, h1, rfl, rfl⟩ := h
    obtain ⟨g1, hψ⟩ := hφ
    have hl : RepL ρ H w (evL T args) (args.map a.eval).toList := by rw [Array.toList_map]; exact rep_evL ht g1
    simp only [resolve, Sem.run_bind, Sem.run_pure, Result.andThen_ok, invoke]
    exact abuiltin_ok hh h1 hψ hl

end Go.Sim
