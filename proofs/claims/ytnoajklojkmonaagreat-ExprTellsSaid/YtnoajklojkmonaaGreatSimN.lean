/- The library's Sort and Compact of numbers, told by own rows. Conditions: none. -/
import Derived.Test.YtnoajklojkmonaaGreatSimM
import Derived.Shelf.Sort.Plain
import Derived.Shelf.Slices.CompactI
import Derived.Shelf.Slices.In.SortNone
import Derived.Lib.RowBridge
set_option linter.unusedSimpArgs false
set_option linter.unusedVariables false
namespace Go.Sim
open Go.Sort (grow putRow putCells mapBlock onCells)

variable {P : Program} {ρ : Nat → Option Nat} {H : AH} {w : World}

theorem cell_grown {w w' : World} (h : ∀ k, k < w.heap.size → w'.heap[k]? = w.heap[k]?) {a : Addr} {v : Value} (hc : w.cell? a = some v) : w'.cell? a = some v := by
  have hlt := World.block_lt_of_cell? w a hc
  rw [← hc]
  simp only [World.cell?, h _ hlt]

theorem Ext.grown {w' : World} (hh : Holds ρ H w) (h : ∀ k, k < w.heap.size → w'.heap[k]? = w.heap[k]?) (hs : w.heap.size ≤ w'.heap.size) (h1 : w'.os = w.os) (h2 : w'.tape = w.tape) (h3 : w'.output = w.output) : Ext ρ H w ρ H w' where
  old := fun i b hi => (hh.bound i b hi).1
  agree := fun _ _ h => h
  new := fun _ _ h => .inl h
  live := fun _ o h _ => ⟨o, h⟩
  nxt := Nat.le_refl _
  imm := fun a v hc hI => ⟨cell_grown h hc, hI⟩
  size := hs
  rest := fun b hb _ => h b hb
  shape := fun b cs t fr hc => ⟨cs, by rw [h b (Array.getElem?_eq_some_iff.1 hc).1]; exact hc, rfl⟩
  os := h1
  tape := h2
  output := h3

theorem Holds.grown {w' : World} (hh : Holds ρ H w) (h : ∀ k, k < w.heap.size → w'.heap[k]? = w.heap[k]?) (hs : w.heap.size ≤ w'.heap.size) (h1 : w'.os = w.os) (h2 : w'.tape = w.tape) (h3 : w'.output = w.output) : Holds ρ H w' where
  obj := fun i o ho => (hh.obj i o ho).ext (Ext.grown hh h hs h1 h2 h3) (hh.lt i o ho) fun b hb => h b (hh.bound i b hb).2
  inj := hh.inj
  lt := hh.lt
  bound := fun i b hi => ⟨(hh.bound i b hi).1, Nat.lt_of_lt_of_le (hh.bound i b hi).2 hs⟩


theorem rep_rowI {zs : List Int} {xss : List (List Value)} (h : RepLL ρ H w (rowI zs) xss) : xss = zs.map fun n => [Value.int .i64 n] := by
  induction zs generalizing xss with
  | nil => simpa [rowI, RepLL] using h
  | cons z zs ih =>
    simp only [rowI, List.map_cons, RepLL, RepL, Rep] at h
    obtain ⟨y, ys, rfl, ⟨y', ys', rfl, rfl, rfl⟩, h2⟩ := h
    rw [ih h2]
    rfl
theorem rowI_rep (ρ : Nat → Option Nat) (H : AH) (w : World) (zs : List Int) : RepLL ρ H w (rowI zs) (zs.map fun n => [Value.int .i64 n]) := by
  induction zs with
  | nil => simp only [rowI, List.map_nil, RepLL]
  | cons z zs ih =>
    simp only [rowI, List.map_cons, RepLL, RepL, Rep]
    exact ⟨_, _, rfl, ⟨_, _, rfl, rfl, rfl⟩, ih⟩

/-- An own row of numbers, laid anew. -/
theorem put_rowI (hh : Holds ρ H w) {i b n : Nat} {zs ns : List Int} {os : Array Obj} (ho : H.obj i = some (.cells 1 (rowI zs) 0)) (hb : ρ i = some b) (hl : ns.length = zs.length) :
    Holds ρ (H.set i (.cells 1 (rowI ns) 0)) (grow (putRow (Value.int .i64) (Sort.ahead w n) b 0 ns.toArray) os) ∧ Ext ρ H w ρ (H.set i (.cells 1 (rowI ns) 0)) (grow (putRow (Value.int .i64) (Sort.ahead w n) b 0 ns.toArray) os) := by
  rcases hh.obj i _ ho with ⟨b', ccs, t, xss, k1, k2, k3, k4, k5, k6, k7⟩ | ⟨k1, _⟩
  · rw [hb] at k1
    injection k1 with k1
    subst k1
    have hx := rep_rowI k4
    subst hx
    have hroom : zs.length ≤ ccs.size := by simpa using k6
    have hW : Wrote ρ H w ρ (H.set i (.cells 1 (rowI ns) 0)) i i b 1 0 (rowI zs) (rowI ns) ccs (putCells (Value.int .i64) 0 ns.toArray ccs) t (ns.map fun n => [Value.int .i64 n]) := {
      ho := ho
      hb := hb
      hw := k2
      ho' := by simp [AH.set]
      hk := .inl rfl
      hρk := hb
      hρ := fun _ _ => rfl
      hρ' := fun j b' hj => .inr hj
      other := fun j o hj hne => by simp only [AH.set] at hj; rw [if_neg hne] at hj; exact ⟨hj, hne⟩
      nxt := Nat.le_refl _
      klt := hh.lt i _ ho
      size := by simp [putCells]
      low := fun j hj => by omega
      rep := rowI_rep _ _ _ _
      len := by simp [rowI, encI]
      fz := Nat.zero_le _
      room := by simp only [rowI, List.length_map, Nat.mul_one]; omega
      at_ := fun j l xs v hxs hv => by
        rw [List.getElem?_map] at hxs
        cases hj : ns[j]? with
        | none => rw [hj] at hxs; cases hxs
        | some m =>
          rw [hj] at hxs
          simp only [Option.map_some, Option.some.injEq] at hxs
          subst hxs
          have hjl := (List.getElem?_eq_some_iff.1 hj).1
          cases l with
          | succ l => simp at hv
          | zero =>
            simp only [List.getElem?_cons_zero, Option.some.injEq] at hv
            subst hv
            have hjc : j < ccs.size := by omega
            have hg : ns[j]! = m := by rw [List.getElem!_eq_getElem?_getD, hj]; rfl
            simp [putCells, hjc, hjl, hg]
            have := (List.getElem?_eq_some_iff.1 hj).2
            exact this }
    have h1 := hW.holds hh
    have h2 := hW.ext hh
    have hbl : b < w.heap.size := (Array.getElem?_eq_some_iff.1 k2).1
    have hsz : (w.setRow b (putCells (Value.int .i64) 0 ns.toArray ccs)).heap.size = w.heap.size := by
      unfold World.setRow
      simp
    have hg : ∀ k, k < (w.setRow b (putCells (Value.int .i64) 0 ns.toArray ccs)).heap.size → (grow (putRow (Value.int .i64) (Sort.ahead w n) b 0 ns.toArray) os).heap[k]? = (w.setRow b (putCells (Value.int .i64) 0 ns.toArray ccs)).heap[k]? := by
      intro k hk
      rw [hsz] at hk
      have e1 : (grow (putRow (Value.int .i64) (Sort.ahead w n) b 0 ns.toArray) os).heap[k]? = (w.heap.modify b (onCells (putCells (Value.int .i64) 0 ns.toArray)))[k]? := by
        simp only [grow, putRow, mapBlock, Sort.ahead]
        rw [Array.getElem?_append_left (by simpa using hk)]
      rw [e1, Array.getElem?_modify]
      by_cases e : b = k
      · subst e
        rw [if_pos rfl, k2, setRow_heap w b ccs _ t (0, 0) k2]
        rfl
      · rw [if_neg e, setRow_other w b k _ (Ne.symm e)]
    have hs : (w.setRow b (putCells (Value.int .i64) 0 ns.toArray ccs)).heap.size ≤ (grow (putRow (Value.int .i64) (Sort.ahead w n) b 0 ns.toArray) os).heap.size := by
      rw [hsz]
      simp [grow, putRow, mapBlock, Sort.ahead]
    exact ⟨h1.grown hg hs rfl rfl rfl, h2.trans (Ext.grown h1 hg hs rfl rfl rfl)⟩
  · rw [hb] at k1; cases k1

/-- The library's sort of an own row of numbers. -/
theorem sort_row {ρf : Shelf.Ren} (Ly : Go.Proofs.Lays.n189 P ρf) (hcall : callable P (ρf.f 189) = true) {i : Nat} {zs : List Int} (hz : zs.length < 4611686018427387904) (ho : H.obj i = some (.cells 1 (rowI zs) 0)) :
    ACalls P (ρf.f 189) [.rsl i 1 0 zs.length] H fun r H' => r = .tup [] ∧ H' = H.set i (.cells 1 (rowI (zs.mergeSort fun x y => decide (x ≤ y))) 0) := by
  refine ⟨hcall, fun ρ w xs hh hr => ?_⟩
  simp only [RepL] at hr
  obtain ⟨x, _, rfl, hr, rfl⟩ := hr
  have hrep : ∀ ρ' H' w', Rep ρ' H' w' (.tup []) (.tuple #[]) := by
    intro ρ' H' w'
    simp only [Rep, RepL]
    exact ⟨[], rfl, rfl⟩
  simp only [Rep] at hr
  rcases hr with ⟨b, cap, ccs, t, fr, hb, rfl, h1, h2, h3, h4⟩ | ⟨h0, hlt, A, rfl⟩
  · have hH : Sort.Holds (Value.int .i64) w b (0 * 1) zs.toArray := by
      intro j hj
      have hj' : j < zs.length := by simpa using hj
      obtain ⟨ys, hy, hz1, hc⟩ := hh.elem ho hb (e := j) (cs := [.int zs[j]]) (by simp [encI, rowI, hj'])
      simp only [RepL, Rep] at hy
      obtain ⟨y, ys', rfl, rfl, rfl⟩ := hy
      have := hc 0 _ rfl
      simp only [Nat.mul_one, Nat.add_zero] at this
      simp only [Nat.zero_mul, Nat.zero_add]
      have hg : (zs.toArray)[j]! = zs[j] := by simp [hj']
      rw [hg]
      exact this
    refine (Go.Proofs.Any.slices_Sort_int Ly b (0 * 1) cap zs w hH (hh.bound i b hb).2 hz).mono ?_
    rintro e w' ⟨rfl, n, os, rfl⟩
    obtain ⟨k1, k2⟩ := put_rowI (n := n) (os := os) hh ho hb (ns := zs.mergeSort fun x y => decide (x ≤ y)) (List.length_mergeSort _)
    rw [Nat.zero_mul]
    exact ⟨_, _, ρ, _, ⟨rfl, rfl⟩, rfl, k1, k2, hrep _ _ _⟩
  · obtain rfl : zs = [] := List.eq_nil_of_length_eq_zero h0
    refine (Go.Proofs.Any.slices_Sort_int_none Ly A 0 w).mono ?_
    rintro e w' ⟨rfl, rfl⟩
    have hH : H.set i (.cells 1 (rowI ([].mergeSort fun x y => decide (x ≤ y))) 0) = H := by
      refine ah_ext (fun q => ?_) rfl
      show (if q = i then _ else H.obj q) = H.obj q
      split
      · rename_i e; subst e; rw [ho]; simp
      · rfl
    rw [hH]
    exact ⟨_, _, ρ, _, ⟨rfl, rfl⟩, rfl, hh, Ext.refl hh, hrep _ _ _⟩
theorem sort_nil {ρf : Shelf.Ren} (Ly : Go.Proofs.Lays.n189 P ρf) (hcall : callable P (ρf.f 189) = true) : ACalls P (ρf.f 189) [.nilS] H fun r H' => r = .tup [] ∧ H' = H := by
  refine ⟨hcall, fun ρ w xs hh hr => ?_⟩
  simp only [RepL, Rep] at hr
  obtain ⟨x, _, rfl, rfl, rfl⟩ := hr
  refine (Go.Proofs.Any.slices_Sort_int_none Ly none 0 w).mono ?_
  rintro e w' ⟨rfl, rfl⟩
  exact ⟨_, _, ρ, _, ⟨rfl, rfl⟩, rfl, hh, Ext.refl hh, by simp only [Rep, RepL]; exact ⟨[], rfl, rfl⟩⟩

theorem holds_row (hh : Holds ρ H w) {i b : Nat} {zs : List Int} (ho : H.obj i = some (.cells 1 (rowI zs) 0)) (hb : ρ i = some b) : Sort.Holds (Value.int .i64) w b (0 * 1) zs.toArray := by
  intro j hj
  have hj' : j < zs.length := by simpa using hj
  obtain ⟨ys, hy, hz1, hc⟩ := hh.elem ho hb (e := j) (cs := [.int zs[j]]) (by simp [encI, rowI, hj'])
  simp only [RepL, Rep] at hy
  obtain ⟨y, ys', rfl, rfl, rfl⟩ := hy
  have := hc 0 _ rfl
  simp only [Nat.mul_one, Nat.add_zero] at this
  simp only [Nat.zero_mul, Nat.zero_add]
  have hg : (zs.toArray)[j]! = zs[j] := by simp [hj']
  rw [hg]
  exact this

/-- What the library's Compact leaves in the row. -/
def compactAll (zs : List Int) : List Int := Lib.compact zs ++ List.replicate (zs.length - (Lib.compact zs).length) 0
theorem compactAll_length (zs : List Int) : (compactAll zs).length = zs.length := by
  have := Lib.compact_length_le zs
  simp [compactAll]
  omega

theorem compact_row {ρf : Shelf.Ren} (Ly : Go.Proofs.Lays2.n20 P ρf) (hcall : callable P (ρf.f 20) = true) {i : Nat} {zs : List Int} (hz : zs.length ≤ 9223372036854775807) (ho : H.obj i = some (.cells 1 (rowI zs) 0)) :
    ACalls P (ρf.f 20) [.rsl i 1 0 zs.length] H fun r H' => r = .rsl i 1 0 (Lib.compact zs).length ∧ H' = H.set i (.cells 1 (rowI (compactAll zs)) 0) := by
  refine ⟨hcall, fun ρ w xs hh hr => ?_⟩
  simp only [RepL] at hr
  obtain ⟨x, _, rfl, hr, rfl⟩ := hr
  simp only [Rep] at hr
  have hcl := Lib.compact_length_le zs
  rcases hr with ⟨b, cap, ccs, t, fr, hb, rfl, h1, h2, h3, h4⟩ | ⟨h0, hlt, A, rfl⟩
  · refine (Go.Proofs.Any.slices_Compact_int Ly b (0 * 1) cap zs w (holds_row hh ho hb) hz h1).mono ?_
    rintro e w' ⟨rfl, n, rfl⟩
    have hp := put_rowI (n := n) (os := #[]) hh ho hb (ns := compactAll zs) (compactAll_length zs)
    rw [Sort.grow_empty] at hp
    obtain ⟨k1, k2⟩ := hp
    rw [Nat.zero_mul]
    refine ⟨_, _, ρ, _, ⟨rfl, rfl⟩, rfl, k1, k2, ?_⟩
    simp only [Rep]
    obtain ⟨cs', hc1, hc2⟩ := k2.shape b ccs t fr h3
    exact .inl ⟨b, cap, cs', t, fr, hb, by rw [Nat.zero_mul], by omega, h2, hc1, by rw [hc2]; exact h4⟩
  · obtain rfl : zs = [] := List.eq_nil_of_length_eq_zero h0
    refine (Go.Proofs.Any.slices_Compact_int_empty Ly A 0 w).mono ?_
    rintro e w' ⟨rfl, rfl⟩
    have hH : H.set i (.cells 1 (rowI (compactAll [])) 0) = H := by
      refine ah_ext (fun q => ?_) rfl
      show (if q = i then _ else H.obj q) = H.obj q
      split
      · rename_i e; subst e; rw [ho]; simp [compactAll, Lib.compact, Lib.compactUpTo]
      · rfl
    rw [hH]
    refine ⟨_, _, ρ, _, ⟨rfl, rfl⟩, rfl, hh, Ext.refl hh, ?_⟩
    simp only [Rep]
    exact .inr ⟨by simp [Lib.compact, Lib.compactUpTo], hlt, A, rfl⟩
theorem compact_nil {ρf : Shelf.Ren} (Ly : Go.Proofs.Lays2.n20 P ρf) (hcall : callable P (ρf.f 20) = true) : ACalls P (ρf.f 20) [.nilS] H fun r H' => r = .nilS ∧ H' = H := by
  refine ⟨hcall, fun ρ w xs hh hr => ?_⟩
  simp only [RepL, Rep] at hr
  obtain ⟨x, _, rfl, rfl, rfl⟩ := hr
  refine (Go.Proofs.Any.slices_Compact_int_empty Ly none 0 w).mono ?_
  rintro e w' ⟨rfl, rfl⟩
  exact ⟨_, _, ρ, _, ⟨rfl, rfl⟩, rfl, hh, Ext.refl hh, by simp only [Rep]⟩
end Go.Sim
