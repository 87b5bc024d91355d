/- Stores, appends and maps, over abstract values. Conditions: none. -/
import Derived.Test.YtnoajklojkmonaaGreatSimD
set_option linter.unusedVariables false
set_option linter.unusedSimpArgs false
namespace Go.Sim

variable {P : Program} {ρ : Nat → Option Nat} {H : AH} {w : World}

/-- One block has been written, that of the object i, which is the object k now. -/
structure Wrote (ρ : Nat → Option Nat) (H : AH) (w : World) (ρ' : Nat → Option Nat) (H' : AH) (i k b z fz : Nat) (es es' : List (List AV)) (ccs ccs' : Array Value) (t : TypeId) (xss' : List (List Value)) : Prop where
  ho : H.obj i = some (.cells z es fz)
  hb : ρ i = some b
  hw : w.heap[b]? = some (.cells ccs t (0, 0))
  ho' : H'.obj k = some (.cells z es' fz)
  hk : k = i ∨ k = H.nxt
  hρk : ρ' k = some b
  hρ : ∀ j, j < H.nxt → ρ' j = ρ j
  hρ' : ∀ j b', ρ' j = some b' → j = k ∨ ρ j = some b'
  other : ∀ j o, H'.obj j = some o → j ≠ k → H.obj j = some o ∧ j ≠ i
  nxt : H.nxt ≤ H'.nxt
  klt : k < H'.nxt
  size : ccs'.size = ccs.size
  low : ∀ j, j < fz * z → ccs'[j]? = ccs[j]?
  rep : RepLL ρ H w es' xss'
  len : ∀ e ∈ es', e.length = z
  fz : fz ≤ es'.length
  room : es'.length * z ≤ ccs.size
  at_ : ∀ (j l : Nat) xs v, xss'[j]? = some xs → xs[l]? = some v → ccs'[j * z + l]? = some v

theorem Wrote.ext {ρ' : Nat → Option Nat} {H' : AH} {i k b z fz : Nat} {es es' : List (List AV)} {ccs ccs' : Array Value} {t : TypeId} {xss' : List (List Value)} (hh : Holds ρ H w)
    (h : Wrote ρ H w ρ' H' i k b z fz es es' ccs ccs' t xss') : Ext ρ H w ρ' H' (w.setRow b ccs') where
  old := fun j b' hj => (hh.bound j b' hj).1
  agree := fun j b' hj => by rw [h.hρ j (hh.bound j b' hj).1]; exact hj
  new := fun j b' hj => by
    rcases h.hρ' j b' hj with rfl | h1
    · rcases h.hk with h2 | h2
      · rw [h.hρk] at hj
        injection hj with hj
        subst hj
        exact .inl (by rw [h2]; exact h.hb)
      · rw [h.hρk] at hj
        injection hj with hj
        subst hj
        exact .inr ⟨by omega, .inr ⟨i, _, h.ho, h.hb⟩⟩
    · exact .inl h1
  live := fun j o ho hj => by
    by_cases hjk : j = k
    · subst hjk
      rcases h.hk with h2 | h2
      · exact ⟨_, by rw [h2]; exact h.ho⟩
      · omega
    · exact ⟨o, (h.other j o ho hjk).1⟩
  nxt := h.nxt
  imm := fun a v hc hi => by
    constructor
    · by_cases hab : a.block = b
      · have hlt := hi i z es fz h.ho (by rw [hab]; exact h.hb)
        rw [← hc]
        unfold World.cell?
        rw [hab, setRow_heap w b ccs ccs' t (0, 0) h.hw, h.hw]
        simp only []
        rw [h.low _ hlt]
      · rw [← hc]
        unfold World.cell?
        rw [setRow_other w b a.block ccs' hab]
    · intro j z' es2 fz2 ho hρ
      by_cases hjk : j = k
      · subst hjk
        rw [h.ho'] at ho
        injection ho with ho
        injection ho with e1 e2 e3
        subst e1 e3
        rw [h.hρk] at hρ
        exact hi i _ es _ h.ho (h.hb.trans hρ)
      · rcases h.hρ' j _ hρ with h1 | h1
        · exact absurd h1 hjk
        · exact hi j _ _ _ (h.other j _ ho hjk).1 h1
  size := by simp [World.setRow]
  rest := fun b' hb' hno => setRow_other w b b' ccs' fun e => hno i _ h.ho (by rw [e]; exact h.hb)
  shape := fun b' cs t' fr hc => by
    by_cases e : b' = b
    · subst e
      rw [h.hw] at hc
      injection hc with hc
      injection hc with e1 e2 e3
      subst e1 e2 e3
      exact ⟨ccs', setRow_heap w b' ccs ccs' t (0, 0) h.hw, h.size⟩
    · exact ⟨cs, by rw [setRow_other w b b' ccs' e]; exact hc, rfl⟩
  os := rfl
  tape := rfl
  output := rfl

theorem Wrote.holds {ρ' : Nat → Option Nat} {H' : AH} {i k b z fz : Nat} {es es' : List (List AV)} {ccs ccs' : Array Value} {t : TypeId} {xss' : List (List Value)} (hh : Holds ρ H w)
    (h : Wrote ρ H w ρ' H' i k b z fz es es' ccs ccs' t xss') : Holds ρ' H' (w.setRow b ccs') where
  obj := fun j o ho => by
    by_cases hjk : j = k
    · subst hjk
      rw [h.ho'] at ho
      injection ho with ho
      subst ho
      exact .inl ⟨b, ccs', t, xss', h.hρk, setRow_heap w b ccs ccs' t (0, 0) h.hw, h.len, RepLL.ext (h.ext hh) _ _ h.rep, h.fz, by rw [h.size]; exact h.room, h.at_⟩
    · obtain ⟨h1, h2⟩ := h.other j o ho hjk
      refine (hh.obj j o h1).ext (h.ext hh) (hh.lt j o h1) fun b' hb' => setRow_other w b b' ccs' fun e => ?_
      subst e
      exact h2 (hh.inj j i b' _ _ h1 h.ho hb' h.hb)
  inj := fun j l b' oj ol hj hl hbj hbl => by
    by_cases h1 : j = k <;> by_cases h2 : l = k
    · rw [h1, h2]
    · subst h1
      obtain ⟨h3, h4⟩ := h.other l ol hl h2
      rw [h.hρk] at hbj
      injection hbj with hbj
      subst hbj
      rcases h.hρ' l _ hbl with h5 | h5
      · exact h5.symm
      · exact absurd (hh.inj l i _ _ _ h3 h.ho h5 h.hb) h4
    · subst h2
      obtain ⟨h3, h4⟩ := h.other j oj hj h1
      rw [h.hρk] at hbl
      injection hbl with hbl
      subst hbl
      rcases h.hρ' j _ hbj with h5 | h5
      · exact h5
      · exact absurd (hh.inj j i _ _ _ h3 h.ho h5 h.hb) h4
    · obtain ⟨h3, _⟩ := h.other j oj hj h1
      obtain ⟨h4, _⟩ := h.other l ol hl h2
      rcases h.hρ' j _ hbj with h5 | h5
      · exact absurd h5 h1
      rcases h.hρ' l _ hbl with h6 | h6
      · exact absurd h6 h2
      exact hh.inj j l b' _ _ h3 h4 h5 h6
  lt := fun j o ho => by
    by_cases hjk : j = k
    · rw [hjk]; exact h.klt
    · exact Nat.lt_of_lt_of_le (hh.lt j o (h.other j o ho hjk).1) h.nxt
  bound := fun j b' hj => by
    have hs : (w.setRow b ccs').heap.size = w.heap.size := by simp [World.setRow]
    rw [hs]
    rcases h.hρ' j b' hj with rfl | h1
    · rw [h.hρk] at hj
      injection hj with hj
      subst hj
      exact ⟨h.klt, (hh.bound i _ h.hb).2⟩
    · have := hh.bound j b' h1
      exact ⟨Nat.lt_of_lt_of_le this.1 h.nxt, this.2⟩

/-! ### Stores -/
def astore (P : Program) (t : TypeId) (H : AH) (x v : AV) : Option (Prop × AV × AH) :=
  match x with
  | .ptr i z e c =>
    match H.obj i with
    | some (.cells z' es fz) =>
      some (z' = z ∧ fz ≤ e ∧ e < es.length ∧ c + (acells v).length ≤ z ∧ v.fit = true ∧ (acells v).all AV.one = true ∧ (tload P t).map (·.1) = some (acells v).length, .any, H.set i (.cells z (es.set e (splice (es.getD e []) c (acells v))) fz))
    | _ => none
  | _ => none

def MadeU (P : Program) (ρ : Nat → Option Nat) (H : AH) (w : World) (s : Sem Unit) (H' : AH) : Prop :=
  ∃ w' ρ', s.run P w = .ok () w' ∧ Holds ρ' H' w' ∧ Ext ρ H w ρ' H' w'

theorem ones_ok {vs : List AV} {xs : List Value} (h : vs.all AV.one = true) (hr : RepL ρ H w vs xs) : ∀ x ∈ xs, x.oneCell' = true := by
  intro x hx
  obtain ⟨j, hj⟩ := List.getElem?_of_mem hx
  have hlt : j < vs.length := by rw [← hr.length]; exact (List.getElem?_eq_some_iff.1 hj).1
  have hv : vs[j]? = some vs[j] := List.getElem?_eq_getElem hlt
  exact one_ok (List.all_eq_true.1 h _ (List.getElem_mem hlt)) (hr.get_both hv hj)

theorem made_store (hh : Holds ρ H w) {t : TypeId} {vx vv : AV} {x v : Value} {φ : Prop} {r : AV} {H' : AH} (h : astore P t H vx vv = some (φ, r, H')) (hφ : φ) (hx : Rep ρ H w vx x) (hv : Rep ρ H w vv v) :
    MadeU P ρ H w (Instr.storeAt t x v) H' ∧ r = .any := by
  unfold astore at h
  split at h
  · rename_i i z e c
    split at h
    · rename_i z' es fz ho
      simp only [Option.some.injEq, Prod.mk.injEq] at h
      obtain ⟨rfl, rfl, rfl⟩ := h
      obtain ⟨rfl, h1, h2, h3, h4, h5, h6⟩ := hφ
      refine ⟨?_, rfl⟩
      simp only [Rep] at hx
      obtain ⟨b, hb, rfl⟩ := hx
      simp only [Option.map_eq_some_iff] at h6
      obtain ⟨⟨n, g⟩, ht, hn⟩ := h6
      simp only [] at hn
      obtain ⟨hs, _, _⟩ := tload_ok ht w
      have hc := acells_ok h4 hv
      have hcl : v.cells.size = n := by rw [hn, ← hc.length]; simp
      rcases hh.obj i _ ho with ⟨b', ccs, t', xss, k1, k2, k3, k4, k5, k6, k7⟩ | ⟨k1, _⟩
      · rw [hb] at k1
        injection k1 with k1
        subst k1
        have he : es[e]? = some es[e] := List.getElem?_eq_getElem h2
        have hg : es.getD e [] = es[e] := by simp [List.getD_eq_getElem?_getD, he]
        obtain ⟨xs, hxs, hr⟩ := k4.get he
        have hez : es[e].length = z' := k3 _ (List.getElem_mem h2)
        have hxz : xs.length = z' := by rw [hr.length, hez]
        have hle : e * z' + z' ≤ ccs.size := by
          have : (e + 1) * z' ≤ es.length * z' := Nat.mul_le_mul_right _ h2
          rw [Nat.succ_mul] at this
          omega
        have hst := run_storeCells_at (P := P) b (e * z' + c) t' v.cells.toList 0 ccs w k2 (by simp only [Array.length_toList, hcl, Nat.add_zero]; omega) (ones_ok h5 hc)
        simp only [Nat.add_zero, Array.length_toList] at hst
        have hW : Wrote ρ H w ρ (H.set i (.cells z' (es.set e (splice (es.getD e []) c (acells vv))) fz)) i i b z' fz es (es.set e (splice (es.getD e []) c (acells vv))) ccs
            (ccs.toList.take (e * z' + c) ++ v.cells.toList ++ ccs.toList.drop (e * z' + c + v.cells.size)).toArray t' (xss.set e (xs.take c ++ v.cells.toList ++ xs.drop (c + (acells vv).length))) := {
          ho := ho
          hb := hb
          hw := k2
          ho' := by simp [AH.set]
          hk := .inl rfl
          hρk := hb
          hρ := fun _ _ => rfl
          hρ' := fun j b' hj => .inr hj
          other := fun j o hj hne => by simp only [AH.set] at hj; rw [if_neg hne] at hj; exact ⟨hj, hne⟩
          nxt := Nat.le_refl _
          klt := hh.lt i _ ho
          size := by simp; omega
          low := fun j hj => by
            have : fz * z' ≤ e * z' := Nat.mul_le_mul_right _ h1
            simp only [List.getElem?_toArray]
            rw [List.append_assoc, List.getElem?_append_left (by simp; omega), List.getElem?_take, if_pos (by omega), Array.getElem?_toList]
          rep := by
            rw [hg]
            refine RepLL.mk (by simp [k4.length]) fun j u y hu hy => ?_
            by_cases hij : e = j
            · subst hij
              rw [List.getElem?_set_self h2] at hu
              rw [List.getElem?_set_self (by rw [k4.length]; exact h2)] at hy
              injection hu with hu
              injection hy with hy
              subst hu hy
              exact hr.splice hc c
            · rw [List.getElem?_set_ne hij] at hu hy
              exact k4.get_both hu hy
          len := fun u hu => by
            rcases List.mem_or_eq_of_mem_set hu with h | h
            · exact k3 u h
            · subst h
              rw [hg]
              simp only [splice, List.length_append, List.length_take, List.length_drop, hez]
              omega
          fz := by simp; exact k5
          room := by simp; exact k6
          at_ := fun j l ys u hj hl => by
            simp only [List.getElem?_toArray]
            by_cases hij : e = j
            · subst hij
              rw [List.getElem?_set_self (by rw [k4.length]; exact h2)] at hj
              injection hj with hj
              subst hj
              rw [List.append_assoc] at hl ⊢
              rw [List.getElem?_append] at hl ⊢
              simp only [List.length_take, hxz, Array.length_toList] at hl ⊢
              have m1 : min c z' = c := by omega
              have m2 : min (e * z' + c) ccs.size = e * z' + c := by omega
              rw [m1] at hl
              rw [m2]
              by_cases hlc : l < c
              · rw [if_pos hlc] at hl
                rw [if_pos (by omega), List.getElem?_take, if_pos (by omega), Array.getElem?_toList]
                rw [List.getElem?_take, if_pos hlc] at hl
                exact k7 e l xs u hxs hl
              · rw [if_neg hlc] at hl
                rw [if_neg (by omega), show e * z' + l - (e * z' + c) = l - c by omega]
                rw [List.getElem?_append] at hl ⊢
                simp only [Array.length_toList] at hl ⊢
                by_cases hlv : l - c < v.cells.size
                · rw [if_pos hlv] at hl ⊢
                  exact hl
                · rw [if_neg hlv] at hl ⊢
                  rw [List.getElem?_drop] at hl ⊢
                  rw [Array.getElem?_toList]
                  have hll : (acells vv).length = v.cells.size := by rw [hcl, hn]
                  rw [hll, show c + v.cells.size + (l - c - v.cells.size) = l by omega] at hl
                  rw [show e * z' + c + v.cells.size + (l - c - v.cells.size) = e * z' + l by omega]
                  exact k7 e l xs u hxs hl
            · rw [List.getElem?_set_ne hij] at hj
              have hold := k7 j l ys u hj hl
              have hlz : l < z' := by
                have := (List.getElem?_eq_some_iff.1 hl).1
                rw [k4.elem_length k3 ys (List.mem_of_getElem? hj)] at this
                exact this
              have hvn : v.cells.size ≤ z' - c := by omega
              rw [List.append_assoc, List.getElem?_append]
              simp only [List.length_take, Array.length_toList]
              have m2 : min (e * z' + c) ccs.size = e * z' + c := by omega
              rw [m2]
              rcases Nat.lt_or_gt_of_ne hij with hlt | hgt
              · have h7 : (e + 1) * z' ≤ j * z' := Nat.mul_le_mul_right _ hlt
                rw [Nat.succ_mul] at h7
                rw [if_neg (by omega), List.getElem?_append_right (by simp only [Array.length_toList]; omega), List.getElem?_drop, Array.getElem?_toList]
                simp only [Array.length_toList]
                rw [show e * z' + c + v.cells.size + (j * z' + l - (e * z' + c) - v.cells.size) = j * z' + l by omega]
                exact hold
              · have h7 : (j + 1) * z' ≤ e * z' := Nat.mul_le_mul_right _ hgt
                rw [Nat.succ_mul] at h7
                rw [if_pos (by omega), List.getElem?_take, if_pos (by omega), Array.getElem?_toList]
                exact hold }
        refine ⟨_, _, ?_, hW.holds hh, hW.ext hh⟩
        have hne : ¬ (v.cells.size ≠ n) := by simp [hcl]
        simp only [Instr.storeAt, Instr.sureAddr, Sem.run_bind, Sem.run_pure, Result.andThen_ok, storeVar, hs, if_neg hne, hst]
      · rw [hb] at k1; cases k1
    · cases h
  · cases h


/-! ### append -/
/-- A slice's cells can be read. -/
def Reads (w : World) (A : Option Addr) (xs : List Value) : Prop := xs = [] ∨ ∃ a, A = some a ∧ ∀ (j : Nat) v, xs[j]? = some v → w.cell? (a.add j) = some v

theorem run_firstCells {A : Option Addr} {k c z : Nat} {xs : List Value} (h : Reads w A xs) (hl : xs.length = k * z) : (Builtin.firstCells z k (.slice A k c)).run P w = .ok xs.toArray w := by
  cases A with
  | none =>
    rcases h with rfl | ⟨a, h, _⟩
    · rfl
    · cases h
  | some a =>
    simp only [Builtin.firstCells]
    rw [← hl]
    refine run_loadCells_list w a xs ?_
    rcases h with rfl | ⟨a', h, h'⟩
    · intro j v hv; simp at hv
    · injection h with h
      subst h
      exact h'

theorem run_append_in {t e : TypeId} {i : TypeInfo} (hu : P.underlying t = some (.slice e)) (hi : P.info? e = some i) (ty : TypeId) {a : Addr} {n cap k c : Nat} {B : Option Addr} {news : List Value} {w' : World}
    (hb : Reads w B news) (hl : news.length = k * i.size) (hc : n + k ≤ cap) (hs : (storeCells (a.add (n * i.size)) news).run P w = .ok () w') :
    (Builtin.append_ #[t, t] ty #[.slice (some a) n cap, .slice B k c]).run P w = .ok (.slice (some a) (n + k) cap) w' := by
  have hf := run_firstCells (P := P) (c := c) hb hl
  simp [Builtin.append_, run_underlying hu, sizeOf, typeInfo, hi, Builtin.lenOf, hc, hf, hs]

theorem run_append_nil {t e : TypeId} {i : TypeInfo} (hu : P.underlying t = some (.slice e)) (hi : P.info? e = some i) (ty : TypeId) {A : Option Addr} {c : Nat} {B : Option Addr} (hb : Reads w B []) :
    (Builtin.append_ #[t, t] ty #[.slice A 0 0, .slice B 0 c]).run P w = .ok (.slice A 0 0) w := by
  have hf := run_firstCells (P := P) (c := c) (k := 0) (z := i.size) hb (by simp)
  cases A with
  | none => simp [Builtin.append_, run_underlying hu, sizeOf, typeInfo, hi, Builtin.lenOf, hf]
  | some a => simp [Builtin.append_, run_underlying hu, sizeOf, typeInfo, hi, Builtin.lenOf, hf, storeCells]

theorem growBy_le : ∀ (r c n : Nat), c ≤ 2 * n → Builtin.growBy n r c ≤ 2 * n + 768 → Builtin.growBy n r c ≤ 2 * n + 768 := fun _ _ _ _ h => h

theorem run_append_new {t e : TypeId} {i : TypeInfo} {zv : Value} (hu : P.underlying t = some (.slice e)) (hi : P.info? e = some i) (hz : i.zero = some zv) (ty : TypeId) {A B : Option Addr} {n cap k c : Nat} {olds news : List Value}
    (ha : Reads w A olds) (hla : olds.length = n * i.size) (hb : Reads w B news) (hl : news.length = k * i.size) (hc : cap < n + k) (hcap : n ≤ cap) (hby : 0 < i.bytes) (hsz : (n + k) * i.bytes ≤ 140737488355328) (hmax : n + k ≤ 9223372036854775807) :
    ∃ more : List Value, ∃ cap', n + k ≤ cap' ∧ cap' ≤ 9223372036854775807 ∧ more.length = (cap' - (n + k)) * zv.cells.size ∧
    (Builtin.append_ #[t, t] ty #[.slice A n cap, .slice B k c]).run P w = .ok (.slice (some ⟨w.heap.size, 0, none⟩) (n + k) cap') (w.drew.alloc (.cells (olds ++ news ++ more).toArray e)) := by
  have hd : Reads w.drew A olds := ha
  have hd' : Reads w.drew B news := hb
  have hf := run_firstCells (P := P) (c := c) hd' hl
  have hf' := run_firstCells (P := P) (c := cap) hd hla
  let cap' := Question.cut (.appendCap (n + k) cap e) (w.tape w.drawn (.appendCap (n + k) cap e))
  have hcut : cap' = (n + k) + (w.tape w.drawn (.appendCap (n + k) cap e)) % (2 ^ 63 - (n + k)) := rfl
  refine ⟨(Builtin.zeroCells zv.cells (cap' - (n + k))).toList, cap', by omega, ?_, by simp [Builtin.zeroCells], ?_⟩
  · have : (w.tape w.drawn (.appendCap (n + k) cap e)) % (2 ^ 63 - (n + k)) < 2 ^ 63 - (n + k) := Nat.mod_lt _ (by omega)
    omega
  · have hn1 : ¬ (n + k ≤ cap) := by omega
    have hn2 : ¬ (((n + k : Nat) : Int) > IntKind.i64.max ∧ ((false = true) ∨ i.bytes = 0)) := by
      intro h
      rcases h.2 with h | h
      · cases h
      · omega
    have hnext : Builtin.nextslicecap (n + k) cap ≤ 2 * (n + k) := by
      unfold Builtin.nextslicecap
      split
      · omega
      · split
        · omega
        · rename_i h1 h2
          have step : ∀ r c0, c0 ≤ 2 * (n + k) → 256 ≤ c0 → Builtin.growBy (n + k) r c0 ≤ 2 * (n + k) := by
            intro r
            induction r with
            | zero => intro c0 h _; simpa [Builtin.growBy] using h
            | succ r ih =>
              intro c0 h h6
              simp only [Builtin.growBy]
              split
              · exact h
              · rename_i hlt
                exact ih _ (by omega) (by omega)
          exact step 4 cap (by omega) (by omega)
    have hn3 : ¬ (Builtin.nextslicecap (n + k) cap * i.bytes > 2 ^ 48) := by
      have := Nat.mul_le_mul_right i.bytes hnext
      rw [Nat.mul_assoc] at this
      omega
    have hq : (Question.appendCap (n + k) cap e).forced = false := rfl
    have hfold : ({ w with drawn := w.drawn + 1 } : World) = w.drew := rfl
    have hzc : ∀ W : World, (zeroValue e).run P W = .ok zv W := fun W => by simp [zeroValue, typeInfo, hi, hz]
    have hcut' : (Question.appendCap (n + k) cap e).cut (w.tape w.drawn (.appendCap (n + k) cap e)) = cap' := rfl
    have hlen : Builtin.lenOf (.slice B k c) = pure k := rfl
    simp only [Builtin.append_, List.getElem?_toArray, List.getElem?_cons_zero, List.getElem?_cons_succ, Sem.run_bind, run_underlying hu, Result.andThen_ok, sizeOf, typeInfo, run_program, hi, Sem.run_pure, hlen, if_neg hn1, Bool.false_eq_true,
      if_false, if_neg hn2, if_neg hn3, run_choose, hq, hfold, hcut', run_askRoom, hf, hf', hzc, Bool.not_false, if_true, run_newRow, Sem.run_ite, false_or, List.append_toArray]
    rw [if_neg (by omega)]
    have harr : ((olds ++ news).toArray ++ Builtin.zeroCells zv.cells (cap' - (n + k))) = (olds ++ news ++ (Builtin.zeroCells zv.cells (cap' - (n + k))).toList).toArray := by
      apply Array.ext'
      simp
    rw [harr]
    rfl


/-- The elements of a slice that is read. -/
def srcEs (H : AH) (z : Nat) : AV → Option (Prop × List (List AV))
  | .sl es => some (True, es)
  | .rsl j z' o n =>
    match H.obj j with
    | some (.cells z'' es _) => some (z' = z ∧ z'' = z ∧ o + n ≤ es.length, (es.drop o).take n)
    | _ => none
  | .esl => some (True, [])
  | .lit (.slice none 0 0) => some (True, [])
  | _ => none

theorem srcEs_ok (hh : Holds ρ H w) {z : Nat} {v : AV} {x : Value} {φ : Prop} {us : List (List AV)} (h : srcEs H z v = some (φ, us)) (hφ : φ) (hr : Rep ρ H w v x) (hz : ∀ e ∈ us, e.length = z) :
    ∃ B c xss, x = .slice B us.length c ∧ RepLL ρ H w us xss ∧ Reads w B xss.flatten := by
  unfold srcEs at h
  split at h
  · rename_i es
    simp only [Option.some.injEq, Prod.mk.injEq] at h
    obtain ⟨rfl, rfl⟩ := h
    simp only [Rep] at hr
    obtain ⟨A, cap, rfl, h1, h2, h3⟩ := hr
    by_cases hne : es = []
    · subst hne
      exact ⟨A, cap, [], rfl, by simp only [RepLL], .inl rfl⟩
    · obtain ⟨a, z', xss, rfl, h4, h5, h6⟩ := h3 hne
      refine ⟨_, cap, xss, rfl, h5, .inr ⟨a, rfl, fun j v hv => ?_⟩⟩
      have hxz := h5.elem_length hz
      have hzz : z' = z := by
        cases es with
        | nil => exact absurd rfl hne
        | cons e es => rw [← h4 e (by simp), hz e (by simp)]
      subst hzz
      have hlt := (List.getElem?_eq_some_iff.1 hv).1
      rw [flat_length hxz] at hlt
      have hpos : 0 < z' := by
        rcases Nat.eq_zero_or_pos z' with h | h
        · subst h; simp at hlt
        · exact h
      have hj : j / z' < xss.length := Nat.div_lt_of_lt_mul (by rw [Nat.mul_comm]; exact hlt)
      have hg : xss[j / z']? = some xss[j / z'] := List.getElem?_eq_getElem hj
      have hm : j % z' < xss[j / z'].length := by rw [hxz _ (List.getElem_mem hj)]; exact Nat.mod_lt _ hpos
      have hgm : xss[j / z'][j % z']? = some xss[j / z'][j % z'] := List.getElem?_eq_getElem hm
      have hff := flat_get hxz hg hgm
      have hdm : j / z' * z' + j % z' = j := by rw [Nat.mul_comm]; exact Nat.div_add_mod j z'
      rw [hdm, hv] at hff
      have hc := (h6 _ _ hg _ _ hgm).1
      rw [add_add, hdm] at hc
      rw [hc, ← hff]
  · rename_i j z' o n
    split at h
    · rename_i z'' es fz ho
      simp only [Option.some.injEq, Prod.mk.injEq] at h
      obtain ⟨rfl, rfl⟩ := h
      obtain ⟨rfl, rfl, hle⟩ := hφ
      have hlen : ((es.drop o).take n).length = n := by simp; omega
      rw [hlen]
      simp only [Rep] at hr
      rcases hr with ⟨b, cap, ccs', t', fr, hb, rfl, h3, h4, h5, h6⟩ | ⟨rfl, hjn, A, rfl⟩
      · rcases hh.obj j _ ho with ⟨b', ccs, t, xss, k1, k2, k3, k4, k5, k6, k7⟩ | ⟨k1, _⟩
        · rw [hb] at k1
          injection k1 with k1
          subst k1
          refine ⟨_, cap, (xss.drop o).take n, rfl, (k4.drop o).take n, .inr ⟨_, rfl, fun l v hv => ?_⟩⟩
          have hxz0 := k4.elem_length k3
          have hxz : ∀ xs ∈ (xss.drop o).take n, xs.length = z'' := fun xs hxs => hxz0 xs (List.mem_of_mem_drop (List.mem_of_mem_take hxs))
          have hlt := (List.getElem?_eq_some_iff.1 hv).1
          rw [flat_length hxz] at hlt
          have hpos : 0 < z'' := by
            rcases Nat.eq_zero_or_pos z'' with h | h
            · subst h; simp at hlt
            · exact h
          have hj : l / z'' < ((xss.drop o).take n).length := Nat.div_lt_of_lt_mul (by rw [Nat.mul_comm]; exact hlt)
          have hg : ((xss.drop o).take n)[l / z'']? = some ((xss.drop o).take n)[l / z''] := List.getElem?_eq_getElem hj
          have hm : l % z'' < ((xss.drop o).take n)[l / z''].length := by rw [hxz _ (List.getElem_mem hj)]; exact Nat.mod_lt _ hpos
          have hgm : ((xss.drop o).take n)[l / z''][l % z'']? = some ((xss.drop o).take n)[l / z''][l % z''] := List.getElem?_eq_getElem hm
          have hff := flat_get hxz hg hgm
          have hdm : l / z'' * z'' + l % z'' = l := by rw [Nat.mul_comm]; exact Nat.div_add_mod l z''
          rw [hdm, hv] at hff
          have hg' : xss[o + l / z'']? = some ((xss.drop o).take n)[l / z''] := by
            rw [← hg, List.getElem?_take, if_pos (by simp at hj; omega), List.getElem?_drop]
          have hc := k7 _ _ _ _ hg' hgm
          rw [add_flat]
          simp only [World.cell?, k2, Option.isSome_none, Bool.false_eq_true, if_false]
          rw [hff, ← hc]
          congr 1
          rw [Nat.add_mul]
          omega
        · rw [hb] at k1; cases k1
      · exact ⟨A, 0, [], rfl, by simp only [List.take_zero, RepLL], .inl rfl⟩
    · cases h
  · simp only [Option.some.injEq, Prod.mk.injEq] at h
    obtain ⟨rfl, rfl⟩ := h
    simp only [Rep] at hr
    obtain ⟨A, rfl⟩ := hr
    exact ⟨A, 0, [], rfl, by simp only [RepLL], .inl rfl⟩
  · simp only [Option.some.injEq, Prod.mk.injEq] at h
    obtain ⟨rfl, rfl⟩ := h
    simp only [Rep] at hr
    subst hr
    exact ⟨none, 0, [], rfl, by simp only [RepLL], .inl rfl⟩
  · cases h

def aappend (P : Program) (t : TypeId) (H : AH) (v u : AV) : Option (Prop × AV × AH) :=
  match tzeroE P t with
  | none => none
  | some (zs, by_) =>
    match srcEs H zs.length u with
    | none => none
    | some (ψ, us) =>
      match v with
      | .rsl i z 0 n =>
        match H.obj i with
        | some (.cells z' es fz) =>
          some (ψ ∧ z = zs.length ∧ z' = zs.length ∧ n ≤ es.length ∧ fz ≤ n ∧ (∀ e ∈ us, e.length = zs.length) ∧ (∀ e ∈ us, e.all AV.one = true) ∧ 0 < by_ ∧ (n + us.length) * by_ ≤ 140737488355328,
            .rsl H.nxt zs.length 0 (n + us.length), (H.del i).add (.cells zs.length (es.take n ++ us) fz))
        | _ => none
      | .esl | .lit (.slice none 0 0) =>
        some (ψ ∧ (∀ e ∈ us, e.length = zs.length) ∧ 0 < by_ ∧ us.length * by_ ≤ 140737488355328, .rsl H.nxt zs.length 0 us.length, H.add (.cells zs.length us 0))
      | _ => none

/-- Onto a slice that has no room. -/
theorem made_append_new (hh : Holds ρ H w) {t e : TypeId} {i : TypeInfo} {zv : Value} (hu : P.underlying t = some (.slice e)) (hi : P.info? e = some i) (hz : i.zero = some zv) (hcs : zv.cells.size = i.size) (hpos : 0 < i.size) (hby : 0 < i.bytes) (ty : TypeId)
    {A B : Option Addr} {n cap c fz : Nat} {os us : List (List AV)} {oss uss : List (List Value)} (ho : RepLL ρ H w os oss) (hoz : ∀ e ∈ os, e.length = i.size) (ha : Reads w A oss.flatten) (hn : os.length = n)
    (hu' : RepLL ρ H w us uss) (huz : ∀ e ∈ us, e.length = i.size) (hb : Reads w B uss.flatten) (hc : cap < n + us.length) (hcap : n ≤ cap) (hsz : (n + us.length) * i.bytes ≤ 140737488355328) (hf : fz ≤ n) :
    ∃ x w', (Builtin.append_ #[t, t] ty #[.slice A n cap, .slice B us.length c]).run P w = .ok x w' ∧
      Rep (upd ρ H.nxt (some w.heap.size)) (H.add (.cells i.size (os ++ us) fz)) w' (.rsl H.nxt i.size 0 (n + us.length)) x ∧ Holds (upd ρ H.nxt (some w.heap.size)) (H.add (.cells i.size (os ++ us) fz)) w' ∧
      Ext ρ H w (upd ρ H.nxt (some w.heap.size)) (H.add (.cells i.size (os ++ us) fz)) w' := by
  have hmax : n + us.length ≤ 9223372036854775807 := by
    have := Nat.le_mul_of_pos_right (n + us.length) hby
    omega
  have hol := flat_length (ho.elem_length hoz)
  have hul := flat_length (hu'.elem_length huz)
  rw [ho.length, hn] at hol
  rw [hu'.length] at hul
  obtain ⟨more, cap', h1, h2, h3, hrun⟩ := run_append_new (P := P) hu hi hz ty ha hol hb hul hc hcap hby hsz hmax
  have hh' : Holds ρ H w.drew := hh.heap rfl rfl rfl rfl
  have he0 : Ext ρ H w ρ H w.drew := Ext.heap hh rfl rfl rfl rfl
  have hr := (RepLL.ext he0 _ _ ho).append (RepLL.ext he0 _ _ hu')
  have he := Ext.alloc hh' (.cells (oss.flatten ++ uss.flatten ++ more).toArray e) (.cells i.size (os ++ us) fz)
  have hlen : ∀ e ∈ os ++ us, e.length = i.size := fun e h => by rcases List.mem_append.1 h with h | h; exact hoz e h; exact huz e h
  refine ⟨_, _, hrun, ?_, hh'.alloc _ _ ?_, he0.trans he⟩
  · simp only [Rep]
    refine .inl ⟨_, cap', _, e, (0, 0), upd_self _ _, by simp, h1, by simp only [maxLen]; omega, heap_push_new w.drew _, ?_⟩
    simp only [List.size_toArray, List.length_append, hol, hul, h3, hcs, Nat.zero_add]
    rw [← Nat.add_mul, ← Nat.add_mul]
    exact Nat.mul_le_mul_right _ (by omega)
  · exact ObjOk.row (more := more) (upd_self _ _) (heap_push_new w.drew _) (by simp) (RepLL.ext he _ _ hr) hlen (by simp; omega)


theorem Ext.del (hh : Holds ρ H w) (i : Nat) : Ext ρ H w ρ (H.del i) w where
  old := fun i b hi => (hh.bound i b hi).1
  agree := fun _ _ h => h
  new := fun _ _ h => .inl h
  live := fun j o ho hj => by
    simp only [AH.del] at ho
    split at ho
    · cases ho
    · exact ⟨o, ho⟩
  nxt := Nat.le_refl _
  imm := fun a v hc hi => ⟨hc, fun j z es fz ho hρ => by
    simp only [AH.del] at ho
    split at ho
    · cases ho
    · exact hi j z es fz ho hρ⟩
  size := Nat.le_refl _
  rest := fun _ _ _ => rfl
  shape := fun b cs t fr hc => ⟨cs, hc, rfl⟩
  os := rfl
  tape := rfl
  output := rfl

theorem Holds.del (hh : Holds ρ H w) (i : Nat) : Holds ρ (H.del i) w where
  obj := fun j o ho => by
    have he := Ext.del hh i
    simp only [AH.del] at ho
    split at ho
    · cases ho
    · exact (hh.obj j o ho).ext he (hh.lt j o ho) fun _ _ => rfl
  inj := fun j l b oj ol hj hl hbj hbl => by
    simp only [AH.del] at hj hl
    split at hj
    · cases hj
    · split at hl
      · cases hl
      · exact hh.inj j l b oj ol hj hl hbj hbl
  lt := fun j o ho => by
    simp only [AH.del] at ho
    split at ho
    · cases ho
    · exact hh.lt j o ho
  bound := hh.bound

theorem flat_rep {es : List (List AV)} {xss : List (List Value)} (h : RepLL ρ H w es xss) : RepL ρ H w es.flatten xss.flatten := by
  induction es generalizing xss with
  | nil => simp only [RepLL] at h; subst h; simp only [List.flatten_nil, RepL]
  | cons e es ih =>
    simp only [RepLL] at h
    obtain ⟨y, ys, rfl, h1, h2⟩ := h
    exact h1.append (ih h2)

theorem add_ne {H : AH} {o : AObj} {j : Nat} (h : j ≠ H.nxt) : (H.add o).obj j = H.obj j := by simp only [AH.add]; rw [if_neg h]
theorem del_some {H : AH} {o : AObj} {i j : Nat} (h : (H.del i).obj j = some o) : H.obj j = some o ∧ j ≠ i := by
  simp only [AH.del] at h
  split at h
  · cases h
  · rename_i hj; exact ⟨h, hj⟩

theorem made_append (hh : Holds ρ H w) {t : TypeId} {ty : TypeId} {vv vu : AV} {x y : Value} {φ : Prop} {r : AV} {H' : AH} (h : aappend P t H vv vu = some (φ, r, H')) (hφ : φ) (hx : Rep ρ H w vv x) (hy : Rep ρ H w vu y) :
    Made P ρ H w (Builtin.append_ #[t, t] ty #[x, y]) r H' := by
  unfold aappend at h
  split at h
  · cases h
  rename_i zs by_ hz
  split at h
  · cases h
  rename_i ψ us hsrc
  obtain ⟨e, i, zv, hu, hi, hzv, rfl, hsz, hpos, rfl, hcs, hzero, hsize⟩ := tzeroE_ok hz w
  rw [← hsz] at hsrc hpos
  have fresh : ∀ (A : Option Addr) (hψ : ψ) (huz : ∀ e ∈ us, e.length = i.size) (hby : 0 < i.bytes) (hle : us.length * i.bytes ≤ 140737488355328),
      Made P ρ H w (Builtin.append_ #[t, t] ty #[.slice A 0 0, y]) (.rsl H.nxt i.size 0 us.length) (H.add (.cells i.size us 0)) := by
    intro A hψ huz hby hle
    obtain ⟨B, c, uss, rfl, hru, hrd⟩ := srcEs_ok hh hsrc hψ hy huz
    rcases Nat.eq_zero_or_pos us.length with h0 | h0
    · obtain rfl : us = [] := List.eq_nil_of_length_eq_zero h0
      refine ⟨_, _, ρ, run_append_nil hu hi ty (.inl rfl), ?_, hh.ghost _, Ext.ghost hh _⟩
      simp only [Rep]
      exact .inr ⟨rfl, Nat.lt_succ_self _, _, rfl⟩
    · obtain ⟨x, w', h1, h2, h3, h4⟩ := made_append_new (P := P) hh hu hi hzv hcs hpos hby ty (A := A) (n := 0) (cap := 0) (c := c) (fz := 0) (os := []) (oss := []) (by simp only [RepLL]) (by simp) (.inl rfl) rfl hru huz hrd (by omega) (Nat.le_refl _) (by rw [Nat.zero_add]; exact hle) (Nat.le_refl _)
      simp only [Nat.zero_add, List.nil_append] at h1 h2 h3 h4
      exact ⟨x, w', _, h1, h2, h3, h4⟩
  split at h
  · rename_i k z n
    split at h
    · rename_i z' es fz ho
      simp only [Option.some.injEq, Prod.mk.injEq, ← hsz] at h
      obtain ⟨rfl, rfl, rfl⟩ := h
      obtain ⟨hψ, rfl, rfl, hn, hf, huz, huo, hby, hle⟩ := hφ
      have hd := hh.del k
      have hde := Ext.del hh k
      simp only [Rep] at hx
      rcases hx with ⟨b, cap, ccs', t', fr, hb, rfl, h3, h4, h5, h6⟩ | ⟨rfl, hjn, A, rfl⟩
      · obtain ⟨B, c, uss, rfl, hru, hrd⟩ := srcEs_ok hh hsrc hψ hy huz
        rcases hh.obj k _ ho with ⟨b', ccs, t2, xss, k1, k2, k3, k4, k5, k6, k7⟩ | ⟨k1, _⟩
        · rw [hb] at k1
          injection k1 with k1
          subst k1
          rw [k2] at h5
          injection h5 with h5
          injection h5 with e1 e2 e3
          subst e1 e2
          simp only [Nat.zero_mul, Nat.zero_add] at h6 ⊢
          have hol := flat_length ((k4.take n).elem_length fun e he => k3 e (List.mem_of_mem_take he))
          have hul := flat_length (hru.elem_length huz)
          rw [(k4.take n).length] at hol
          rw [hru.length] at hul
          have htl : (es.take n).length = n := by simp; omega
          rw [htl] at hol
          by_cases hc : n + us.length ≤ cap
          · have hroom : (n + us.length) * i.size ≤ ccs.size := Nat.le_trans (Nat.mul_le_mul_right _ hc) h6
            rw [Nat.add_mul] at hroom
            have hones : ∀ v ∈ uss.flatten, v.oneCell' = true := ones_ok (by
              rw [List.all_eq_true]
              intro c hc
              obtain ⟨e, he, hce⟩ := List.mem_flatten.1 hc
              exact List.all_eq_true.1 (huo e he) c hce) (flat_rep hru)
            have hst := run_storeCells_at (P := P) b (n * i.size) t2 uss.flatten 0 ccs w k2 (by rw [hul]; omega) hones
            simp only [Nat.add_zero, hul] at hst
            have hW : Wrote ρ H w (upd ρ H.nxt (some b)) ((H.del k).add (.cells i.size (es.take n ++ us) fz)) k H.nxt b i.size fz es (es.take n ++ us) ccs
                (ccs.toList.take (n * i.size) ++ uss.flatten ++ ccs.toList.drop (n * i.size + us.length * i.size)).toArray t2 (xss.take n ++ uss) := {
              ho := ho
              hb := hb
              hw := k2
              ho' := by simp [AH.add, AH.del]
              hk := .inr rfl
              hρk := upd_self _ _
              hρ := fun j hj => by simp only [upd]; rw [if_neg (by omega)]
              hρ' := fun j b' hj => by
                simp only [upd] at hj
                split at hj
                · rename_i hj'; exact .inl hj'
                · exact .inr hj
              other := fun j o hj hne => by
                have hj2 : (H.del k).obj j = some o := by rw [← hj]; exact (add_ne (H := H.del k) hne).symm
                exact del_some hj2
              nxt := by simp [AH.add, AH.del]
              klt := by simp [AH.add, AH.del]
              size := by simp only [List.size_toArray, List.length_append, List.length_take, List.length_drop, Array.length_toList, hul]; omega
              low := fun j hj => by
                have : fz * i.size ≤ n * i.size := Nat.mul_le_mul_right _ hf
                simp only [List.getElem?_toArray]
                rw [List.append_assoc, List.getElem?_append_left (by simp; omega), List.getElem?_take, if_pos (by omega), Array.getElem?_toList]
              rep := (k4.take n).append hru
              len := fun u hu => by
                rcases List.mem_append.1 hu with h | h
                · exact k3 u (List.mem_of_mem_take h)
                · exact huz u h
              fz := by simp; omega
              room := by
                simp only [List.length_append, htl]
                rw [Nat.add_mul]
                exact hroom
              at_ := fun j l ys u hj hl => by
                simp only [List.getElem?_toArray]
                have hall : ∀ xs ∈ xss.take n ++ uss, xs.length = i.size := fun xs hxs => by
                  rcases List.mem_append.1 hxs with h | h
                  · exact k4.elem_length k3 xs (List.mem_of_mem_take h)
                  · exact hru.elem_length huz xs h
                have hflat := flat_get hall hj hl
                have hlt := (List.getElem?_eq_some_iff.1 hflat).1
                rw [List.flatten_append] at hflat hlt
                simp only [List.length_append, hol, hul] at hlt
                by_cases hjn : j * i.size + l < n * i.size
                · rw [List.append_assoc, List.getElem?_append_left (by simp; omega), List.getElem?_take, if_pos hjn, Array.getElem?_toList]
                  have hjlt : j < n := by
                    rcases Nat.lt_or_ge j n with h | h
                    · exact h
                    · have := Nat.mul_le_mul_right i.size h
                      omega
                  refine k7 j l ys u ?_ hl
                  rw [List.getElem?_append_left (by simp [k4.length]; omega), List.getElem?_take, if_pos hjlt] at hj
                  exact hj
                · rw [List.getElem?_append_right (by rw [hol]; omega), hol] at hflat
                  rw [List.append_assoc, List.getElem?_append_right (by simp; omega)]
                  simp only [List.length_take, Array.length_toList]
                  rw [show min (n * i.size) ccs.size = n * i.size by omega]
                  rw [List.getElem?_append_left (by rw [hul]; omega)]
                  exact hflat }
            refine ⟨_, _, _, run_append_in hu hi ty hrd hul hc (by rw [add_flat, Nat.zero_add]; exact hst), ?_, hW.holds hh, hW.ext hh⟩
            simp only [Rep]
            refine .inl ⟨b, cap, _, t2, (0, 0), upd_self _ _, by simp, hc, h4, setRow_heap w b ccs _ t2 (0, 0) k2, ?_⟩
            simp only [List.size_toArray, List.length_append, List.length_take, List.length_drop, Array.length_toList, hul, Nat.zero_add]
            omega
          · have hra : Reads w (some ⟨b, 0, none⟩) (xss.take n).flatten := by
              refine .inr ⟨_, rfl, fun l v hv => ?_⟩
              have hxz : ∀ xs ∈ xss.take n, xs.length = i.size := fun xs hxs => k4.elem_length k3 xs (List.mem_of_mem_take hxs)
              have hlt := (List.getElem?_eq_some_iff.1 hv).1
              rw [flat_length hxz] at hlt
              have hj : l / i.size < (xss.take n).length := Nat.div_lt_of_lt_mul (by rw [Nat.mul_comm]; exact hlt)
              have hg : (xss.take n)[l / i.size]? = some (xss.take n)[l / i.size] := List.getElem?_eq_getElem hj
              have hm : l % i.size < (xss.take n)[l / i.size].length := by rw [hxz _ (List.getElem_mem hj)]; exact Nat.mod_lt _ hpos
              have hgm : (xss.take n)[l / i.size][l % i.size]? = some (xss.take n)[l / i.size][l % i.size] := List.getElem?_eq_getElem hm
              have hff := flat_get hxz hg hgm
              have hdm : l / i.size * i.size + l % i.size = l := by rw [Nat.mul_comm]; exact Nat.div_add_mod l i.size
              rw [hdm, hv] at hff
              have hg' : xss[l / i.size]? = some (xss.take n)[l / i.size] := by
                rw [← hg, List.getElem?_take, if_pos (by simp at hj; omega)]
              have hc := k7 _ _ _ _ hg' hgm
              rw [hdm] at hc
              rw [add_flat, Nat.zero_add]
              simp only [World.cell?, k2, Option.isSome_none, Bool.false_eq_true, if_false]
              rw [hc, hff]
            have := made_append_new (P := P) hd hu hi hzv hcs hpos hby ty (A := some ⟨b, 0, none⟩) (n := n) (cap := cap) (c := c) (fz := fz) (RepLL.ext hde _ _ (k4.take n)) (fun e he => k3 e (List.mem_of_mem_take he)) hra htl (RepLL.ext hde _ _ hru) huz hrd (by omega) h3 hle hf
            obtain ⟨x, w', h1, h2, h3', h4'⟩ := this
            exact ⟨x, w', _, h1, h2, h3', hde.trans h4'⟩
        · rw [hb] at k1; cases k1
      · obtain rfl : fz = 0 := by omega
        obtain ⟨B, c, uss, rfl, hru, hrd⟩ := srcEs_ok hh hsrc hψ hy huz
        simp only [List.take_zero, List.nil_append, Nat.zero_add] at hle ⊢
        rcases Nat.eq_zero_or_pos us.length with h0 | h0
        · obtain rfl : us = [] := List.eq_nil_of_length_eq_zero h0
          refine ⟨_, _, ρ, run_append_nil hu hi ty (.inl rfl), ?_, hd.ghost _, hde.trans (Ext.ghost hd _)⟩
          simp only [Rep]
          exact .inr ⟨rfl, Nat.lt_succ_self _, _, rfl⟩
        · obtain ⟨x, w', h1, h2, h3, h4⟩ := made_append_new (P := P) hd hu hi hzv hcs hpos hby ty (A := A) (n := 0) (cap := 0) (c := c) (fz := 0) (os := []) (oss := []) (by simp only [RepLL]) (by simp) (.inl rfl) rfl (RepLL.ext hde _ _ hru) huz hrd (by omega) (Nat.le_refl _) (by rw [Nat.zero_add]; exact hle) (Nat.le_refl _)
          simp only [Nat.zero_add, List.nil_append] at h1 h2 h3 h4
          exact ⟨x, w', _, h1, h2, h3, hde.trans h4⟩
    · cases h
  · simp only [Option.some.injEq, Prod.mk.injEq, ← hsz] at h
    obtain ⟨rfl, rfl, rfl⟩ := h
    obtain ⟨hψ, huz, hby, hle⟩ := hφ
    simp only [Rep] at hx
    obtain ⟨A, rfl⟩ := hx
    exact fresh A hψ huz hby hle
  · simp only [Option.some.injEq, Prod.mk.injEq, ← hsz] at h
    obtain ⟨rfl, rfl, rfl⟩ := h
    obtain ⟨hψ, huz, hby, hle⟩ := hφ
    simp only [Rep] at hx
    subst hx
    exact fresh none hψ huz hby hle
  · cases h

end Go.Sim
