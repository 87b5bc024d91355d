/- What the row rests on, part 4. Conditions: none. -/
import Derived.Test.YtojfhjejenaclaaGreatM3
set_option linter.unusedSimpArgs false
set_option linter.unusedVariables false
namespace Go.Sim.Tryz
open Go Go.Sim

structure Df where
  cols : Int
  rows : Int
structure Qy where
  occ : List Int
  p : List Ex
  by_ : Int
  sums : List Int
  out : List Int
  ord : Int

def Df.may (d : Df) : Bool := decide (1 ≤ d.cols) && decide (d.cols ≤ 4) && (decide (1 ≤ d.rows) && decide (d.rows ≤ 1000000))
def catMay (c : List Df) : Bool := decide (1 ≤ c.length) && decide (c.length ≤ 4) && c.all Df.may
def dfO : Df := ⟨0, 0⟩
/-- The columns of an occurrence of table t. -/
def tabCols (c : List Df) (t : Int) : Int := if 0 ≤ t ∧ t < c.length then (c.getD t.toNat dfO).cols else 0
def isCol (c : List Df) (q : Qy) (id : Int) : Bool := decide (0 ≤ id) && decide (id ≤ 15) && decide (id / 4 < q.occ.length) && decide (id % 4 < tabCols c (q.occ.getD (id / 4).toNat (-1)))
def colsIn (c : List Df) (q : Qy) (is : Nat → Bool) : List Int := (upto 16).filter fun id => isCol c q id && is (id / 4).toNat
def tabOk (c : List Df) (t : Int) : Bool := decide (0 ≤ t) && decide (t < c.length)
def within (l of : List Int) : Bool := l.all fun n => of.contains n
def endMay (q : Qy) (cols : List Int) : Bool :=
  if q.by_ = -1 then decide (1 ≤ q.out.length) && decide (q.out.length ≤ 8) && decide q.out.Nodup && within q.out cols && decide (q.sums.length = 0) && (decide (q.ord = -1) || q.out.contains q.ord)
  else within [q.by_] cols && decide (q.sums.length ≤ 4) && within q.sums cols && decide (q.out.length = 0) && (decide (q.ord = -1) || decide (q.ord = q.by_))
def exIn (cols : List Int) (e : Ex) : Bool := !decide (e.cols.length = 0) && within e.cols cols
def Qy.may (c : List Df) (q : Qy) : Bool :=
  catMay c && decide (1 ≤ q.occ.length) && decide (q.occ.length ≤ 4) && q.occ.all (tabOk c) && decide (q.p.length ≤ 6) && q.p.all (exIn (colsIn c q fun _ => true)) && endMay q (colsIn c q fun _ => true)

/-- An expression's set. -/
def hasOcc (e : Ex) (i : Nat) : Bool := e.cols.any fun c => decide (c / 4 = i)
def setE (e : Ex) : Int := ofBits (hasOcc e)
def exO : Ex := .mk 0 0 0 0 []
def idxF (p : Ex → Bool) (P : List Ex) : List Int := (upto P.length).filter fun i => p (P.getD i.toNat exO)
def ownT (s : Int) (e : Ex) : Bool := holdsI s (setE e)
def newT (a b : Int) (e : Ex) : Bool := ownT (bor .i64 a b) e && !ownT a e && !ownT b e
def Qy.own (q : Qy) (s : Int) : List Int := idxF (ownT s) q.p
def Qy.new (q : Qy) (a b : Int) : List Int := idxF (newT a b) q.p

theorem setE_range (e : Ex) : 0 ≤ setE e ∧ setE e ≤ 15 := ofBits_range _
theorem setE_bit (e : Ex) (i : Nat) (hi : i < 4) : bitI (setE e) i = hasOcc e i := ofBits_bit _ i hi
theorem getD_left {α : Type} (l m : List α) (i : Nat) (d : α) (h : i < l.length) : (l ++ m).getD i d = l.getD i d := by
  rw [List.getD_eq_getElem?_getD, List.getD_eq_getElem?_getD, List.getElem?_append_left h]
theorem upto_snoc (n : Nat) : upto (n + 1) = upto n ++ [(n : Int)] := by simp [upto, List.range_succ]
theorem idxF_snoc (p : Ex → Bool) (P : List Ex) (e : Ex) : idxF p (P ++ [e]) = idxF p P ++ (if p e then [(P.length : Int)] else []) := by
  unfold idxF
  rw [List.length_append, List.length_singleton, upto_snoc, List.filter_append]
  have h1 : (upto P.length).filter (fun i => p ((P ++ [e]).getD i.toNat exO)) = (upto P.length).filter fun i => p (P.getD i.toNat exO) := by
    refine List.filter_congr fun i hi => ?_
    rw [upto_mem] at hi
    have : i.toNat < P.length := by omega
    rw [getD_left _ _ _ _ this]
  rw [h1]
  congr 1
  have h2 : (P ++ [e]).getD ((P.length : Int)).toNat exO = e := by simp
  rw [List.filter_cons, h2]
  split <;> simp_all
theorem idxF_congr {p r : Ex → Bool} {P : List Ex} (h : ∀ e ∈ P, p e = r e) : idxF p P = idxF r P := by
  refine List.filter_congr fun i hi => ?_
  rw [upto_mem] at hi
  have hlt : i.toNat < P.length := by omega
  rw [List.getD_eq_getElem?_getD, List.getElem?_eq_getElem hlt]
  exact h _ (List.getElem_mem hlt)
theorem idxF_mem (p : Ex → Bool) (P : List Ex) (i : Int) : i ∈ idxF p P ↔ 0 ≤ i ∧ i < P.length ∧ p (P.getD i.toNat exO) = true := by
  rw [idxF, List.mem_filter, upto_mem, and_assoc]
theorem holdsI_iff (s t : Int) : holdsI s t = true ↔ ∀ i, i < 4 → bitI t i = true → bitI s i = true := by
  rw [holdsI, List.all_eq_true]
  constructor
  · intro h i hi ht
    have := h i (List.mem_range.2 hi)
    simpa [ht] using this
  · intro h i hi
    have := h i (List.mem_range.1 hi)
    cases ht : bitI t i
    · rfl
    · simp [this ht]
theorem ownT_iff (s : Int) (e : Ex) : ownT s e = true ↔ ∀ i, i < 4 → hasOcc e i = true → bitI s i = true := by
  rw [ownT, holdsI_iff]
  constructor
  · intro h i hi ht
    exact h i hi (by rw [setE_bit e i hi]; exact ht)
  · intro h i hi ht
    exact h i hi (by rw [← setE_bit e i hi]; exact ht)
theorem ownT_congr {s t : Int} (h : ∀ i, i < 4 → bitI s i = bitI t i) (e : Ex) : ownT s e = ownT t e := by
  rw [Bool.eq_iff_iff, ownT_iff, ownT_iff]
  constructor
  · intro h1 i hi ht; rw [← h i hi]; exact h1 i hi ht
  · intro h1 i hi ht; rw [h i hi]; exact h1 i hi ht
theorem newT_comm (a b : Int) (e : Ex) : newT a b e = newT b a e := by
  unfold newT
  rw [ownT_congr (s := bor .i64 a b) (t := bor .i64 b a) (fun i hi => by rw [bor_bit _ _ i hi, bor_bit _ _ i hi, Bool.or_comm])]
  cases ownT (bor .i64 b a) e <;> cases ownT a e <;> cases ownT b e <;> rfl

/-- Sets without a common occurrence. -/
def disjS (a b : Int) : Prop := ∀ i, i < 4 → ¬ (bitI a i = true ∧ bitI b i = true)
theorem apart_band {a b : Int} (h : band .i64 a b = 0) : disjS a b := by
  intro i hi ⟨h1, h2⟩
  have := band_bit a b i hi
  rw [h, h1, h2] at this
  have hz : bitI 0 i = false := by simp [bitI]
  rw [hz] at this
  cases this
def ind (b : Bool) : Nat := if b then 1 else 0
theorem new_comm (q : Qy) (a b : Int) : q.new a b = q.new b a := idxF_congr fun e _ => newT_comm a b e

end Go.Sim.Tryz
set_option linter.unusedSimpArgs false
set_option linter.unusedVariables false
namespace Go.Sim.Tryz
open Go Go.Sim

theorem fine_of_may {e : Ex} (h : e.may = true) : fineE e = true := by
  rw [may_eq, Bool.and_eq_true, Bool.and_eq_true] at h
  exact h.1.1
theorem fine_col {c k n : Int} {l : List Ex} (h : fineE (Ex.mk 1 c k n l) = true) : l = [] ∧ 0 ≤ c ∧ c ≤ 15 := by
  rw [fineE, Bool.and_eq_true] at h
  obtain ⟨_, _, h3, h4, _⟩ := (part_iff _ _ _ _ _).1 h.1
  have h5 : wayHi 1 = 0 := by decide
  rw [h5] at h3
  refine ⟨List.length_eq_zero_iff.1 (by omega), by omega, by omega⟩
theorem cols_mem {e : Ex} (h : e.may = true) (c : Int) : c ∈ e.cols ↔ c ∈ colsOf e := by
  rw [cols_eq, if_pos h]
  exact uniq_mem _ c
/-- What a pair is. -/
theorem pair_spec {e : Ex} (his : e.pair.2.2 = true) : e.may = true ∧ e.pair.1 ≠ e.pair.2.1 ∧ (0 ≤ e.pair.1 ∧ e.pair.1 ≤ 15) ∧ (0 ≤ e.pair.2.1 ∧ e.pair.2.1 ≤ 15) ∧ ∀ c, c ∈ e.cols ↔ c = e.pair.1 ∨ c = e.pair.2.1 := by
  obtain ⟨op, col, k, n, l⟩ := e
  unfold Ex.pair at his
  split at his
  · rename_i op' col' k' n' x y heq
    injection heq with e1 e2 e3 e4 e5
    subst e1 e2 e3 e4 e5
    split at his
    · rename_i hc
      have hp : (Ex.mk op col k n [x, y]).pair = (x.col, y.col, true) := by rw [Ex.pair, if_pos hc]
      simp only [Bool.and_eq_true, decide_eq_true_eq, Bool.not_eq_true', decide_eq_false_iff_not] at hc
      obtain ⟨⟨⟨⟨hmay, c1⟩, c2⟩, c3⟩, c4⟩ := hc
      have hx := fine_of_may (may_part hmay (x := x) (by simp))
      have hy := fine_of_may (may_part hmay (x := y) (by simp))
      obtain ⟨xo, xc, xk, xn, xl⟩ := x
      obtain ⟨yo, yc, yk, yn, yl⟩ := y
      simp only [Ex.op] at c2 c3
      subst c1 c2 c3
      obtain ⟨rfl, x1, x2⟩ := fine_col hx
      obtain ⟨rfl, y1, y2⟩ := fine_col hy
      rw [hp]
      dsimp only [Ex.col] at c4 ⊢
      refine ⟨hmay, c4, ⟨x1, x2⟩, ⟨y1, y2⟩, fun c => ?_⟩
      rw [cols_mem hmay]
      simp [colsOf, colsOfL]
    · cases his
  · cases his
theorem pair_occ {e : Ex} (his : e.pair.2.2 = true) (i : Nat) : hasOcc e i = (decide (e.pair.1 / 4 = i) || decide (e.pair.2.1 / 4 = i)) := by
  obtain ⟨_, _, _, _, h⟩ := pair_spec his
  rw [Bool.eq_iff_iff, hasOcc, List.any_eq_true, Bool.or_eq_true, decide_eq_true_eq, decide_eq_true_eq]
  constructor
  · rintro ⟨c, hc, hd⟩
    rw [decide_eq_true_eq] at hd
    rcases (h c).1 hc with rfl | rfl
    · exact .inl hd
    · exact .inr hd
  · rintro (h1 | h1)
    · exact ⟨_, (h _).2 (.inl rfl), decide_eq_true h1⟩
    · exact ⟨_, (h _).2 (.inr rfl), decide_eq_true h1⟩

/-- An occurrence's bit, by a column. -/
def bitC (s c : Int) : Bool := bitI s (c / 4).toNat
def pairOf (a b : Int) (e : Ex) : List (Int × Int) :=
  if e.pair.2.2 then
    if bitC a e.pair.1 && bitC b e.pair.2.1 then [(e.pair.1, e.pair.2.1)] else if bitC a e.pair.2.1 && bitC b e.pair.1 then [(e.pair.2.1, e.pair.1)] else []
  else []
def pairsF (a b : Int) (P : List Ex) (l : List Int) : List (Int × Int) := l.flatMap fun i => pairOf a b (P.getD i.toNat exO)
def Qy.pairs (q : Qy) (a b : Int) : List (Int × Int) := pairsF a b q.p (q.new a b)
def ordOne (e : Ex) : List Int := if e.pair.2.2 then [e.pair.1, e.pair.2.1] else []
def ordEnd (id : Int) : List Int := if 0 ≤ id ∧ id ≤ 15 then [id] else []
def Qy.ordAll (q : Qy) : List Int := [-1] ++ q.p.flatMap ordOne ++ ordEnd q.by_ ++ ordEnd q.ord
def Qy.orders (q : Qy) : List Int := uniq q.ordAll

theorem own_pair {s : Int} {e : Ex} (his : e.pair.2.2 = true) : ownT s e = (bitC s e.pair.1 && bitC s e.pair.2.1) := by
  obtain ⟨_, _, h1, h2, _⟩ := pair_spec his
  rw [Bool.eq_iff_iff, ownT_iff, Bool.and_eq_true]
  constructor
  · intro h
    refine ⟨h (e.pair.1 / 4).toNat (by omega) ?_, h (e.pair.2.1 / 4).toNat (by omega) ?_⟩
    · rw [pair_occ his, decide_eq_true (by omega), Bool.true_or]
    · rw [pair_occ his, decide_eq_true (p := e.pair.2.1 / 4 = _) (by omega), Bool.or_true]
  · rintro ⟨h3, h4⟩ i hi h
    rw [pair_occ his, Bool.or_eq_true, decide_eq_true_eq, decide_eq_true_eq] at h
    rcases h with h | h
    · have : i = (e.pair.1 / 4).toNat := by omega
      subst this; exact h3
    · have : i = (e.pair.2.1 / 4).toNat := by omega
      subst this; exact h4
theorem apart_c {a b : Int} (h : disjS a b) {c : Int} (h0 : 0 ≤ c) (h1 : c ≤ 15) : ¬ (bitC a c = true ∧ bitC b c = true) := h _ (by omega)
theorem bor_c (a b c : Int) (h0 : 0 ≤ c) (h1 : c ≤ 15) : bitC (bor .i64 a b) c = (bitC a c || bitC b c) := bor_bit a b _ (by omega)
/-- Of what is new of two that are disjS each pair has one column of each. -/
theorem pairOf_new {a b : Int} (h : disjS a b) {e : Ex} (hn : newT a b e = true) : pairOf b a e = (pairOf a b e).map Prod.swap ∧
    ((e.pair.2.2 = false ∧ pairOf a b e = []) ∨ e.pair.2.2 = true ∧ ∃ x y, pairOf a b e = [(x, y)] ∧ (0 ≤ x ∧ x ≤ 15) ∧ (0 ≤ y ∧ y ≤ 15) ∧ bitC a x = true ∧ bitC b y = true ∧ x ≠ y ∧ ((x = e.pair.1 ∧ y = e.pair.2.1) ∨ (x = e.pair.2.1 ∧ y = e.pair.1))) := by
  by_cases his : e.pair.2.2 = true
  · obtain ⟨_, hne, h1, h2, _⟩ := pair_spec his
    simp only [newT, own_pair his, bor_c _ _ _ h1.1 h1.2, bor_c _ _ _ h2.1 h2.2, Bool.and_eq_true, Bool.or_eq_true, Bool.not_eq_true'] at hn
    have hx := apart_c h h1.1 h1.2
    have hy := apart_c h h2.1 h2.2
    unfold pairOf
    rw [if_pos his, if_pos his]
    obtain ⟨⟨hn1, hn2⟩, hn3⟩ := hn
    cases ha1 : bitC a e.pair.1 <;> cases ha2 : bitC a e.pair.2.1 <;> cases hb1 : bitC b e.pair.1 <;> cases hb2 : bitC b e.pair.2.1 <;> simp_all
    · exact ⟨_, _, ⟨rfl, rfl⟩, h2, h1, ha2, hb1, fun h => hne h.symm, .inr ⟨rfl, rfl⟩⟩
    · exact ⟨_, _, ⟨rfl, rfl⟩, h1, h2, ha1, hb2, hne, .inl ⟨rfl, rfl⟩⟩
  · have h0 : e.pair.2.2 = false := Bool.eq_false_iff.2 his
    unfold pairOf
    rw [if_neg his, if_neg his]
    exact ⟨rfl, .inl ⟨h0, rfl⟩⟩
theorem flat_len {α β : Type} (f : α → List β) : ∀ l : List α, (∀ x ∈ l, (f x).length ≤ 1) → (l.flatMap f).length ≤ l.length
  | [], _ => Nat.le_refl _
  | x :: l, h => by
    rw [List.flatMap_cons, List.length_append, List.length_cons]
    have := flat_len f l fun y hy => h y (by simp [hy])
    have := h x (by simp)
    omega
theorem pairOf_len (a b : Int) (e : Ex) : (pairOf a b e).length ≤ 1 := by unfold pairOf; split <;> (try split) <;> (try split) <;> simp
theorem pairs_len (q : Qy) (a b : Int) : (q.pairs a b).length ≤ (q.new a b).length := flat_len _ _ fun i _ => pairOf_len _ _ _
theorem new_mem {q : Qy} {a b i : Int} (h : i ∈ q.new a b) : newT a b (q.p.getD i.toNat exO) = true ∧ q.p.getD i.toNat exO ∈ q.p := by
  rw [Qy.new, idxF_mem] at h
  refine ⟨h.2.2, ?_⟩
  have hlt : i.toNat < q.p.length := by omega
  rw [List.getD_eq_getElem?_getD, List.getElem?_eq_getElem hlt]
  exact List.getElem_mem hlt
theorem pairs_swap (q : Qy) {a b : Int} (h : disjS a b) : q.pairs b a = (q.pairs a b).map Prod.swap := by
  unfold Qy.pairs pairsF
  rw [new_comm q b a, List.map_flatMap, List.flatMap_def, List.flatMap_def]
  congr 1
  exact List.map_congr_left fun i hi => (pairOf_new h (new_mem hi).1).1
theorem ord_mem (q : Qy) (x : Int) : x ∈ q.orders ↔ x = -1 ∨ (∃ e ∈ q.p, e.pair.2.2 = true ∧ (x = e.pair.1 ∨ x = e.pair.2.1)) ∨ (0 ≤ x ∧ x ≤ 15 ∧ (x = q.by_ ∨ x = q.ord)) := by
  rw [Qy.orders, uniq_mem, Qy.ordAll]
  simp only [List.mem_append, List.mem_singleton, List.mem_flatMap, or_assoc]
  have h1 : ∀ e : Ex, x ∈ ordOne e ↔ e.pair.2.2 = true ∧ (x = e.pair.1 ∨ x = e.pair.2.1) := by
    intro e
    unfold ordOne
    split <;> simp_all
  have h2 : ∀ id : Int, x ∈ ordEnd id ↔ 0 ≤ x ∧ x ≤ 15 ∧ x = id := by
    intro id
    unfold ordEnd
    split
    · rw [List.mem_singleton]; omega
    · simp only [List.not_mem_nil, false_iff]; omega
  simp only [h1, h2]
  refine or_congr Iff.rfl (or_congr Iff.rfl ?_)
  omega
theorem pairs_mem {q : Qy} {a b : Int} (h : disjS a b) {p : Int × Int} (hp : p ∈ q.pairs a b) :
    (0 ≤ p.1 ∧ p.1 ≤ 15) ∧ (0 ≤ p.2 ∧ p.2 ≤ 15) ∧ bitC a p.1 = true ∧ bitC b p.2 = true ∧ p.1 ≠ p.2 ∧ p.1 ∈ q.orders ∧ p.2 ∈ q.orders := by
  unfold Qy.pairs pairsF at hp
  rw [List.mem_flatMap] at hp
  obtain ⟨i, hi, hp⟩ := hp
  obtain ⟨hn, hm⟩ := new_mem hi
  rcases (pairOf_new h hn).2 with ⟨_, h0⟩ | ⟨his, x, y, h0, h1, h2, h3, h4, h5, h6⟩
  · rw [h0] at hp; cases hp
  · rw [h0, List.mem_singleton] at hp
    subst hp
    refine ⟨h1, h2, h3, h4, h5, ?_, ?_⟩
    · rw [ord_mem]
      exact .inr (.inl ⟨_, hm, his, h6.elim (fun h => .inl h.1) fun h => .inr h.1⟩)
    · rw [ord_mem]
      exact .inr (.inl ⟨_, hm, his, h6.elim (fun h => .inr h.2) fun h => .inl h.2⟩)
theorem count_two : ∀ {l : List Int} {x y : Int}, l.Nodup → x ≠ y → x ∈ l → y ∈ l → l.countP (fun k => decide (k = x) || decide (k = y)) = 2 := by
  have one : ∀ {l : List Int} {x : Int}, l.Nodup → x ∈ l → l.countP (fun k => decide (k = x)) = 1 := by
    intro l x hn hx
    have := List.Nodup.count (a := x) hn
    rw [if_pos hx] at this
    rw [← this, List.count]
    congr 1
  have add : ∀ (l : List Int) (x y : Int), x ≠ y → l.countP (fun k => decide (k = x) || decide (k = y)) = l.countP (fun k => decide (k = x)) + l.countP (fun k => decide (k = y)) := by
    intro l x y hxy
    induction l with
    | nil => rfl
    | cons z l ih =>
      rw [List.countP_cons, List.countP_cons, List.countP_cons, ih]
      by_cases h1 : z = x
      · have h2 : z ≠ y := fun h => hxy (h1.symm.trans h)
        simp [h1, h2, hxy]
        omega
      · by_cases h2 : z = y
        · subst h2
          simp [h1]
          omega
        · simp [h1, h2]
  intro l x y hn hxy hx hy
  rw [add l x y hxy, one hn hx, one hn hy]
theorem orders_head (q : Qy) : ∃ l, q.orders = -1 :: l := by
  have hm : (-1 : Int) ∈ q.orders := (ord_mem q _).2 (.inl rfl)
  have hp := uniq_pw q.ordAll
  change q.orders.Pairwise (· < ·) at hp
  cases h : q.orders with
  | nil => rw [h] at hm; cases hm
  | cons x l =>
    rw [h] at hm hp
    rcases List.mem_cons.1 hm with rfl | hm2
    · exact ⟨l, rfl⟩
    · exfalso
      have h1 := (List.pairwise_cons.1 hp).1 _ hm2
      have h2 := (ord_mem q x).1 (by rw [h]; simp)
      rcases h2 with h2 | ⟨e, he, his, h2⟩ | h2
      · omega
      · obtain ⟨_, _, h3, h4, _⟩ := pair_spec his
        omega
      · omega
end Go.Sim.Tryz
set_option linter.unusedSimpArgs false
set_option linter.unusedVariables false
namespace Go.Sim.Tryz
open Go Go.Sim

/-- The columns of the first k occurrences, as the program tells them. -/
def tabOf (c : List Df) (q : Qy) (o : Nat) : Int := tabCols c (q.occ.getD o (-1))
def colsFrom (o : Nat) (n : Nat) : List Int := (upto n).map fun i => 4 * (o : Int) + i
def colsTo (c : List Df) (q : Qy) (is : Nat → Bool) : Nat → List Int
  | 0 => []
  | k + 1 => colsTo c q is k ++ (if is k then colsFrom k (tabOf c q k).toNat else [])
theorem colsFrom_snoc (o n : Nat) : colsFrom o (n + 1) = colsFrom o n ++ [4 * (o : Int) + n] := by rw [colsFrom, upto_snoc, List.map_append]; rfl
theorem colsFrom_mem (o n : Nat) (x : Int) : x ∈ colsFrom o n ↔ 4 * (o : Int) ≤ x ∧ x < 4 * o + n := by
  rw [colsFrom, List.mem_map]
  constructor
  · rintro ⟨i, hi, rfl⟩
    rw [upto_mem] at hi
    omega
  · intro h
    exact ⟨x - 4 * o, (upto_mem _ _).2 (by omega), by omega⟩
theorem colsFrom_pw (o n : Nat) : (colsFrom o n).Pairwise (· < ·) := by
  rw [colsFrom, List.pairwise_map]
  exact (upto_pw n).imp fun h => by omega
theorem tab_range {c : List Df} (h : catMay c = true) (t : Int) : 0 ≤ tabCols c t ∧ tabCols c t ≤ 4 := by
  unfold tabCols
  split
  · rename_i h1
    have hlt : t.toNat < c.length := by omega
    rw [List.getD_eq_getElem?_getD, List.getElem?_eq_getElem hlt, Option.getD_some]
    simp only [catMay, Bool.and_eq_true, List.all_eq_true] at h
    have h3 := h.2 _ (List.getElem_mem hlt)
    simp only [Df.may, Bool.and_eq_true, decide_eq_true_eq] at h3
    omega
  · omega
theorem colsTo_mem {c : List Df} (h : catMay c = true) (q : Qy) (is : Nat → Bool) : ∀ k (x : Int), x ∈ colsTo c q is k ↔ 0 ≤ x ∧ x < 4 * (k : Int) ∧ is (x / 4).toNat = true ∧ x % 4 < tabOf c q (x / 4).toNat
  | 0, x => by
    rw [colsTo]
    simp only [List.not_mem_nil, false_iff]
    omega
  | k + 1, x => by
    rw [colsTo, List.mem_append, colsTo_mem h q is k]
    have hr := tab_range h (q.occ.getD k (-1))
    have hin : (x ∈ if is k = true then colsFrom k (tabOf c q k).toNat else []) ↔ is k = true ∧ 4 * (k : Int) ≤ x ∧ x < 4 * k + tabOf c q k := by
      have ht : ((tabOf c q k).toNat : Int) = tabOf c q k := Int.toNat_of_nonneg hr.1
      split
      · rename_i hk
        rw [colsFrom_mem, ht]
        simp [hk]
      · rename_i hk
        simp [hk]
    rw [hin]
    have ht4 : tabOf c q k ≤ 4 := hr.2
    constructor
    · rintro (⟨h1, h2, h3⟩ | ⟨h1, h2, h3⟩)
      · exact ⟨h1, by omega, h3⟩
      · have e : (x / 4).toNat = k := by omega
        rw [e]
        exact ⟨by omega, by omega, h1, by omega⟩
    · rintro ⟨h1, h2, h3, h4⟩
      by_cases hx : x < 4 * (k : Int)
      · exact .inl ⟨h1, hx, h3, h4⟩
      · have e : (x / 4).toNat = k := by omega
        rw [e] at h3 h4
        exact .inr ⟨h3, by omega, by omega⟩
theorem colsTo_pw {c : List Df} (h : catMay c = true) (q : Qy) (is : Nat → Bool) : ∀ k, (colsTo c q is k).Pairwise (· < ·)
  | 0 => List.Pairwise.nil
  | k + 1 => by
    rw [colsTo, List.pairwise_append]
    refine ⟨colsTo_pw h q is k, ?_, fun x hx y hy => ?_⟩
    · split
      · exact colsFrom_pw _ _
      · exact List.Pairwise.nil
    · have h1 := ((colsTo_mem h q is k x).1 hx).2.1
      split at hy
      · have := (colsFrom_mem _ _ _).1 hy
        omega
      · cases hy
theorem colsTo_eq {c : List Df} (h : catMay c = true) (q : Qy) (is : Nat → Bool) : colsTo c q is (min q.occ.length 4) = colsIn c q is := by
  refine pw_ext (colsTo_pw h q is _) ((upto_pw 16).filter _) fun x => ?_
  change _ ↔ x ∈ colsIn c q is
  rw [colsTo_mem h, colsIn, List.mem_filter, upto_mem, isCol]
  simp only [Bool.and_eq_true, decide_eq_true_eq]
  constructor
  · rintro ⟨h1, h2, h3, h4⟩
    exact ⟨by omega, ⟨⟨⟨h1, by omega⟩, by omega⟩, h4⟩, h3⟩
  · rintro ⟨h1, ⟨⟨⟨h2, h3⟩, h4⟩, h5⟩, h6⟩
    exact ⟨h2, by omega, h6, h5⟩

end Go.Sim.Tryz
set_option linter.unusedSimpArgs false
set_option linter.unusedVariables false
namespace Go.Sim.Tryz
open Go Go.Sim
def pairHas (e : Ex) (id : Int) : Bool := e.pair.2.2 && (decide (e.pair.1 = id) || decide (e.pair.2.1 = id))
def ordIs (q : Qy) (id : Int) : Bool := q.p.any (fun e => pairHas e id) || decide (q.by_ = id) || decide (q.ord = id)
theorem orders_R (q : Qy) : -1 :: (upto 16).filter (ordIs q) = q.orders := by
  refine pw_ext ?_ (uniq_pw _) fun x => ?_
  · rw [List.pairwise_cons]
    refine ⟨fun y hy => ?_, (upto_pw 16).filter _⟩
    have := (upto_mem _ _).1 (List.mem_filter.1 hy).1
    omega
  · change _ ↔ x ∈ q.orders
    rw [ord_mem, List.mem_cons, List.mem_filter, upto_mem]
    refine or_congr Iff.rfl ?_
    simp only [ordIs, pairHas, Bool.or_eq_true, List.any_eq_true, Bool.and_eq_true, decide_eq_true_eq]
    constructor
    · rintro ⟨h1, (⟨e, he, his, h2⟩ | h2) | h2⟩
      · exact .inl ⟨e, he, his, h2.imp Eq.symm Eq.symm⟩
      · exact .inr ⟨h1.1, by omega, .inl h2.symm⟩
      · exact .inr ⟨h1.1, by omega, .inr h2.symm⟩
    · rintro (⟨e, he, his, h2⟩ | ⟨h1, h2, h3⟩)
      · obtain ⟨_, _, h4, h5, _⟩ := pair_spec his
        exact ⟨by omega, .inl (.inl ⟨e, he, his, h2.imp Eq.symm Eq.symm⟩)⟩
      · refine ⟨by omega, ?_⟩
        rcases h3 with h3 | h3
        · exact .inl (.inr h3.symm)
        · exact .inr h3.symm
/-- No two are the same. -/
theorem long_nodup : ∀ {l m : List Int}, m.Nodup → (∀ x ∈ m, x ∈ l) → l.length ≤ m.length → l.Nodup
  | [], _, _, _, _ => List.nodup_nil
  | x :: l, m, hm, hs, hl => by
    rw [List.length_cons] at hl
    by_cases hx : x ∈ l
    · have := nodup_len hm (m := l) fun y hy => by
        rcases List.mem_cons.1 (hs y hy) with rfl | h
        · exact hx
        · exact h
      omega
    · rw [List.nodup_cons]
      refine ⟨hx, long_nodup (m := m.erase x) (hm.erase x) (fun y hy => ?_) ?_⟩
      · have hym := List.mem_of_mem_erase hy
        rcases List.mem_cons.1 (hs y hym) with rfl | h
        · exact absurd hy (List.Nodup.not_mem_erase hm)
        · exact h
      · by_cases hxm : x ∈ m
        · rw [List.length_erase_of_mem hxm]; omega
        · rw [List.erase_of_not_mem hxm]; omega
theorem once_iff (l : List Int) : decide ((uniq l).length = l.length) = decide l.Nodup := by
  rw [decide_eq_decide]
  constructor
  · intro h
    exact long_nodup (pw_nodup (uniq_pw l)) (fun x hx => (uniq_mem l x).1 hx) (by omega)
  · intro h
    exact Nat.le_antisymm (uniq_len l) (nodup_len h fun x hx => (uniq_mem l x).2 hx)
end Go.Sim.Tryz
set_option linter.unusedSimpArgs false
set_option linter.unusedVariables false
set_option maxRecDepth 100000
namespace Go.Sim.Tryz
open Go Go.Sim
attribute [local push_cast] aops_cons aops_nil aopG_none aopG_some aopP_eq aopE_eq aopC_eq aopE?_eq aopC?_eq aopB_eq aopB?_eq abr anilq gopP_eq gopL_eq ahead_cons ahead_nil ahdG_none ahdG_some ahdP_eq ahdN_eq ahdC_eq ahdN?_eq ahdS_eq ahdS?_eq astoreN ahdC?_eq ghdP_eq ghdC_eq ghdC?_eq ghdZ_f ghdZ_t ahdI_eq ahdI?_eq ghdN?_eq aim_nil aim_cons isIn_nil isIn_none isIn_cons aimm aheP_eq aheA_eq aheC_eq aheC?_eq aheI?_eq aheA?_eq gheP_eq gheC_eq gheC?_eq gheZ_eq aheG_none aheG_some aheff_cons aheff_nil aapp gro_rsl gro_lit gro_esl opt_some opt_none no_eq acondT_true acondT_false acondT_lit aw_skip aw_region aw_regionD aw_seq aw_cond aw_block aw_loop aw_exit aw_label aw_ret thn_normal thn_exit thn_ret inb_normal inb_exit inb_ret qret_ret qret_normal gcond apure aeff anew acallee ares aresT aresL aresC ares1 qfin_eq ev ofV evL gokL tget tput_some tput_none initT abin aint aun aload afaddr aiaddr afield aindex aextract apick pickv_lit Bool.or_false Bool.false_or Bool.or_true Bool.true_or imp_self aslice chunk abound aconv abuild afill splice alen aminmax abuiltin anil apart Value.oneCell' astore aappend srcEs abuildSlice asets isEq plus_obj plus_nxt plus_add plus_set plus_del IntKind.bits Option.map_some Option.map_none Option.bind_some Option.bind_none Option.join_some Option.getD_some Option.getD_none Option.toList Option.isSome_some List.getElem?_toArray List.getElem?_cons_zero List.getElem?_cons_succ List.getElem?_nil List.length_cons List.length_nil List.length_map List.head?_cons List.cons_append List.nil_append List.append_nil List.map_cons List.map_nil List.getD_cons_zero List.getD_cons_succ List.replicate_succ List.replicate_zero List.set_cons_zero List.set_cons_succ List.take_succ_cons List.take_zero List.drop_succ_cons List.drop_zero List.all_cons List.all_nil Nat.zero_add if_true if_false true_and and_true false_and and_false true_implies implies_true forall_const Bool.and_true Bool.true_and Bool.false_and Bool.and_false Bool.true_beq Bool.false_beq Bool.not_not beq_tt beq_ff Int.toNat_natCast decide_true decide_false Bool.not_true Bool.not_false Bool.true_eq_false Bool.false_eq_true false_implies exists_prop eq_self bne_self_eq_false beq_self_eq_true decide_eq_true_eq decide_eq_false_iff_not Bool.not_eq_true' Bool.not_eq_false' AV.int AV.bool AV.nilS ne_eq not_false_eq_true not_true_eq_false exists_eq_left exists_eq_left' Nat.lt_irrefl core_lit grd_lit acells_lit one_lit core_agg grd_agg acells_agg one_agg core_tup grd_tup acells_tup one_tup core_sl grd_sl acells_sl one_sl core_esl grd_esl acells_esl one_esl core_rsl grd_rsl acells_rsl one_rsl core_ptr grd_ptr acells_ptr one_ptr core_iptr grd_iptr acells_iptr one_iptr core_clo grd_clo acells_clo one_clo core_mp grd_mp acells_mp one_mp core_any grd_any acells_any one_any core_gv grd_gv fit_agg fit_lit fit_sl fit_esl fit_rsl fit_ptr fit_iptr fit_clo fit_mp retq_ret retq_normal set_nxt set_set plus_obj_set plus_set_set app_get0 app_get app_set0 app_set List.append_assoc List.length_append List.length_set Nat.lt_add_one Nat.add_lt_add_iff_right Nat.lt_add_right_iff_pos Nat.add_lt_add_iff_left List.mem_cons List.not_mem_nil or_false forall_eq forall_eq_or_imp lt_s0 lt_s1 lt_s2 lt_s3 lt_s4 lt_s5 lt_s6 lt_s7 lt_s8 pickv_t pickv_f or_nand or_nand2 imp_and_l SealT SealOs sealO_cells sl_lit sl_any sl_agg sl_tup sl_sl sl_rsl slO sl_esl sl_nil sl_eslesl sl_eslnil sl_rslrsl sl_eslrsl sl_nilrsl sl_ptr sl_iptr sl_ptri slP sl_clo sl_mp sl_gv sll_nil sll_cons slll_nil slll_cons shut_eq shutO Option.join_none Fn.func.injEq and_self sealL_self sealLL_self seal_self PureL PureLL Pure Nat.le_refl Nat.zero_le AV.lit.injEq Value.int.injEq Value.bool.injEq false_or or_true true_or Int.natCast_zero Int.ofNat_zero Int.cast_ofNat_Int Int.natCast_add Int.natCast_one Option.some.injEq piL_is sop_nil sop_cons sop_none sop_some sopO_some sop_new shut_pi shutL_nil shutL_cons exQ_exit exQ_ret exQ_normal Go.Sim.Tryz.ty_load1 Go.Sim.Tryz.ty_zero1 Go.Sim.Tryz.ty_load2 Go.Sim.Tryz.ty_zero2 Go.Sim.Tryz.ty_und2 Go.Sim.Tryz.ty_load3 Go.Sim.Tryz.ty_zero3 Go.Sim.Tryz.ty_und3 Go.Sim.Tryz.ty_load4 Go.Sim.Tryz.ty_zero4 Go.Sim.Tryz.ty_und4 Go.Sim.Tryz.ty_load5 Go.Sim.Tryz.ty_zero5 Go.Sim.Tryz.ty_und5 Go.Sim.Tryz.ty_load9 Go.Sim.Tryz.ty_zero9 Go.Sim.Tryz.ty_und9 Go.Sim.Tryz.ty_load22 Go.Sim.Tryz.ty_zero22 Go.Sim.Tryz.ty_el22 Go.Sim.Tryz.ty_zeroE22 Go.Sim.Tryz.ty_load24 Go.Sim.Tryz.ty_zero24 Go.Sim.Tryz.ty_fld24_0 Go.Sim.Tryz.ty_part24_0 Go.Sim.Tryz.ty_struct24 Go.Sim.Tryz.ty_load25 Go.Sim.Tryz.ty_zero25 Go.Sim.Tryz.ty_el25 Go.Sim.Tryz.ty_zeroE25 Go.Sim.Tryz.ty_load26 Go.Sim.Tryz.ty_zero26 Go.Sim.Tryz.ty_el26 Go.Sim.Tryz.ty_zeroE26 Go.Sim.Tryz.ty_load28 Go.Sim.Tryz.ty_zero28 Go.Sim.Tryz.ty_fld28_0 Go.Sim.Tryz.ty_part28_0 Go.Sim.Tryz.ty_fld28_1 Go.Sim.Tryz.ty_part28_1 Go.Sim.Tryz.ty_fld28_2 Go.Sim.Tryz.ty_part28_2 Go.Sim.Tryz.ty_fld28_3 Go.Sim.Tryz.ty_part28_3 Go.Sim.Tryz.ty_fld28_4 Go.Sim.Tryz.ty_part28_4 Go.Sim.Tryz.ty_fld28_5 Go.Sim.Tryz.ty_part28_5 Go.Sim.Tryz.ty_struct28 Go.Sim.Tryz.ty_load36 Go.Sim.Tryz.ty_zero36 Go.Sim.Tryz.ty_fld36_0 Go.Sim.Tryz.ty_part36_0 Go.Sim.Tryz.ty_fld36_1 Go.Sim.Tryz.ty_part36_1 Go.Sim.Tryz.ty_struct36 Go.Sim.Tryz.ty_load38 Go.Sim.Tryz.ty_zero38 Go.Sim.Tryz.ty_fld38_0 Go.Sim.Tryz.ty_part38_0 Go.Sim.Tryz.ty_fld38_1 Go.Sim.Tryz.ty_part38_1 Go.Sim.Tryz.ty_fld38_2 Go.Sim.Tryz.ty_part38_2 Go.Sim.Tryz.ty_fld38_3 Go.Sim.Tryz.ty_part38_3 Go.Sim.Tryz.ty_struct38 Go.Sim.Tryz.ty_load48 Go.Sim.Tryz.ty_zero48 Go.Sim.Tryz.ty_el48 Go.Sim.Tryz.ty_zeroE48 Go.Sim.Tryz.ty_load51 Go.Sim.Tryz.ty_zero51 Go.Sim.Tryz.ty_arr51 Go.Sim.Tryz.ty_part51_0 Go.Sim.Tryz.ty_part51_1 Go.Sim.Tryz.ty_struct51 Go.Sim.Tryz.ty_load59 Go.Sim.Tryz.ty_zero59 Go.Sim.Tryz.ty_fld59_0 Go.Sim.Tryz.ty_part59_0 Go.Sim.Tryz.ty_fld59_1 Go.Sim.Tryz.ty_part59_1 Go.Sim.Tryz.ty_struct59 Go.Sim.Tryz.ty_load60 Go.Sim.Tryz.ty_zero60 Go.Sim.Tryz.ty_el60 Go.Sim.Tryz.ty_zeroE60 Go.Sim.Tryz.ty_load62 Go.Sim.Tryz.ty_zero62 Go.Sim.Tryz.ty_fld62_0 Go.Sim.Tryz.ty_part62_0 Go.Sim.Tryz.ty_struct62 Go.Sim.Tryz.ty_load67 Go.Sim.Tryz.ty_zero67 Go.Sim.Tryz.ty_load68 Go.Sim.Tryz.ty_zero68 Go.Sim.Tryz.ty_load75 Go.Sim.Tryz.ty_zero75 Go.Sim.Tryz.ty_load76 Go.Sim.Tryz.ty_zero76 Go.Sim.Tryz.ty_und76 Go.Sim.Tryz.ty_load82 Go.Sim.Tryz.ty_zero82 Go.Sim.Tryz.ty_und82 Go.Sim.Tryz.ty_load85 Go.Sim.Tryz.ty_zero85 Go.Sim.Tryz.ty_und85 Go.Sim.Tryz.ty_load89 Go.Sim.Tryz.ty_zero89 Go.Sim.Tryz.ty_el89 Go.Sim.Tryz.ty_zeroE89 Go.Sim.Tryz.ty_load90 Go.Sim.Tryz.ty_zero90 Go.Sim.Tryz.ty_el90 Go.Sim.Tryz.ty_zeroE90 Go.Sim.Tryz.ty_load93 Go.Sim.Tryz.ty_zero93 Go.Sim.Tryz.ty_load98 Go.Sim.Tryz.ty_zero98 Go.Sim.Tryz.ty_fld98_0 Go.Sim.Tryz.ty_part98_0 Go.Sim.Tryz.ty_fld98_1 Go.Sim.Tryz.ty_part98_1 Go.Sim.Tryz.ty_fld98_2 Go.Sim.Tryz.ty_part98_2 Go.Sim.Tryz.ty_struct98 Go.Sim.Tryz.ty_load100 Go.Sim.Tryz.ty_zero100 Go.Sim.Tryz.ty_load106 Go.Sim.Tryz.ty_zero106 Go.Sim.Tryz.ty_load110 Go.Sim.Tryz.ty_zero110 Go.Sim.Tryz.ty_und110 Go.Sim.Tryz.ty_load118 Go.Sim.Tryz.ty_zero118 Go.Sim.Tryz.ty_und118 Go.Sim.Tryz.ty_load121 Go.Sim.Tryz.ty_zero121 Go.Sim.Tryz.ty_load128 Go.Sim.Tryz.ty_zero128 Go.Sim.Tryz.ty_und128 Go.Sim.Tryz.ty_load132 Go.Sim.Tryz.ty_zero132 encE_mk encE_take encE_len encV encE_one encEs_pure encE_pure

def encD (d : Df) : List AV := [.lit (.int .i64 d.cols), .lit (.int .i64 d.rows)]
theorem encD_len (d : Df) : (encD d).length = 2 := rfl
theorem encD_pure (d : Df) : PureL (encD d) := by simp [encD, PureL, Pure]
theorem encDs_pure (l : List Df) : PureLL (l.map encD) := by
  rw [pureLL_iff]
  simp only [List.mem_map]
  rintro _ ⟨x, _, rfl⟩
  exact encD_pure x
theorem encDs_get (l : List Df) (i : Nat) (h : i < l.length) : (l.map encD).getD i [] = encD l[i] := getD_map encD l [] i h
theorem cmpD (a b c d : Int) : CmpAt Go.Proofs.Tryz.prog 59 [.int .i64 a, .int .i64 b] [.int .i64 c, .int .i64 d] (decide (a = c) && decide (b = d)) := by
  rw [← Bool.and_true (decide (b = d))]
  exact cmp_int2 (f0 := { name := "Cols", type := 3, offset := 0, embedded := false, tag := "", pkgPath := "", byteOffset := 0 }) (f1 := { name := "Rows", type := 3, offset := 1, embedded := false, tag := "", pkgPath := "", byteOffset := 8 }) (n0 := 1) (n1 := 1) (by kernel_rfl) (by kernel_rfl) (by kernel_rfl) (by decide) (by decide) rfl rfl (by kernel_rfl) (by kernel_rfl) (by kernel_rfl) (by kernel_rfl) a b c d

def inI (n low high : Int) : Bool := decide (low ≤ n) && decide (n ≤ high)
theorem in_ok (n low high : Int) : Quiet Go.Proofs.Tryz.prog 70 [.int n, .int low, .int high] (.bool (inI n low high)) := by
  refine quiet_of (rs := #[.tmp 6]) Go.Proofs.Tryz.func70 rfl rfl rfl mixed rfl rfl fun H hs => ?_
  simp -implicitDefEqProofs only [push_cast, Nat.reduceAdd, Nat.reduceSub, Nat.reduceMul, Nat.reduceLT, Nat.reduceLeDiff, Nat.reduceEqDiff, Nat.reduceBEq, reduceCtorEq, reduceIte, Int.reduceLE, Int.reduceLT, Int.reduceNeg, Int.reduceToNat]
  (try simp -implicitDefEqProofs only [push_cast, Nat.reduceAdd, Nat.reduceSub, Nat.reduceMul, Nat.reduceLT, Nat.reduceLeDiff, Nat.reduceEqDiff, Nat.reduceBEq, reduceCtorEq, reduceIte, Int.reduceLE, Int.reduceLT, Int.reduceNeg, Int.reduceToNat])
  simp only [inI]
theorem one_ok (d : Df) : Quiet Go.Proofs.Tryz.prog 83 [.agg (encD d)] (.bool d.may) := by
  refine quiet_of (rs := #[.tmp 2]) Go.Proofs.Tryz.func83 rfl rfl rfl mixed rfl rfl fun H hs => ?_
  simp -implicitDefEqProofs only [push_cast, Nat.reduceAdd, Nat.reduceSub, Nat.reduceMul, Nat.reduceLT, Nat.reduceLeDiff, Nat.reduceEqDiff, Nat.reduceBEq, reduceCtorEq, reduceIte, Int.reduceLE, Int.reduceLT, Int.reduceNeg, Int.reduceToNat, encD, lits, cellsEq, cellEq, cmpD]
  refine gcallq' (.bool (inI d.cols 1 4)) (fun h => by simp only [Bool.not_eq_true'] at h; exact h) (fun _ => in_ok _ _ _) ?_
  simp -implicitDefEqProofs only [push_cast, Nat.reduceAdd, Nat.reduceSub, Nat.reduceMul, Nat.reduceLT, Nat.reduceLeDiff, Nat.reduceEqDiff, Nat.reduceBEq, reduceCtorEq, reduceIte, Int.reduceLE, Int.reduceLT, Int.reduceNeg, Int.reduceToNat, encD]
  refine gcallq' (.bool (inI d.rows 1 1000000)) (fun h => by simpa using h) (fun _ => in_ok _ _ _) ?_
  simp -implicitDefEqProofs only [push_cast, Nat.reduceAdd, Nat.reduceSub, Nat.reduceMul, Nat.reduceLT, Nat.reduceLeDiff, Nat.reduceEqDiff, Nat.reduceBEq, reduceCtorEq, reduceIte, Int.reduceLE, Int.reduceLT, Int.reduceNeg, Int.reduceToNat, encD]
  (try simp -implicitDefEqProofs only [push_cast, Nat.reduceAdd, Nat.reduceSub, Nat.reduceMul, Nat.reduceLT, Nat.reduceLeDiff, Nat.reduceEqDiff, Nat.reduceBEq, reduceCtorEq, reduceIte, Int.reduceLE, Int.reduceLT, Int.reduceNeg, Int.reduceToNat])
  simp only [inI, Df.may]
  grind
theorem indexFuncD_ok (l : List Df) (hl : l.length ≤ 140737488355328) (k : Nat) (caps : List AV) (hc : PureL caps) (p : Df → Bool) (hp : ∀ v ∈ l, Quiet Go.Proofs.Tryz.prog k (.agg (encD v) :: caps) (.bool (p v))) :
    Quiet Go.Proofs.Tryz.prog 96 [.sl (l.map encD), .clo (.func k) [] caps] (.int (idx p l)) := by
  refine quiet_of (rs := #[.tmp 4]) Go.Proofs.Tryz.func96 rfl rfl rfl mixed rfl rfl fun H hs => ?_
  simp -implicitDefEqProofs only [push_cast, Nat.reduceAdd, Nat.reduceSub, Nat.reduceMul, Nat.reduceLT, Nat.reduceLeDiff, Nat.reduceEqDiff, Nat.reduceBEq, reduceCtorEq, reduceIte, Int.reduceLE, Int.reduceLT, Int.reduceNeg, Int.reduceToNat]
  refine loop_rule hs (σ := Nat) (fun i => i ≤ l.length ∧ ∀ (j : Nat) (h : j < l.length), j < i → p l[j] = false) (fun i => l.length - i)
    (fun i => [(0, .sl (l.map encD)), (1, .clo (.func k) [] caps), (7, .int l.length), (8, .int i)]) (fun _ => []) 0 ⟨by omega, fun j _ h => by omega⟩ ?_ ?_ ?_
  · (try simp -implicitDefEqProofs only [push_cast, Nat.reduceAdd, Nat.reduceSub, Nat.reduceMul, Nat.reduceLT, Nat.reduceLeDiff, Nat.reduceEqDiff, Nat.reduceBEq, reduceCtorEq, reduceIte, Int.reduceLE, Int.reduceLT, Int.reduceNeg, Int.reduceToNat, encDs_pure, hc])
  · (try simp -implicitDefEqProofs only [push_cast, Nat.reduceAdd, Nat.reduceSub, Nat.reduceMul, Nat.reduceLT, Nat.reduceLeDiff, Nat.reduceEqDiff, Nat.reduceBEq, reduceCtorEq, reduceIte, Int.reduceLE, Int.reduceLT, Int.reduceNeg, Int.reduceToNat])
  · rintro i ⟨h2, h3⟩
    by_cases hi : i < l.length
    · have hi' : ((i : Int) < (l.length : Int)) = True := by simp; omega
      have hi0 : (0 ≤ (i : Int)) = True := by simp
      simp -implicitDefEqProofs only [push_cast, Nat.reduceAdd, Nat.reduceSub, Nat.reduceMul, Nat.reduceLT, Nat.reduceLeDiff, Nat.reduceEqDiff, Nat.reduceBEq, reduceCtorEq, reduceIte, Int.reduceLE, Int.reduceLT, Int.reduceNeg, Int.reduceToNat, hi', hi0, encDs_get l i hi, encD_len]
      refine callq (hp l[i] (List.getElem_mem hi)) ?_
      simp -implicitDefEqProofs only [push_cast, Nat.reduceAdd, Nat.reduceSub, Nat.reduceMul, Nat.reduceLT, Nat.reduceLeDiff, Nat.reduceEqDiff, Nat.reduceBEq, reduceCtorEq, reduceIte, Int.reduceLE, Int.reduceLT, Int.reduceNeg, Int.reduceToNat]
      refine ⟨fun h => ?_, fun h => ?_⟩
      · (try simp -implicitDefEqProofs only [push_cast, Nat.reduceAdd, Nat.reduceSub, Nat.reduceMul, Nat.reduceLT, Nat.reduceLeDiff, Nat.reduceEqDiff, Nat.reduceBEq, reduceCtorEq, reduceIte, Int.reduceLE, Int.reduceLT, Int.reduceNeg, Int.reduceToNat])
        exact (idx_hit hi h3 h).symm
      · rw [wrap64 (n := (i : Int) + 1) (by omega) (by omega)]
        refine next_intro (i + 1) ⟨by omega, fun j hj hji => ?_⟩ (by omega) ?_ ?_
        · rcases Nat.lt_or_ge j i with h4 | h4
          · exact h3 j hj h4
          · obtain rfl : j = i := by omega
            exact h
        · (try simp -implicitDefEqProofs only [push_cast, Nat.reduceAdd, Nat.reduceSub, Nat.reduceMul, Nat.reduceLT, Nat.reduceLeDiff, Nat.reduceEqDiff, Nat.reduceBEq, reduceCtorEq, reduceIte, Int.reduceLE, Int.reduceLT, Int.reduceNeg, Int.reduceToNat, encDs_pure, hc])
        · (try simp -implicitDefEqProofs only [push_cast, Nat.reduceAdd, Nat.reduceSub, Nat.reduceMul, Nat.reduceLT, Nat.reduceLeDiff, Nat.reduceEqDiff, Nat.reduceBEq, reduceCtorEq, reduceIte, Int.reduceLE, Int.reduceLT, Int.reduceNeg, Int.reduceToNat])
    · have hi' : ((i : Int) < (l.length : Int)) = False := by simp; omega
      simp -implicitDefEqProofs only [push_cast, Nat.reduceAdd, Nat.reduceSub, Nat.reduceMul, Nat.reduceLT, Nat.reduceLeDiff, Nat.reduceEqDiff, Nat.reduceBEq, reduceCtorEq, reduceIte, Int.reduceLE, Int.reduceLT, Int.reduceNeg, Int.reduceToNat, hi']
      (try simp -implicitDefEqProofs only [push_cast, Nat.reduceAdd, Nat.reduceSub, Nat.reduceMul, Nat.reduceLT, Nat.reduceLeDiff, Nat.reduceEqDiff, Nat.reduceBEq, reduceCtorEq, reduceIte, Int.reduceLE, Int.reduceLT, Int.reduceNeg, Int.reduceToNat])
      exact (idx_miss fun j hj => h3 j hj (by omega)).symm
theorem containsFuncD_ok (l : List Df) (hl : l.length ≤ 140737488355328) (k : Nat) (caps : List AV) (hc : PureL caps) (p : Df → Bool) (hp : ∀ v ∈ l, Quiet Go.Proofs.Tryz.prog k (.agg (encD v) :: caps) (.bool (p v))) :
    Quiet Go.Proofs.Tryz.prog 81 [.sl (l.map encD), .clo (.func k) [] caps] (.bool (l.any p)) := by
  refine quiet_of (rs := #[.tmp 4]) Go.Proofs.Tryz.func81 rfl rfl rfl mixed rfl rfl fun H hs => ?_
  simp -implicitDefEqProofs only [push_cast, Nat.reduceAdd, Nat.reduceSub, Nat.reduceMul, Nat.reduceLT, Nat.reduceLeDiff, Nat.reduceEqDiff, Nat.reduceBEq, reduceCtorEq, reduceIte, Int.reduceLE, Int.reduceLT, Int.reduceNeg, Int.reduceToNat]
  refine callq (indexFuncD_ok l hl k caps hc p hp) ?_
  simp -implicitDefEqProofs only [push_cast, Nat.reduceAdd, Nat.reduceSub, Nat.reduceMul, Nat.reduceLT, Nat.reduceLeDiff, Nat.reduceEqDiff, Nat.reduceBEq, reduceCtorEq, reduceIte, Int.reduceLE, Int.reduceLT, Int.reduceNeg, Int.reduceToNat, idx_nonneg]
  (try simp -implicitDefEqProofs only [push_cast, Nat.reduceAdd, Nat.reduceSub, Nat.reduceMul, Nat.reduceLT, Nat.reduceLeDiff, Nat.reduceEqDiff, Nat.reduceBEq, reduceCtorEq, reduceIte, Int.reduceLE, Int.reduceLT, Int.reduceNeg, Int.reduceToNat])
theorem indexFuncI_ok (l : List Int) (hl : l.length ≤ 140737488355328) (k : Nat) (caps : List AV) (hc : PureL caps) (p : Int → Bool) (hp : ∀ v ∈ l, Quiet Go.Proofs.Tryz.prog k (.int v :: caps) (.bool (p v))) :
    Quiet Go.Proofs.Tryz.prog 84 [.sl (l.map encI), .clo (.func k) [] caps] (.int (idx p l)) := by
  refine quiet_of (rs := #[.tmp 4]) Go.Proofs.Tryz.func84 rfl rfl rfl mixed rfl rfl fun H hs => ?_
  simp -implicitDefEqProofs only [push_cast, Nat.reduceAdd, Nat.reduceSub, Nat.reduceMul, Nat.reduceLT, Nat.reduceLeDiff, Nat.reduceEqDiff, Nat.reduceBEq, reduceCtorEq, reduceIte, Int.reduceLE, Int.reduceLT, Int.reduceNeg, Int.reduceToNat]
  refine loop_rule hs (σ := Nat) (fun i => i ≤ l.length ∧ ∀ (j : Nat) (h : j < l.length), j < i → p l[j] = false) (fun i => l.length - i)
    (fun i => [(0, .sl (l.map encI)), (1, .clo (.func k) [] caps), (7, .int l.length), (8, .int i)]) (fun _ => []) 0 ⟨by omega, fun j _ h => by omega⟩ ?_ ?_ ?_
  · (try simp -implicitDefEqProofs only [push_cast, Nat.reduceAdd, Nat.reduceSub, Nat.reduceMul, Nat.reduceLT, Nat.reduceLeDiff, Nat.reduceEqDiff, Nat.reduceBEq, reduceCtorEq, reduceIte, Int.reduceLE, Int.reduceLT, Int.reduceNeg, Int.reduceToNat, encIs_pure, hc])
  · (try simp -implicitDefEqProofs only [push_cast, Nat.reduceAdd, Nat.reduceSub, Nat.reduceMul, Nat.reduceLT, Nat.reduceLeDiff, Nat.reduceEqDiff, Nat.reduceBEq, reduceCtorEq, reduceIte, Int.reduceLE, Int.reduceLT, Int.reduceNeg, Int.reduceToNat])
  · rintro i ⟨h2, h3⟩
    by_cases hi : i < l.length
    · have hi' : ((i : Int) < (l.length : Int)) = True := by simp; omega
      have hi0 : (0 ≤ (i : Int)) = True := by simp
      simp -implicitDefEqProofs only [push_cast, Nat.reduceAdd, Nat.reduceSub, Nat.reduceMul, Nat.reduceLT, Nat.reduceLeDiff, Nat.reduceEqDiff, Nat.reduceBEq, reduceCtorEq, reduceIte, Int.reduceLE, Int.reduceLT, Int.reduceNeg, Int.reduceToNat, hi', hi0, encIs_get l i hi, encI]
      refine callq (hp l[i] (List.getElem_mem hi)) ?_
      simp -implicitDefEqProofs only [push_cast, Nat.reduceAdd, Nat.reduceSub, Nat.reduceMul, Nat.reduceLT, Nat.reduceLeDiff, Nat.reduceEqDiff, Nat.reduceBEq, reduceCtorEq, reduceIte, Int.reduceLE, Int.reduceLT, Int.reduceNeg, Int.reduceToNat]
      refine ⟨fun h => ?_, fun h => ?_⟩
      · (try simp -implicitDefEqProofs only [push_cast, Nat.reduceAdd, Nat.reduceSub, Nat.reduceMul, Nat.reduceLT, Nat.reduceLeDiff, Nat.reduceEqDiff, Nat.reduceBEq, reduceCtorEq, reduceIte, Int.reduceLE, Int.reduceLT, Int.reduceNeg, Int.reduceToNat])
        exact (idx_hit hi h3 h).symm
      · rw [wrap64 (n := (i : Int) + 1) (by omega) (by omega)]
        refine next_intro (i + 1) ⟨by omega, fun j hj hji => ?_⟩ (by omega) ?_ ?_
        · rcases Nat.lt_or_ge j i with h4 | h4
          · exact h3 j hj h4
          · obtain rfl : j = i := by omega
            exact h
        · (try simp -implicitDefEqProofs only [push_cast, Nat.reduceAdd, Nat.reduceSub, Nat.reduceMul, Nat.reduceLT, Nat.reduceLeDiff, Nat.reduceEqDiff, Nat.reduceBEq, reduceCtorEq, reduceIte, Int.reduceLE, Int.reduceLT, Int.reduceNeg, Int.reduceToNat, encIs_pure, hc])
        · (try simp -implicitDefEqProofs only [push_cast, Nat.reduceAdd, Nat.reduceSub, Nat.reduceMul, Nat.reduceLT, Nat.reduceLeDiff, Nat.reduceEqDiff, Nat.reduceBEq, reduceCtorEq, reduceIte, Int.reduceLE, Int.reduceLT, Int.reduceNeg, Int.reduceToNat])
    · have hi' : ((i : Int) < (l.length : Int)) = False := by simp; omega
      simp -implicitDefEqProofs only [push_cast, Nat.reduceAdd, Nat.reduceSub, Nat.reduceMul, Nat.reduceLT, Nat.reduceLeDiff, Nat.reduceEqDiff, Nat.reduceBEq, reduceCtorEq, reduceIte, Int.reduceLE, Int.reduceLT, Int.reduceNeg, Int.reduceToNat, hi']
      (try simp -implicitDefEqProofs only [push_cast, Nat.reduceAdd, Nat.reduceSub, Nat.reduceMul, Nat.reduceLT, Nat.reduceLeDiff, Nat.reduceEqDiff, Nat.reduceBEq, reduceCtorEq, reduceIte, Int.reduceLE, Int.reduceLT, Int.reduceNeg, Int.reduceToNat])
      exact (idx_miss fun j hj => h3 j hj (by omega)).symm
theorem containsFuncI_ok (l : List Int) (hl : l.length ≤ 140737488355328) (k : Nat) (caps : List AV) (hc : PureL caps) (p : Int → Bool) (hp : ∀ v ∈ l, Quiet Go.Proofs.Tryz.prog k (.int v :: caps) (.bool (p v))) :
    Quiet Go.Proofs.Tryz.prog 53 [.sl (l.map encI), .clo (.func k) [] caps] (.bool (l.any p)) := by
  refine quiet_of (rs := #[.tmp 4]) Go.Proofs.Tryz.func53 rfl rfl rfl mixed rfl rfl fun H hs => ?_
  simp -implicitDefEqProofs only [push_cast, Nat.reduceAdd, Nat.reduceSub, Nat.reduceMul, Nat.reduceLT, Nat.reduceLeDiff, Nat.reduceEqDiff, Nat.reduceBEq, reduceCtorEq, reduceIte, Int.reduceLE, Int.reduceLT, Int.reduceNeg, Int.reduceToNat]
  refine callq (indexFuncI_ok l hl k caps hc p hp) ?_
  simp -implicitDefEqProofs only [push_cast, Nat.reduceAdd, Nat.reduceSub, Nat.reduceMul, Nat.reduceLT, Nat.reduceLeDiff, Nat.reduceEqDiff, Nat.reduceBEq, reduceCtorEq, reduceIte, Int.reduceLE, Int.reduceLT, Int.reduceNeg, Int.reduceToNat, idx_nonneg]
  (try simp -implicitDefEqProofs only [push_cast, Nat.reduceAdd, Nat.reduceSub, Nat.reduceMul, Nat.reduceLT, Nat.reduceLeDiff, Nat.reduceEqDiff, Nat.reduceBEq, reduceCtorEq, reduceIte, Int.reduceLE, Int.reduceLT, Int.reduceNeg, Int.reduceToNat])

theorem May1_ok (d : Df) : Quiet Go.Proofs.Tryz.prog 82 [.agg (encD d)] (.bool (!d.may)) := by
  refine quiet_of (rs := #[.tmp 2]) Go.Proofs.Tryz.func82 rfl rfl rfl mixed rfl rfl fun H hs => ?_
  simp -implicitDefEqProofs only [push_cast, Nat.reduceAdd, Nat.reduceSub, Nat.reduceMul, Nat.reduceLT, Nat.reduceLeDiff, Nat.reduceEqDiff, Nat.reduceBEq, reduceCtorEq, reduceIte, Int.reduceLE, Int.reduceLT, Int.reduceNeg, Int.reduceToNat, encD]
  refine callq (one_ok d) ?_
  simp -implicitDefEqProofs only [push_cast, Nat.reduceAdd, Nat.reduceSub, Nat.reduceMul, Nat.reduceLT, Nat.reduceLeDiff, Nat.reduceEqDiff, Nat.reduceBEq, reduceCtorEq, reduceIte, Int.reduceLE, Int.reduceLT, Int.reduceNeg, Int.reduceToNat]
  (try simp -implicitDefEqProofs only [push_cast, Nat.reduceAdd, Nat.reduceSub, Nat.reduceMul, Nat.reduceLT, Nat.reduceLeDiff, Nat.reduceEqDiff, Nat.reduceBEq, reduceCtorEq, reduceIte, Int.reduceLE, Int.reduceLT, Int.reduceNeg, Int.reduceToNat])
theorem dataMay_ok (c : List Df) (hc : c.length ≤ 1000000) : Quiet Go.Proofs.Tryz.prog 52 [.agg [.sl (c.map encD)]] (.bool (catMay c)) := by
  refine quiet_of (rs := #[.tmp 2]) Go.Proofs.Tryz.func52 rfl rfl rfl mixed rfl rfl fun H hs => ?_
  simp -implicitDefEqProofs only [push_cast, Nat.reduceAdd, Nat.reduceSub, Nat.reduceMul, Nat.reduceLT, Nat.reduceLeDiff, Nat.reduceEqDiff, Nat.reduceBEq, reduceCtorEq, reduceIte, Int.reduceLE, Int.reduceLT, Int.reduceNeg, Int.reduceToNat]
  refine callq (in_ok _ _ _) ?_
  simp -implicitDefEqProofs only [push_cast, Nat.reduceAdd, Nat.reduceSub, Nat.reduceMul, Nat.reduceLT, Nat.reduceLeDiff, Nat.reduceEqDiff, Nat.reduceBEq, reduceCtorEq, reduceIte, Int.reduceLE, Int.reduceLT, Int.reduceNeg, Int.reduceToNat]
  refine gcallq' (.bool (c.any fun d => !d.may)) (fun h => h) (fun _ => containsFuncD_ok c (by omega) _ [] trivial (fun d => !d.may) fun d _ => May1_ok d) ?_
  simp -implicitDefEqProofs only [push_cast, Nat.reduceAdd, Nat.reduceSub, Nat.reduceMul, Nat.reduceLT, Nat.reduceLeDiff, Nat.reduceEqDiff, Nat.reduceBEq, reduceCtorEq, reduceIte, Int.reduceLE, Int.reduceLT, Int.reduceNeg, Int.reduceToNat]
  (try simp -implicitDefEqProofs only [push_cast, Nat.reduceAdd, Nat.reduceSub, Nat.reduceMul, Nat.reduceLT, Nat.reduceLeDiff, Nat.reduceEqDiff, Nat.reduceBEq, reduceCtorEq, reduceIte, Int.reduceLE, Int.reduceLT, Int.reduceNeg, Int.reduceToNat])
  unfold catMay inI
  rw [List.all_eq_not_any_not]
  have e1 : decide ((1 : Int) ≤ (c.length : Int)) = decide (1 ≤ c.length) := by rw [decide_eq_decide]; omega
  have e2 : decide ((c.length : Int) ≤ 4) = decide (c.length ≤ 4) := by rw [decide_eq_decide]; omega
  rw [e1, e2]
theorem Col_ok (o i : Int) (h0 : 0 ≤ o) (h1 : o ≤ 3) (h2 : 0 ≤ i) (h3 : i ≤ 3) : Quiet Go.Proofs.Tryz.prog 85 [.int o, .int i] (.int (4 * o + i)) := by
  refine quiet_of (rs := #[.tmp 4]) Go.Proofs.Tryz.func85 rfl rfl rfl mixed rfl rfl fun H hs => ?_
  simp -implicitDefEqProofs only [push_cast, Nat.reduceAdd, Nat.reduceSub, Nat.reduceMul, Nat.reduceLT, Nat.reduceLeDiff, Nat.reduceEqDiff, Nat.reduceBEq, reduceCtorEq, reduceIte, Int.reduceLE, Int.reduceLT, Int.reduceNeg, Int.reduceToNat]
  refine callq (in_ok _ _ _) ?_
  simp -implicitDefEqProofs only [push_cast, Nat.reduceAdd, Nat.reduceSub, Nat.reduceMul, Nat.reduceLT, Nat.reduceLeDiff, Nat.reduceEqDiff, Nat.reduceBEq, reduceCtorEq, reduceIte, Int.reduceLE, Int.reduceLT, Int.reduceNeg, Int.reduceToNat]
  refine gcallq' (.bool (inI i 0 3)) (fun h => h) (fun _ => in_ok _ _ _) ?_
  simp -implicitDefEqProofs only [push_cast, Nat.reduceAdd, Nat.reduceSub, Nat.reduceMul, Nat.reduceLT, Nat.reduceLeDiff, Nat.reduceEqDiff, Nat.reduceBEq, reduceCtorEq, reduceIte, Int.reduceLE, Int.reduceLT, Int.reduceNeg, Int.reduceToNat]
  have a1 : inI o 0 3 = true := by simp [inI, h0, h1]
  have a2 : inI i 0 3 = true := by simp [inI, h2, h3]
  rw [a1, a2]
  refine ⟨fun h => absurd h (by decide), fun _ => ?_⟩
  simp only [IntKind.wrap_i64]
  omega
theorem Split_ok (c : Int) (h0 : 0 ≤ c) (h1 : c ≤ 15) : Quiet Go.Proofs.Tryz.prog 24 [.int c] (.tup [.int (c / 4), .int (c % 4), .bool true]) := by
  refine quiet_of (rs := #[.tmp 2, .tmp 3, .tmp 4]) Go.Proofs.Tryz.func24 rfl rfl rfl mixed rfl rfl fun H hs => ?_
  simp -implicitDefEqProofs only [push_cast, Nat.reduceAdd, Nat.reduceSub, Nat.reduceMul, Nat.reduceLT, Nat.reduceLeDiff, Nat.reduceEqDiff, Nat.reduceBEq, reduceCtorEq, reduceIte, Int.reduceLE, Int.reduceLT, Int.reduceNeg, Int.reduceToNat]
  refine callq (in_ok _ _ _) ?_
  simp -implicitDefEqProofs only [push_cast, Nat.reduceAdd, Nat.reduceSub, Nat.reduceMul, Nat.reduceLT, Nat.reduceLeDiff, Nat.reduceEqDiff, Nat.reduceBEq, reduceCtorEq, reduceIte, Int.reduceLE, Int.reduceLT, Int.reduceNeg, Int.reduceToNat]
  have a1 : inI c 0 15 = true := by simp [inI, h0, h1]
  rw [a1]
  refine ⟨fun h => absurd h (by decide), fun _ => ⟨by decide, by decide, ?_, ?_⟩⟩
  · rw [Int.tdiv_eq_ediv_of_nonneg h0, IntKind.wrap_i64]
    omega
  · rw [Int.tmod_eq_emod_of_nonneg h0]
theorem setHolds_ok (s t : Int) (h0 : 0 ≤ t) (h1 : t ≤ 15) : Quiet Go.Proofs.Tryz.prog 60 [.int s, .int t] (.bool (holdsI s t)) := by
  refine quiet_of (rs := #[.tmp 4]) Go.Proofs.Tryz.func60 rfl rfl rfl mixed rfl rfl fun H hs => ?_
  simp -implicitDefEqProofs only [push_cast, Nat.reduceAdd, Nat.reduceSub, Nat.reduceMul, Nat.reduceLT, Nat.reduceLeDiff, Nat.reduceEqDiff, Nat.reduceBEq, reduceCtorEq, reduceIte, Int.reduceLE, Int.reduceLT, Int.reduceNeg, Int.reduceToNat]
  exact holds_bit s t h0 h1

end Go.Sim.Tryz
set_option linter.unusedSimpArgs false
set_option linter.unusedVariables false
set_option maxRecDepth 100000
namespace Go.Sim.Tryz
open Go Go.Sim
attribute [local push_cast] aops_cons aops_nil aopG_none aopG_some aopP_eq aopE_eq aopC_eq aopE?_eq aopC?_eq aopB_eq aopB?_eq abr anilq gopP_eq gopL_eq ahead_cons ahead_nil ahdG_none ahdG_some ahdP_eq ahdN_eq ahdC_eq ahdN?_eq ahdS_eq ahdS?_eq astoreN ahdC?_eq ghdP_eq ghdC_eq ghdC?_eq ghdZ_f ghdZ_t ahdI_eq ahdI?_eq ghdN?_eq aim_nil aim_cons isIn_nil isIn_none isIn_cons aimm aheP_eq aheA_eq aheC_eq aheC?_eq aheI?_eq aheA?_eq gheP_eq gheC_eq gheC?_eq gheZ_eq aheG_none aheG_some aheff_cons aheff_nil aapp gro_rsl gro_lit gro_esl opt_some opt_none no_eq acondT_true acondT_false acondT_lit aw_skip aw_region aw_regionD aw_seq aw_cond aw_block aw_loop aw_exit aw_label aw_ret thn_normal thn_exit thn_ret inb_normal inb_exit inb_ret qret_ret qret_normal gcond apure aeff anew acallee ares aresT aresL aresC ares1 qfin_eq ev ofV evL gokL tget tput_some tput_none initT abin aint aun aload afaddr aiaddr afield aindex aextract apick pickv_lit Bool.or_false Bool.false_or Bool.or_true Bool.true_or imp_self aslice chunk abound aconv abuild afill splice alen aminmax abuiltin anil apart Value.oneCell' astore aappend srcEs abuildSlice asets isEq plus_obj plus_nxt plus_add plus_set plus_del IntKind.bits Option.map_some Option.map_none Option.bind_some Option.bind_none Option.join_some Option.getD_some Option.getD_none Option.toList Option.isSome_some List.getElem?_toArray List.getElem?_cons_zero List.getElem?_cons_succ List.getElem?_nil List.length_cons List.length_nil List.length_map List.head?_cons List.cons_append List.nil_append List.append_nil List.map_cons List.map_nil List.getD_cons_zero List.getD_cons_succ List.replicate_succ List.replicate_zero List.set_cons_zero List.set_cons_succ List.take_succ_cons List.take_zero List.drop_succ_cons List.drop_zero List.all_cons List.all_nil Nat.zero_add if_true if_false true_and and_true false_and and_false true_implies implies_true forall_const Bool.and_true Bool.true_and Bool.false_and Bool.and_false Bool.true_beq Bool.false_beq Bool.not_not beq_tt beq_ff Int.toNat_natCast decide_true decide_false Bool.not_true Bool.not_false Bool.true_eq_false Bool.false_eq_true false_implies exists_prop eq_self bne_self_eq_false beq_self_eq_true decide_eq_true_eq decide_eq_false_iff_not Bool.not_eq_true' Bool.not_eq_false' AV.int AV.bool AV.nilS ne_eq not_false_eq_true not_true_eq_false exists_eq_left exists_eq_left' Nat.lt_irrefl core_lit grd_lit acells_lit one_lit core_agg grd_agg acells_agg one_agg core_tup grd_tup acells_tup one_tup core_sl grd_sl acells_sl one_sl core_esl grd_esl acells_esl one_esl core_rsl grd_rsl acells_rsl one_rsl core_ptr grd_ptr acells_ptr one_ptr core_iptr grd_iptr acells_iptr one_iptr core_clo grd_clo acells_clo one_clo core_mp grd_mp acells_mp one_mp core_any grd_any acells_any one_any core_gv grd_gv fit_agg fit_lit fit_sl fit_esl fit_rsl fit_ptr fit_iptr fit_clo fit_mp retq_ret retq_normal set_nxt set_set plus_obj_set plus_set_set app_get0 app_get app_set0 app_set List.append_assoc List.length_append List.length_set Nat.lt_add_one Nat.add_lt_add_iff_right Nat.lt_add_right_iff_pos Nat.add_lt_add_iff_left List.mem_cons List.not_mem_nil or_false forall_eq forall_eq_or_imp lt_s0 lt_s1 lt_s2 lt_s3 lt_s4 lt_s5 lt_s6 lt_s7 lt_s8 pickv_t pickv_f or_nand or_nand2 imp_and_l SealT SealOs sealO_cells sl_lit sl_any sl_agg sl_tup sl_sl sl_rsl slO sl_esl sl_nil sl_eslesl sl_eslnil sl_rslrsl sl_eslrsl sl_nilrsl sl_ptr sl_iptr sl_ptri slP sl_clo sl_mp sl_gv sll_nil sll_cons slll_nil slll_cons shut_eq shutO Option.join_none Fn.func.injEq and_self sealL_self sealLL_self seal_self PureL PureLL Pure Nat.le_refl Nat.zero_le AV.lit.injEq Value.int.injEq Value.bool.injEq false_or or_true true_or Int.natCast_zero Int.ofNat_zero Int.cast_ofNat_Int Int.natCast_add Int.natCast_one Option.some.injEq piL_is sop_nil sop_cons sop_none sop_some sopO_some sop_new shut_pi shutL_nil shutL_cons exQ_exit exQ_ret exQ_normal Go.Sim.Tryz.ty_load1 Go.Sim.Tryz.ty_zero1 Go.Sim.Tryz.ty_load2 Go.Sim.Tryz.ty_zero2 Go.Sim.Tryz.ty_und2 Go.Sim.Tryz.ty_load3 Go.Sim.Tryz.ty_zero3 Go.Sim.Tryz.ty_und3 Go.Sim.Tryz.ty_load4 Go.Sim.Tryz.ty_zero4 Go.Sim.Tryz.ty_und4 Go.Sim.Tryz.ty_load5 Go.Sim.Tryz.ty_zero5 Go.Sim.Tryz.ty_und5 Go.Sim.Tryz.ty_load9 Go.Sim.Tryz.ty_zero9 Go.Sim.Tryz.ty_und9 Go.Sim.Tryz.ty_load22 Go.Sim.Tryz.ty_zero22 Go.Sim.Tryz.ty_el22 Go.Sim.Tryz.ty_zeroE22 Go.Sim.Tryz.ty_load24 Go.Sim.Tryz.ty_zero24 Go.Sim.Tryz.ty_fld24_0 Go.Sim.Tryz.ty_part24_0 Go.Sim.Tryz.ty_struct24 Go.Sim.Tryz.ty_load25 Go.Sim.Tryz.ty_zero25 Go.Sim.Tryz.ty_el25 Go.Sim.Tryz.ty_zeroE25 Go.Sim.Tryz.ty_load26 Go.Sim.Tryz.ty_zero26 Go.Sim.Tryz.ty_el26 Go.Sim.Tryz.ty_zeroE26 Go.Sim.Tryz.ty_load28 Go.Sim.Tryz.ty_zero28 Go.Sim.Tryz.ty_fld28_0 Go.Sim.Tryz.ty_part28_0 Go.Sim.Tryz.ty_fld28_1 Go.Sim.Tryz.ty_part28_1 Go.Sim.Tryz.ty_fld28_2 Go.Sim.Tryz.ty_part28_2 Go.Sim.Tryz.ty_fld28_3 Go.Sim.Tryz.ty_part28_3 Go.Sim.Tryz.ty_fld28_4 Go.Sim.Tryz.ty_part28_4 Go.Sim.Tryz.ty_fld28_5 Go.Sim.Tryz.ty_part28_5 Go.Sim.Tryz.ty_struct28 Go.Sim.Tryz.ty_load36 Go.Sim.Tryz.ty_zero36 Go.Sim.Tryz.ty_fld36_0 Go.Sim.Tryz.ty_part36_0 Go.Sim.Tryz.ty_fld36_1 Go.Sim.Tryz.ty_part36_1 Go.Sim.Tryz.ty_struct36 Go.Sim.Tryz.ty_load38 Go.Sim.Tryz.ty_zero38 Go.Sim.Tryz.ty_fld38_0 Go.Sim.Tryz.ty_part38_0 Go.Sim.Tryz.ty_fld38_1 Go.Sim.Tryz.ty_part38_1 Go.Sim.Tryz.ty_fld38_2 Go.Sim.Tryz.ty_part38_2 Go.Sim.Tryz.ty_fld38_3 Go.Sim.Tryz.ty_part38_3 Go.Sim.Tryz.ty_struct38 Go.Sim.Tryz.ty_load48 Go.Sim.Tryz.ty_zero48 Go.Sim.Tryz.ty_el48 Go.Sim.Tryz.ty_zeroE48 Go.Sim.Tryz.ty_load51 Go.Sim.Tryz.ty_zero51 Go.Sim.Tryz.ty_arr51 Go.Sim.Tryz.ty_part51_0 Go.Sim.Tryz.ty_part51_1 Go.Sim.Tryz.ty_struct51 Go.Sim.Tryz.ty_load59 Go.Sim.Tryz.ty_zero59 Go.Sim.Tryz.ty_fld59_0 Go.Sim.Tryz.ty_part59_0 Go.Sim.Tryz.ty_fld59_1 Go.Sim.Tryz.ty_part59_1 Go.Sim.Tryz.ty_struct59 Go.Sim.Tryz.ty_load60 Go.Sim.Tryz.ty_zero60 Go.Sim.Tryz.ty_el60 Go.Sim.Tryz.ty_zeroE60 Go.Sim.Tryz.ty_load62 Go.Sim.Tryz.ty_zero62 Go.Sim.Tryz.ty_fld62_0 Go.Sim.Tryz.ty_part62_0 Go.Sim.Tryz.ty_struct62 Go.Sim.Tryz.ty_load67 Go.Sim.Tryz.ty_zero67 Go.Sim.Tryz.ty_load68 Go.Sim.Tryz.ty_zero68 Go.Sim.Tryz.ty_load75 Go.Sim.Tryz.ty_zero75 Go.Sim.Tryz.ty_load76 Go.Sim.Tryz.ty_zero76 Go.Sim.Tryz.ty_und76 Go.Sim.Tryz.ty_load82 Go.Sim.Tryz.ty_zero82 Go.Sim.Tryz.ty_und82 Go.Sim.Tryz.ty_load85 Go.Sim.Tryz.ty_zero85 Go.Sim.Tryz.ty_und85 Go.Sim.Tryz.ty_load89 Go.Sim.Tryz.ty_zero89 Go.Sim.Tryz.ty_el89 Go.Sim.Tryz.ty_zeroE89 Go.Sim.Tryz.ty_load90 Go.Sim.Tryz.ty_zero90 Go.Sim.Tryz.ty_el90 Go.Sim.Tryz.ty_zeroE90 Go.Sim.Tryz.ty_load93 Go.Sim.Tryz.ty_zero93 Go.Sim.Tryz.ty_load98 Go.Sim.Tryz.ty_zero98 Go.Sim.Tryz.ty_fld98_0 Go.Sim.Tryz.ty_part98_0 Go.Sim.Tryz.ty_fld98_1 Go.Sim.Tryz.ty_part98_1 Go.Sim.Tryz.ty_fld98_2 Go.Sim.Tryz.ty_part98_2 Go.Sim.Tryz.ty_struct98 Go.Sim.Tryz.ty_load100 Go.Sim.Tryz.ty_zero100 Go.Sim.Tryz.ty_load106 Go.Sim.Tryz.ty_zero106 Go.Sim.Tryz.ty_load110 Go.Sim.Tryz.ty_zero110 Go.Sim.Tryz.ty_und110 Go.Sim.Tryz.ty_load118 Go.Sim.Tryz.ty_zero118 Go.Sim.Tryz.ty_und118 Go.Sim.Tryz.ty_load121 Go.Sim.Tryz.ty_zero121 Go.Sim.Tryz.ty_load128 Go.Sim.Tryz.ty_zero128 Go.Sim.Tryz.ty_und128 Go.Sim.Tryz.ty_load132 Go.Sim.Tryz.ty_zero132 encE_mk encE_take encE_len encV encE_one encEs_pure encE_pure

/-- The set of the first columns. -/
def ofC (cols : List Int) (i : Nat) : Bool := cols.any fun c => decide (c / 4 = i)
theorem ofC_snoc (cols : List Int) (c : Int) (h0 : 0 ≤ c) (h1 : c ≤ 15) : bor .i64 (ofBits (ofC cols)) (bshl .i64 1 (c / 4)) = ofBits (ofC (cols ++ [c])) := by
  obtain ⟨k, hk⟩ : ∃ k : Nat, c / 4 = k := ⟨(c / 4).toNat, by omega⟩
  rw [hk, bshl_one k (by omega), bor_range _ _ (ofBits_range _) (ofBits_range _)]
  refine ofBits_ext fun i hi => ?_
  rw [ofBits_bit _ i hi, ofBits_bit _ i hi, ofC, ofC, List.any_append, List.any_cons, List.any_nil, Bool.or_false, hk]
  congr 1
  rw [decide_eq_decide]
  omega
theorem ofSet_ok (cols : List Int) (hl : cols.length ≤ 1000000) (hr : ∀ c ∈ cols, 0 ≤ c ∧ c ≤ 15) : Quiet Go.Proofs.Tryz.prog 65 [.sl (cols.map encI)] (.int (ofBits (ofC cols))) := by
  refine quiet_of (rs := #[.tmp 2]) Go.Proofs.Tryz.func65 rfl rfl rfl mixed rfl rfl fun H hs => ?_
  simp -implicitDefEqProofs only [push_cast, Nat.reduceAdd, Nat.reduceSub, Nat.reduceMul, Nat.reduceLT, Nat.reduceLeDiff, Nat.reduceEqDiff, Nat.reduceBEq, reduceCtorEq, reduceIte, Int.reduceLE, Int.reduceLT, Int.reduceNeg, Int.reduceToNat]
  refine loop_rule hs (σ := Nat) (fun i => i ≤ cols.length) (fun i => cols.length - i)
    (fun i => [(9, .sl (cols.map encI)), (3, .int (ofBits (ofC (cols.take i)))), (10, .int cols.length), (11, .int i)]) (fun _ => []) 0 (by omega) ?_ ?_ ?_
  · (try simp -implicitDefEqProofs only [push_cast, Nat.reduceAdd, Nat.reduceSub, Nat.reduceMul, Nat.reduceLT, Nat.reduceLeDiff, Nat.reduceEqDiff, Nat.reduceBEq, reduceCtorEq, reduceIte, Int.reduceLE, Int.reduceLT, Int.reduceNeg, Int.reduceToNat, encIs_pure])
    rfl
  · (try simp -implicitDefEqProofs only [push_cast, Nat.reduceAdd, Nat.reduceSub, Nat.reduceMul, Nat.reduceLT, Nat.reduceLeDiff, Nat.reduceEqDiff, Nat.reduceBEq, reduceCtorEq, reduceIte, Int.reduceLE, Int.reduceLT, Int.reduceNeg, Int.reduceToNat])
  · rintro i h2
    by_cases hi : i < cols.length
    · have hi' : ((i : Int) < (cols.length : Int)) = True := by simp; omega
      have hi0 : (0 ≤ (i : Int)) = True := by simp
      have hc := hr cols[i] (List.getElem_mem hi)
      simp -implicitDefEqProofs only [push_cast, Nat.reduceAdd, Nat.reduceSub, Nat.reduceMul, Nat.reduceLT, Nat.reduceLeDiff, Nat.reduceEqDiff, Nat.reduceBEq, reduceCtorEq, reduceIte, Int.reduceLE, Int.reduceLT, Int.reduceNeg, Int.reduceToNat, hi', hi0, encIs_get cols i hi, encI]
      refine callq (Split_ok cols[i] hc.1 hc.2) ?_
      simp -implicitDefEqProofs only [push_cast, Nat.reduceAdd, Nat.reduceSub, Nat.reduceMul, Nat.reduceLT, Nat.reduceLeDiff, Nat.reduceEqDiff, Nat.reduceBEq, reduceCtorEq, reduceIte, Int.reduceLE, Int.reduceLT, Int.reduceNeg, Int.reduceToNat]
      refine ⟨by omega, ?_⟩
      rw [wrap64 (n := (i : Int) + 1) (by omega) (by omega), ofC_snoc _ _ hc.1 hc.2, ← List.take_succ_eq_append_getElem hi]
      refine next_intro (i + 1) (by omega) (by omega) ?_ ?_
      · (try simp -implicitDefEqProofs only [push_cast, Nat.reduceAdd, Nat.reduceSub, Nat.reduceMul, Nat.reduceLT, Nat.reduceLeDiff, Nat.reduceEqDiff, Nat.reduceBEq, reduceCtorEq, reduceIte, Int.reduceLE, Int.reduceLT, Int.reduceNeg, Int.reduceToNat, encIs_pure])
      · (try simp -implicitDefEqProofs only [push_cast, Nat.reduceAdd, Nat.reduceSub, Nat.reduceMul, Nat.reduceLT, Nat.reduceLeDiff, Nat.reduceEqDiff, Nat.reduceBEq, reduceCtorEq, reduceIte, Int.reduceLE, Int.reduceLT, Int.reduceNeg, Int.reduceToNat])
    · have hi' : ((i : Int) < (cols.length : Int)) = False := by simp; omega
      simp -implicitDefEqProofs only [push_cast, Nat.reduceAdd, Nat.reduceSub, Nat.reduceMul, Nat.reduceLT, Nat.reduceLeDiff, Nat.reduceEqDiff, Nat.reduceBEq, reduceCtorEq, reduceIte, Int.reduceLE, Int.reduceLT, Int.reduceNeg, Int.reduceToNat, hi']
      (try simp -implicitDefEqProofs only [push_cast, Nat.reduceAdd, Nat.reduceSub, Nat.reduceMul, Nat.reduceLT, Nat.reduceLeDiff, Nat.reduceEqDiff, Nat.reduceBEq, reduceCtorEq, reduceIte, Int.reduceLE, Int.reduceLT, Int.reduceNeg, Int.reduceToNat])
      rw [List.take_of_length_le (by omega)]
theorem ofE_ok (e : Ex) (hok : e.Ok) (hc : cnt e ≤ 1000000) : Quiet Go.Proofs.Tryz.prog 21 [.agg (encE e)] (.int (setE e)) := by
  refine quiet_of (rs := #[.tmp 2]) Go.Proofs.Tryz.func21 rfl rfl rfl mixed rfl rfl fun H hs => ?_
  simp -implicitDefEqProofs only [push_cast, Nat.reduceAdd, Nat.reduceSub, Nat.reduceMul, Nat.reduceLT, Nat.reduceLeDiff, Nat.reduceEqDiff, Nat.reduceBEq, reduceCtorEq, reduceIte, Int.reduceLE, Int.reduceLT, Int.reduceNeg, Int.reduceToNat]
  refine callq (Cols_ok e hok hc) ?_
  simp -implicitDefEqProofs only [push_cast, Nat.reduceAdd, Nat.reduceSub, Nat.reduceMul, Nat.reduceLT, Nat.reduceLeDiff, Nat.reduceEqDiff, Nat.reduceBEq, reduceCtorEq, reduceIte, Int.reduceLE, Int.reduceLT, Int.reduceNeg, Int.reduceToNat]
  refine callq (ofSet_ok e.cols (Nat.le_trans (cols_len e) hc) fun c hx => ?_) ?_
  · by_cases hm : e.may = true
    · exact cols_range e (fine_of_may hm) c ((cols_mem hm c).1 hx)
    · rw [cols_eq, if_neg hm] at hx
      cases hx
  · simp -implicitDefEqProofs only [push_cast, Nat.reduceAdd, Nat.reduceSub, Nat.reduceMul, Nat.reduceLT, Nat.reduceLeDiff, Nat.reduceEqDiff, Nat.reduceBEq, reduceCtorEq, reduceIte, Int.reduceLE, Int.reduceLT, Int.reduceNeg, Int.reduceToNat]
    (try simp -implicitDefEqProofs only [push_cast, Nat.reduceAdd, Nat.reduceSub, Nat.reduceMul, Nat.reduceLT, Nat.reduceLeDiff, Nat.reduceEqDiff, Nat.reduceBEq, reduceCtorEq, reduceIte, Int.reduceLE, Int.reduceLT, Int.reduceNeg, Int.reduceToNat])
    rfl
theorem containsI_ok (l : List Int) (hl : l.length ≤ 1000000) (x : Int) : Quiet Go.Proofs.Tryz.prog 58 [.sl (l.map encI), .int x] (.bool (l.contains x)) := by
  refine quiet_of (rs := #[.tmp 4]) Go.Proofs.Tryz.func58 rfl rfl rfl mixed rfl rfl fun H hs => ?_
  simp -implicitDefEqProofs only [push_cast, Nat.reduceAdd, Nat.reduceSub, Nat.reduceMul, Nat.reduceLT, Nat.reduceLeDiff, Nat.reduceEqDiff, Nat.reduceBEq, reduceCtorEq, reduceIte, Int.reduceLE, Int.reduceLT, Int.reduceNeg, Int.reduceToNat]
  refine callq (index_ok l (by omega) x) ?_
  simp -implicitDefEqProofs only [push_cast, Nat.reduceAdd, Nat.reduceSub, Nat.reduceMul, Nat.reduceLT, Nat.reduceLeDiff, Nat.reduceEqDiff, Nat.reduceBEq, reduceCtorEq, reduceIte, Int.reduceLE, Int.reduceLT, Int.reduceNeg, Int.reduceToNat, idx_nonneg]
  (try simp -implicitDefEqProofs only [push_cast, Nat.reduceAdd, Nat.reduceSub, Nat.reduceMul, Nat.reduceLT, Nat.reduceLeDiff, Nat.reduceEqDiff, Nat.reduceBEq, reduceCtorEq, reduceIte, Int.reduceLE, Int.reduceLT, Int.reduceNeg, Int.reduceToNat])
  rw [Bool.eq_iff_iff, List.any_eq_true, List.contains_iff_mem]
  constructor
  · rintro ⟨y, hy, h⟩
    rw [decide_eq_true_eq] at h
    rw [h]; exact hy
  · exact fun h => ⟨x, h, decide_eq_true rfl⟩
theorem within1_ok (l : List Int) (hl : l.length ≤ 1000000) (x : Int) : Quiet Go.Proofs.Tryz.prog 86 [.int x, .iptr [.sl (l.map encI)]] (.bool (!l.contains x)) := by
  refine quiet_of (rs := #[.tmp 3]) Go.Proofs.Tryz.func86 rfl rfl rfl mixed rfl rfl fun H hs => ?_
  simp -implicitDefEqProofs only [push_cast, Nat.reduceAdd, Nat.reduceSub, Nat.reduceMul, Nat.reduceLT, Nat.reduceLeDiff, Nat.reduceEqDiff, Nat.reduceBEq, reduceCtorEq, reduceIte, Int.reduceLE, Int.reduceLT, Int.reduceNeg, Int.reduceToNat]
  refine callq (containsI_ok l hl x) ?_
  simp -implicitDefEqProofs only [push_cast, Nat.reduceAdd, Nat.reduceSub, Nat.reduceMul, Nat.reduceLT, Nat.reduceLeDiff, Nat.reduceEqDiff, Nat.reduceBEq, reduceCtorEq, reduceIte, Int.reduceLE, Int.reduceLT, Int.reduceNeg, Int.reduceToNat]
  (try simp -implicitDefEqProofs only [push_cast, Nat.reduceAdd, Nat.reduceSub, Nat.reduceMul, Nat.reduceLT, Nat.reduceLeDiff, Nat.reduceEqDiff, Nat.reduceBEq, reduceCtorEq, reduceIte, Int.reduceLE, Int.reduceLT, Int.reduceNeg, Int.reduceToNat])
theorem within_ok (l m : List Int) (hl : l.length ≤ 1000000) (hm : m.length ≤ 1000000) : Quiet Go.Proofs.Tryz.prog 56 [.sl (l.map encI), .sl (m.map encI)] (.bool (within l m)) := by
  refine quiet_of (rs := #[.tmp 4]) Go.Proofs.Tryz.func56 rfl rfl rfl mixed rfl rfl fun H hs => ?_
  simp -implicitDefEqProofs only [push_cast, Nat.reduceAdd, Nat.reduceSub, Nat.reduceMul, Nat.reduceLT, Nat.reduceLeDiff, Nat.reduceEqDiff, Nat.reduceBEq, reduceCtorEq, reduceIte, Int.reduceLE, Int.reduceLT, Int.reduceNeg, Int.reduceToNat]
  refine fzk H 0 1 [.sl (l.map encI), .clo (.func 86) [] [.iptr [.sl (m.map encI)]]] (by rfl) (by omega) (by simp) ?_ ?_
  · (try simp -implicitDefEqProofs only [push_cast, Nat.reduceAdd, Nat.reduceSub, Nat.reduceMul, Nat.reduceLT, Nat.reduceLeDiff, Nat.reduceEqDiff, Nat.reduceBEq, reduceCtorEq, reduceIte, Int.reduceLE, Int.reduceLT, Int.reduceNeg, Int.reduceToNat, encIs_pure])
  refine callq (containsFuncI_ok l (by omega) _ [.iptr [.sl (m.map encI)]] (by simp [PureL, Pure, encIs_pure]) (fun x => !m.contains x) fun x _ => within1_ok m hm x) ?_
  simp -implicitDefEqProofs only [push_cast, Nat.reduceAdd, Nat.reduceSub, Nat.reduceMul, Nat.reduceLT, Nat.reduceLeDiff, Nat.reduceEqDiff, Nat.reduceBEq, reduceCtorEq, reduceIte, Int.reduceLE, Int.reduceLT, Int.reduceNeg, Int.reduceToNat]
  (try simp -implicitDefEqProofs only [push_cast, Nat.reduceAdd, Nat.reduceSub, Nat.reduceMul, Nat.reduceLT, Nat.reduceLeDiff, Nat.reduceEqDiff, Nat.reduceBEq, reduceCtorEq, reduceIte, Int.reduceLE, Int.reduceLT, Int.reduceNeg, Int.reduceToNat])
  rw [within, List.all_eq_not_any_not]
theorem idxF_take (p : Ex → Bool) (P : List Ex) (i : Nat) (h : i < P.length) : idxF p (P.take (i + 1)) = idxF p (P.take i) ++ (if p P[i] then [(i : Int)] else []) := by
  rw [List.take_succ_eq_append_getElem h, idxF_snoc, List.length_take, Nat.min_eq_left (by omega)]
theorem idxF_yes (p : Ex → Bool) (P : List Ex) (i : Nat) (h : i < P.length) (hp : p P[i] = true) : idxF p (P.take (i + 1)) = idxF p (P.take i) ++ [(i : Int)] := by rw [idxF_take p P i h, if_pos hp]
theorem idxF_no (p : Ex → Bool) (P : List Ex) (i : Nat) (h : i < P.length) (hp : p P[i] = false) : idxF p (P.take (i + 1)) = idxF p (P.take i) := by rw [idxF_take p P i h, if_neg (by simp [hp]), List.append_nil]
theorem idxF_nil (p : Ex → Bool) : idxF p [] = [] := rfl
theorem idxF_lt (p : Ex → Bool) (P : List Ex) : (idxF p P).length ≤ P.length := Nat.le_trans (List.length_filter_le _ _) (by rw [upto_len]; omega)
/-- What is asked, as a value. -/
def encQ (q : Qy) : List AV := [.sl (q.occ.map encI), .sl (q.p.map encE), .int q.by_, .sl (q.sums.map encI), .sl (q.out.map encI), .int q.ord]
/-- The places of those expressions whose set is so. -/
theorem some_Q (q : Qy) (fn : FuncId) (bnd caps : List AV) (hb : PureL bnd) (hc : PureL caps) (p : Ex → Bool) (hP : q.p.length ≤ 1000000) (hok : ∀ e ∈ q.p, e.Ok ∧ cnt e ≤ 1000000)
    (hf : ∀ e ∈ q.p, Quiet Go.Proofs.Tryz.prog fn (bnd ++ .int (setE e) :: caps) (.bool (p e))) :
    Quiet Go.Proofs.Tryz.prog 59 [.agg (encQ q), .clo (.func fn) bnd caps] (.sl ((idxF p q.p).map encI)) := by
  refine quiet_of (rs := #[.tmp 4]) Go.Proofs.Tryz.func59 rfl rfl rfl mixed rfl rfl fun H hs => ?_
  simp -implicitDefEqProofs only [push_cast, Nat.reduceAdd, Nat.reduceSub, Nat.reduceMul, Nat.reduceLT, Nat.reduceLeDiff, Nat.reduceEqDiff, Nat.reduceBEq, reduceCtorEq, reduceIte, Int.reduceLE, Int.reduceLT, Int.reduceNeg, Int.reduceToNat, encQ]
  refine loop_at hs (σ := Nat) (fun i => i ≤ q.p.length) (fun i => q.p.length - i)
    (fun i => [(11, .int i), (10, .int q.p.length), (9, .sl (q.p.map encE)), (5, .rsl (H.nxt + 0) 1 0 (idxF p (q.p.take i)).length), (1, .clo (.func fn) bnd caps)]) (fun i => [some (.cells 1 (rowI (idxF p (q.p.take i))) 0)]) [none] 0 (by omega) rfl ?_ ?_ ?_
  · (try simp -implicitDefEqProofs only [push_cast, Nat.reduceAdd, Nat.reduceSub, Nat.reduceMul, Nat.reduceLT, Nat.reduceLeDiff, Nat.reduceEqDiff, Nat.reduceBEq, reduceCtorEq, reduceIte, Int.reduceLE, Int.reduceLT, Int.reduceNeg, Int.reduceToNat, idxF_nil, rowI_nil, List.take_zero, encEs_pure, hb, hc])
  · (try simp -implicitDefEqProofs only [push_cast, Nat.reduceAdd, Nat.reduceSub, Nat.reduceMul, Nat.reduceLT, Nat.reduceLeDiff, Nat.reduceEqDiff, Nat.reduceBEq, reduceCtorEq, reduceIte, Int.reduceLE, Int.reduceLT, Int.reduceNeg, Int.reduceToNat, idxF_nil, rowI_nil, List.take_zero])
  intro i hi2
  have hlen := idxF_lt p (q.p.take i)
  rw [List.length_take] at hlen
  by_cases hi : i < q.p.length
  · have hi' : ((i : Int) < (q.p.length : Int)) = True := by simp; omega
    have hi0 : (0 ≤ (i : Int)) = True := by simp
    have ho := hok _ (List.getElem_mem hi)
    simp -implicitDefEqProofs only [push_cast, Nat.reduceAdd, Nat.reduceSub, Nat.reduceMul, Nat.reduceLT, Nat.reduceLeDiff, Nat.reduceEqDiff, Nat.reduceBEq, reduceCtorEq, reduceIte, Int.reduceLE, Int.reduceLT, Int.reduceNeg, Int.reduceToNat, hi', hi0, encEs_get q.p i hi]
    refine callq (ofE_ok _ ho.1 ho.2) ?_
    simp -implicitDefEqProofs only [push_cast, Nat.reduceAdd, Nat.reduceSub, Nat.reduceMul, Nat.reduceLT, Nat.reduceLeDiff, Nat.reduceEqDiff, Nat.reduceBEq, reduceCtorEq, reduceIte, Int.reduceLE, Int.reduceLT, Int.reduceNeg, Int.reduceToNat]
    refine callq (hf _ (List.getElem_mem hi)) ?_
    simp -implicitDefEqProofs only [push_cast, Nat.reduceAdd, Nat.reduceSub, Nat.reduceMul, Nat.reduceLT, Nat.reduceLeDiff, Nat.reduceEqDiff, Nat.reduceBEq, reduceCtorEq, reduceIte, Int.reduceLE, Int.reduceLT, Int.reduceNeg, Int.reduceToNat]
    refine ⟨fun h => ⟨by omega, ?_⟩, fun h => ?_⟩
    · rw [wrap64 (n := (i : Int) + 1) (by omega) (by omega)]
      refine next_at [some 3] (i + 1) (by omega) (by omega) rfl ?_ ?_
      · (try simp -implicitDefEqProofs only [push_cast, Nat.reduceAdd, Nat.reduceSub, Nat.reduceMul, Nat.reduceLT, Nat.reduceLeDiff, Nat.reduceEqDiff, Nat.reduceBEq, reduceCtorEq, reduceIte, Int.reduceLE, Int.reduceLT, Int.reduceNeg, Int.reduceToNat, idxF_yes p q.p i hi h, encEs_pure, hb, hc])
      · (try simp -implicitDefEqProofs only [push_cast, Nat.reduceAdd, Nat.reduceSub, Nat.reduceMul, Nat.reduceLT, Nat.reduceLeDiff, Nat.reduceEqDiff, Nat.reduceBEq, reduceCtorEq, reduceIte, Int.reduceLE, Int.reduceLT, Int.reduceNeg, Int.reduceToNat, idxF_yes p q.p i hi h, take_rowI _ _ (Nat.le_refl _), snocI, rowI_pure, rowI_one])
    · rw [wrap64 (n := (i : Int) + 1) (by omega) (by omega)]
      refine next_at [some 0] (i + 1) (by omega) (by omega) rfl ?_ ?_
      · (try simp -implicitDefEqProofs only [push_cast, Nat.reduceAdd, Nat.reduceSub, Nat.reduceMul, Nat.reduceLT, Nat.reduceLeDiff, Nat.reduceEqDiff, Nat.reduceBEq, reduceCtorEq, reduceIte, Int.reduceLE, Int.reduceLT, Int.reduceNeg, Int.reduceToNat, idxF_no p q.p i hi h, encEs_pure, hb, hc])
      · (try simp -implicitDefEqProofs only [push_cast, Nat.reduceAdd, Nat.reduceSub, Nat.reduceMul, Nat.reduceLT, Nat.reduceLeDiff, Nat.reduceEqDiff, Nat.reduceBEq, reduceCtorEq, reduceIte, Int.reduceLE, Int.reduceLT, Int.reduceNeg, Int.reduceToNat, idxF_no p q.p i hi h, rowI_pure, rowI_one])
  · have hi' : ((i : Int) < (q.p.length : Int)) = False := by simp; omega
    simp -implicitDefEqProofs only [push_cast, Nat.reduceAdd, Nat.reduceSub, Nat.reduceMul, Nat.reduceLT, Nat.reduceLeDiff, Nat.reduceEqDiff, Nat.reduceBEq, reduceCtorEq, reduceIte, Int.reduceLE, Int.reduceLT, Int.reduceNeg, Int.reduceToNat, hi']
    (try simp -implicitDefEqProofs only [push_cast, Nat.reduceAdd, Nat.reduceSub, Nat.reduceMul, Nat.reduceLT, Nat.reduceLeDiff, Nat.reduceEqDiff, Nat.reduceBEq, reduceCtorEq, reduceIte, Int.reduceLE, Int.reduceLT, Int.reduceNeg, Int.reduceToNat])
    obtain rfl : i = q.p.length := by omega
    rw [List.take_length, take_rowI _ _ (Nat.le_refl _)]
    exact sealLL_pure _ _ _ (encIs_pure _)
/-- What may be walked. -/
def Qy.Ok (q : Qy) : Prop := q.p.length ≤ 1000000 ∧ (∀ e ∈ q.p, e.Ok ∧ cnt e ≤ 1000000) ∧ q.occ.length ≤ 1000000 ∧ q.sums.length ≤ 1000000 ∧ q.out.length ≤ 1000000
theorem New1_ok (a b t : Int) (h0 : 0 ≤ t) (h1 : t ≤ 15) : Quiet Go.Proofs.Tryz.prog 61 [.int t, .iptr [.int (bor .i64 a b)], .iptr [.int a], .iptr [.int b]] (.bool (holdsI (bor .i64 a b) t && !holdsI a t && !holdsI b t)) := by
  refine quiet_of (rs := #[.tmp 5]) Go.Proofs.Tryz.func61 rfl rfl rfl mixed rfl rfl fun H hs => ?_
  simp -implicitDefEqProofs only [push_cast, Nat.reduceAdd, Nat.reduceSub, Nat.reduceMul, Nat.reduceLT, Nat.reduceLeDiff, Nat.reduceEqDiff, Nat.reduceBEq, reduceCtorEq, reduceIte, Int.reduceLE, Int.reduceLT, Int.reduceNeg, Int.reduceToNat]
  refine callq (setHolds_ok _ _ h0 h1) ?_
  simp -implicitDefEqProofs only [push_cast, Nat.reduceAdd, Nat.reduceSub, Nat.reduceMul, Nat.reduceLT, Nat.reduceLeDiff, Nat.reduceEqDiff, Nat.reduceBEq, reduceCtorEq, reduceIte, Int.reduceLE, Int.reduceLT, Int.reduceNeg, Int.reduceToNat]
  refine gcallq' (.bool (holdsI a t)) (fun h => h) (fun _ => setHolds_ok _ _ h0 h1) ?_
  simp -implicitDefEqProofs only [push_cast, Nat.reduceAdd, Nat.reduceSub, Nat.reduceMul, Nat.reduceLT, Nat.reduceLeDiff, Nat.reduceEqDiff, Nat.reduceBEq, reduceCtorEq, reduceIte, Int.reduceLE, Int.reduceLT, Int.reduceNeg, Int.reduceToNat]
  refine gcallq' (.bool (holdsI b t)) (fun h => by simpa using h) (fun _ => setHolds_ok _ _ h0 h1) ?_
  simp -implicitDefEqProofs only [push_cast, Nat.reduceAdd, Nat.reduceSub, Nat.reduceMul, Nat.reduceLT, Nat.reduceLeDiff, Nat.reduceEqDiff, Nat.reduceBEq, reduceCtorEq, reduceIte, Int.reduceLE, Int.reduceLT, Int.reduceNeg, Int.reduceToNat]
  (try simp -implicitDefEqProofs only [push_cast, Nat.reduceAdd, Nat.reduceSub, Nat.reduceMul, Nat.reduceLT, Nat.reduceLeDiff, Nat.reduceEqDiff, Nat.reduceBEq, reduceCtorEq, reduceIte, Int.reduceLE, Int.reduceLT, Int.reduceNeg, Int.reduceToNat])
theorem New_ok (q : Qy) (hq : q.Ok) (a b : Int) : Quiet Go.Proofs.Tryz.prog 18 [.agg (encQ q), .int a, .int b] (.sl ((q.new a b).map encI)) := by
  have hsm := some_Q q 61 [] [.iptr [.int (bor .i64 a b)], .iptr [.int a], .iptr [.int b]] trivial (by simp [PureL, Pure]) (newT a b) hq.1 hq.2.1 fun e _ => New1_ok a b _ (setE_range e).1 (setE_range e).2
  refine quiet_of (rs := #[.tmp 6]) Go.Proofs.Tryz.func18 rfl rfl rfl mixed rfl rfl fun H hs => ?_
  simp only [encQ] at hsm
  simp -implicitDefEqProofs only [push_cast, Nat.reduceAdd, Nat.reduceSub, Nat.reduceMul, Nat.reduceLT, Nat.reduceLeDiff, Nat.reduceEqDiff, Nat.reduceBEq, reduceCtorEq, reduceIte, Int.reduceLE, Int.reduceLT, Int.reduceNeg, Int.reduceToNat, encQ]
  refine fzk H 3 1 [.agg [.sl (q.occ.map encI), .sl (q.p.map encE), .int q.by_, .sl (q.sums.map encI), .sl (q.out.map encI), .int q.ord], .clo (.func 61) [] [.iptr [.int (bor .i64 a b)], .ptr (H.nxt + 1) 1 0 0, .ptr (H.nxt + 2) 1 0 0]] (by rfl) (by omega) (by simp) ?_ ?_
  · (try simp -implicitDefEqProofs only [push_cast, Nat.reduceAdd, Nat.reduceSub, Nat.reduceMul, Nat.reduceLT, Nat.reduceLeDiff, Nat.reduceEqDiff, Nat.reduceBEq, reduceCtorEq, reduceIte, Int.reduceLE, Int.reduceLT, Int.reduceNeg, Int.reduceToNat, encIs_pure, encEs_pure])
  refine fzk H 1 1 [.agg [.sl (q.occ.map encI), .sl (q.p.map encE), .int q.by_, .sl (q.sums.map encI), .sl (q.out.map encI), .int q.ord], .clo (.func 61) [] [.iptr [.int (bor .i64 a b)], .iptr [.int a], .ptr (H.nxt + 2) 1 0 0]] (by rfl) (by omega) (by simp) ?_ ?_
  · (try simp -implicitDefEqProofs only [push_cast, Nat.reduceAdd, Nat.reduceSub, Nat.reduceMul, Nat.reduceLT, Nat.reduceLeDiff, Nat.reduceEqDiff, Nat.reduceBEq, reduceCtorEq, reduceIte, Int.reduceLE, Int.reduceLT, Int.reduceNeg, Int.reduceToNat, encIs_pure, encEs_pure])
  refine fzk H 2 1 [.agg [.sl (q.occ.map encI), .sl (q.p.map encE), .int q.by_, .sl (q.sums.map encI), .sl (q.out.map encI), .int q.ord], .clo (.func 61) [] [.iptr [.int (bor .i64 a b)], .iptr [.int a], .iptr [.int b]]] (by rfl) (by omega) (by simp) ?_ ?_
  · (try simp -implicitDefEqProofs only [push_cast, Nat.reduceAdd, Nat.reduceSub, Nat.reduceMul, Nat.reduceLT, Nat.reduceLeDiff, Nat.reduceEqDiff, Nat.reduceBEq, reduceCtorEq, reduceIte, Int.reduceLE, Int.reduceLT, Int.reduceNeg, Int.reduceToNat, encIs_pure, encEs_pure])
  refine callq hsm ?_
  simp -implicitDefEqProofs only [push_cast, Nat.reduceAdd, Nat.reduceSub, Nat.reduceMul, Nat.reduceLT, Nat.reduceLeDiff, Nat.reduceEqDiff, Nat.reduceBEq, reduceCtorEq, reduceIte, Int.reduceLE, Int.reduceLT, Int.reduceNeg, Int.reduceToNat]
  (try simp -implicitDefEqProofs only [push_cast, Nat.reduceAdd, Nat.reduceSub, Nat.reduceMul, Nat.reduceLT, Nat.reduceLeDiff, Nat.reduceEqDiff, Nat.reduceBEq, reduceCtorEq, reduceIte, Int.reduceLE, Int.reduceLT, Int.reduceNeg, Int.reduceToNat])
  exact sealLL_pure _ _ _ (encIs_pure _)

end Go.Sim.Tryz
set_option linter.unusedSimpArgs false
set_option linter.unusedVariables false
set_option maxRecDepth 100000
namespace Go.Sim.Tryz
open Go Go.Sim
attribute [local push_cast] aops_cons aops_nil aopG_none aopG_some aopP_eq aopE_eq aopC_eq aopE?_eq aopC?_eq aopB_eq aopB?_eq abr anilq gopP_eq gopL_eq ahead_cons ahead_nil ahdG_none ahdG_some ahdP_eq ahdN_eq ahdC_eq ahdN?_eq ahdS_eq ahdS?_eq astoreN ahdC?_eq ghdP_eq ghdC_eq ghdC?_eq ghdZ_f ghdZ_t ahdI_eq ahdI?_eq ghdN?_eq aim_nil aim_cons isIn_nil isIn_none isIn_cons aimm aheP_eq aheA_eq aheC_eq aheC?_eq aheI?_eq aheA?_eq gheP_eq gheC_eq gheC?_eq gheZ_eq aheG_none aheG_some aheff_cons aheff_nil aapp gro_rsl gro_lit gro_esl opt_some opt_none no_eq acondT_true acondT_false acondT_lit aw_skip aw_region aw_regionD aw_seq aw_cond aw_block aw_loop aw_exit aw_label aw_ret thn_normal thn_exit thn_ret inb_normal inb_exit inb_ret qret_ret qret_normal gcond apure aeff anew acallee ares aresT aresL aresC ares1 qfin_eq ev ofV evL gokL tget tput_some tput_none initT abin aint aun aload afaddr aiaddr afield aindex aextract apick pickv_lit Bool.or_false Bool.false_or Bool.or_true Bool.true_or imp_self aslice chunk abound aconv abuild afill splice alen aminmax abuiltin anil apart Value.oneCell' astore aappend srcEs abuildSlice asets isEq plus_obj plus_nxt plus_add plus_set plus_del IntKind.bits Option.map_some Option.map_none Option.bind_some Option.bind_none Option.join_some Option.getD_some Option.getD_none Option.toList Option.isSome_some List.getElem?_toArray List.getElem?_cons_zero List.getElem?_cons_succ List.getElem?_nil List.length_cons List.length_nil List.length_map List.head?_cons List.cons_append List.nil_append List.append_nil List.map_cons List.map_nil List.getD_cons_zero List.getD_cons_succ List.replicate_succ List.replicate_zero List.set_cons_zero List.set_cons_succ List.take_succ_cons List.take_zero List.drop_succ_cons List.drop_zero List.all_cons List.all_nil Nat.zero_add if_true if_false true_and and_true false_and and_false true_implies implies_true forall_const Bool.and_true Bool.true_and Bool.false_and Bool.and_false Bool.true_beq Bool.false_beq Bool.not_not beq_tt beq_ff Int.toNat_natCast decide_true decide_false Bool.not_true Bool.not_false Bool.true_eq_false Bool.false_eq_true false_implies exists_prop eq_self bne_self_eq_false beq_self_eq_true decide_eq_true_eq decide_eq_false_iff_not Bool.not_eq_true' Bool.not_eq_false' AV.int AV.bool AV.nilS ne_eq not_false_eq_true not_true_eq_false exists_eq_left exists_eq_left' Nat.lt_irrefl core_lit grd_lit acells_lit one_lit core_agg grd_agg acells_agg one_agg core_tup grd_tup acells_tup one_tup core_sl grd_sl acells_sl one_sl core_esl grd_esl acells_esl one_esl core_rsl grd_rsl acells_rsl one_rsl core_ptr grd_ptr acells_ptr one_ptr core_iptr grd_iptr acells_iptr one_iptr core_clo grd_clo acells_clo one_clo core_mp grd_mp acells_mp one_mp core_any grd_any acells_any one_any core_gv grd_gv fit_agg fit_lit fit_sl fit_esl fit_rsl fit_ptr fit_iptr fit_clo fit_mp retq_ret retq_normal set_nxt set_set plus_obj_set plus_set_set app_get0 app_get app_set0 app_set List.append_assoc List.length_append List.length_set Nat.lt_add_one Nat.add_lt_add_iff_right Nat.lt_add_right_iff_pos Nat.add_lt_add_iff_left List.mem_cons List.not_mem_nil or_false forall_eq forall_eq_or_imp lt_s0 lt_s1 lt_s2 lt_s3 lt_s4 lt_s5 lt_s6 lt_s7 lt_s8 pickv_t pickv_f or_nand or_nand2 imp_and_l SealT SealOs sealO_cells sl_lit sl_any sl_agg sl_tup sl_sl sl_rsl slO sl_esl sl_nil sl_eslesl sl_eslnil sl_rslrsl sl_eslrsl sl_nilrsl sl_ptr sl_iptr sl_ptri slP sl_clo sl_mp sl_gv sll_nil sll_cons slll_nil slll_cons shut_eq shutO Option.join_none Fn.func.injEq and_self sealL_self sealLL_self seal_self PureL PureLL Pure Nat.le_refl Nat.zero_le AV.lit.injEq Value.int.injEq Value.bool.injEq false_or or_true true_or Int.natCast_zero Int.ofNat_zero Int.cast_ofNat_Int Int.natCast_add Int.natCast_one Option.some.injEq piL_is sop_nil sop_cons sop_none sop_some sopO_some sop_new shut_pi shutL_nil shutL_cons exQ_exit exQ_ret exQ_normal Go.Sim.Tryz.ty_load1 Go.Sim.Tryz.ty_zero1 Go.Sim.Tryz.ty_load2 Go.Sim.Tryz.ty_zero2 Go.Sim.Tryz.ty_und2 Go.Sim.Tryz.ty_load3 Go.Sim.Tryz.ty_zero3 Go.Sim.Tryz.ty_und3 Go.Sim.Tryz.ty_load4 Go.Sim.Tryz.ty_zero4 Go.Sim.Tryz.ty_und4 Go.Sim.Tryz.ty_load5 Go.Sim.Tryz.ty_zero5 Go.Sim.Tryz.ty_und5 Go.Sim.Tryz.ty_load9 Go.Sim.Tryz.ty_zero9 Go.Sim.Tryz.ty_und9 Go.Sim.Tryz.ty_load22 Go.Sim.Tryz.ty_zero22 Go.Sim.Tryz.ty_el22 Go.Sim.Tryz.ty_zeroE22 Go.Sim.Tryz.ty_load24 Go.Sim.Tryz.ty_zero24 Go.Sim.Tryz.ty_fld24_0 Go.Sim.Tryz.ty_part24_0 Go.Sim.Tryz.ty_struct24 Go.Sim.Tryz.ty_load25 Go.Sim.Tryz.ty_zero25 Go.Sim.Tryz.ty_el25 Go.Sim.Tryz.ty_zeroE25 Go.Sim.Tryz.ty_load26 Go.Sim.Tryz.ty_zero26 Go.Sim.Tryz.ty_el26 Go.Sim.Tryz.ty_zeroE26 Go.Sim.Tryz.ty_load28 Go.Sim.Tryz.ty_zero28 Go.Sim.Tryz.ty_fld28_0 Go.Sim.Tryz.ty_part28_0 Go.Sim.Tryz.ty_fld28_1 Go.Sim.Tryz.ty_part28_1 Go.Sim.Tryz.ty_fld28_2 Go.Sim.Tryz.ty_part28_2 Go.Sim.Tryz.ty_fld28_3 Go.Sim.Tryz.ty_part28_3 Go.Sim.Tryz.ty_fld28_4 Go.Sim.Tryz.ty_part28_4 Go.Sim.Tryz.ty_fld28_5 Go.Sim.Tryz.ty_part28_5 Go.Sim.Tryz.ty_struct28 Go.Sim.Tryz.ty_load36 Go.Sim.Tryz.ty_zero36 Go.Sim.Tryz.ty_fld36_0 Go.Sim.Tryz.ty_part36_0 Go.Sim.Tryz.ty_fld36_1 Go.Sim.Tryz.ty_part36_1 Go.Sim.Tryz.ty_struct36 Go.Sim.Tryz.ty_load38 Go.Sim.Tryz.ty_zero38 Go.Sim.Tryz.ty_fld38_0 Go.Sim.Tryz.ty_part38_0 Go.Sim.Tryz.ty_fld38_1 Go.Sim.Tryz.ty_part38_1 Go.Sim.Tryz.ty_fld38_2 Go.Sim.Tryz.ty_part38_2 Go.Sim.Tryz.ty_fld38_3 Go.Sim.Tryz.ty_part38_3 Go.Sim.Tryz.ty_struct38 Go.Sim.Tryz.ty_load48 Go.Sim.Tryz.ty_zero48 Go.Sim.Tryz.ty_el48 Go.Sim.Tryz.ty_zeroE48 Go.Sim.Tryz.ty_load51 Go.Sim.Tryz.ty_zero51 Go.Sim.Tryz.ty_arr51 Go.Sim.Tryz.ty_part51_0 Go.Sim.Tryz.ty_part51_1 Go.Sim.Tryz.ty_struct51 Go.Sim.Tryz.ty_load59 Go.Sim.Tryz.ty_zero59 Go.Sim.Tryz.ty_fld59_0 Go.Sim.Tryz.ty_part59_0 Go.Sim.Tryz.ty_fld59_1 Go.Sim.Tryz.ty_part59_1 Go.Sim.Tryz.ty_struct59 Go.Sim.Tryz.ty_load60 Go.Sim.Tryz.ty_zero60 Go.Sim.Tryz.ty_el60 Go.Sim.Tryz.ty_zeroE60 Go.Sim.Tryz.ty_load62 Go.Sim.Tryz.ty_zero62 Go.Sim.Tryz.ty_fld62_0 Go.Sim.Tryz.ty_part62_0 Go.Sim.Tryz.ty_struct62 Go.Sim.Tryz.ty_load67 Go.Sim.Tryz.ty_zero67 Go.Sim.Tryz.ty_load68 Go.Sim.Tryz.ty_zero68 Go.Sim.Tryz.ty_load75 Go.Sim.Tryz.ty_zero75 Go.Sim.Tryz.ty_load76 Go.Sim.Tryz.ty_zero76 Go.Sim.Tryz.ty_und76 Go.Sim.Tryz.ty_load82 Go.Sim.Tryz.ty_zero82 Go.Sim.Tryz.ty_und82 Go.Sim.Tryz.ty_load85 Go.Sim.Tryz.ty_zero85 Go.Sim.Tryz.ty_und85 Go.Sim.Tryz.ty_load89 Go.Sim.Tryz.ty_zero89 Go.Sim.Tryz.ty_el89 Go.Sim.Tryz.ty_zeroE89 Go.Sim.Tryz.ty_load90 Go.Sim.Tryz.ty_zero90 Go.Sim.Tryz.ty_el90 Go.Sim.Tryz.ty_zeroE90 Go.Sim.Tryz.ty_load93 Go.Sim.Tryz.ty_zero93 Go.Sim.Tryz.ty_load98 Go.Sim.Tryz.ty_zero98 Go.Sim.Tryz.ty_fld98_0 Go.Sim.Tryz.ty_part98_0 Go.Sim.Tryz.ty_fld98_1 Go.Sim.Tryz.ty_part98_1 Go.Sim.Tryz.ty_fld98_2 Go.Sim.Tryz.ty_part98_2 Go.Sim.Tryz.ty_struct98 Go.Sim.Tryz.ty_load100 Go.Sim.Tryz.ty_zero100 Go.Sim.Tryz.ty_load106 Go.Sim.Tryz.ty_zero106 Go.Sim.Tryz.ty_load110 Go.Sim.Tryz.ty_zero110 Go.Sim.Tryz.ty_und110 Go.Sim.Tryz.ty_load118 Go.Sim.Tryz.ty_zero118 Go.Sim.Tryz.ty_und118 Go.Sim.Tryz.ty_load121 Go.Sim.Tryz.ty_zero121 Go.Sim.Tryz.ty_load128 Go.Sim.Tryz.ty_zero128 Go.Sim.Tryz.ty_und128 Go.Sim.Tryz.ty_load132 Go.Sim.Tryz.ty_zero132 encE_mk encE_take encE_len encV encE_one encEs_pure encE_pure

theorem May2_ok (o : Int) : Quiet Go.Proofs.Tryz.prog 55 [.int o] (.bool true) := by
  refine quiet_of (rs := #[.tmp 2]) Go.Proofs.Tryz.func55 rfl rfl rfl mixed rfl rfl fun H hs => ?_
  simp -implicitDefEqProofs only [push_cast, Nat.reduceAdd, Nat.reduceSub, Nat.reduceMul, Nat.reduceLT, Nat.reduceLeDiff, Nat.reduceEqDiff, Nat.reduceBEq, reduceCtorEq, reduceIte, Int.reduceLE, Int.reduceLT, Int.reduceNeg, Int.reduceToNat]
  (try simp -implicitDefEqProofs only [push_cast, Nat.reduceAdd, Nat.reduceSub, Nat.reduceMul, Nat.reduceLT, Nat.reduceLeDiff, Nat.reduceEqDiff, Nat.reduceBEq, reduceCtorEq, reduceIte, Int.reduceLE, Int.reduceLT, Int.reduceNeg, Int.reduceToNat])
theorem colsTo_yes (c : List Df) (q : Qy) (is : Nat → Bool) (k : Nat) (h : is k = true) : colsTo c q is (k + 1) = colsTo c q is k ++ colsFrom k (tabOf c q k).toNat := by rw [colsTo, if_pos h]
theorem colsTo_no (c : List Df) (q : Qy) (is : Nat → Bool) (k : Nat) (h : is k = false) : colsTo c q is (k + 1) = colsTo c q is k := by rw [colsTo, if_neg (by simp [h]), List.append_nil]
theorem colsFrom_zero (o : Nat) : colsFrom o 0 = [] := rfl
theorem colsFrom_len (o n : Nat) : (colsFrom o n).length = n := by rw [colsFrom, List.length_map, upto_len]
theorem colsTo_len {c : List Df} (h : catMay c = true) (q : Qy) (is : Nat → Bool) : ∀ k, (colsTo c q is k).length ≤ 4 * k
  | 0 => by rw [colsTo]; simp
  | k + 1 => by
    have hr := tab_range h (q.occ.getD k (-1))
    change 0 ≤ tabOf c q k ∧ tabOf c q k ≤ 4 at hr
    have := colsTo_len h q is k
    rw [colsTo, List.length_append]
    split
    · rw [colsFrom_len]; omega
    · rw [List.length_nil]; omega
def colsPart (c : List Df) (q : Qy) (is : Nat → Bool) (k j : Nat) : List Int := colsTo c q is k ++ colsFrom k j
theorem colsPart_zero (c : List Df) (q : Qy) (is : Nat → Bool) (k : Nat) : colsPart c q is k 0 = colsTo c q is k := by rw [colsPart, colsFrom_zero, List.append_nil]
theorem colsPart_snoc (c : List Df) (q : Qy) (is : Nat → Bool) (k j : Nat) : colsPart c q is k (j + 1) = colsPart c q is k j ++ [4 * (k : Int) + j] := by rw [colsPart, colsPart, colsFrom_snoc, List.append_assoc]
set_option maxHeartbeats 1000000 in
theorem all_ok (c : List Df) (q : Qy) (hc : catMay c = true) (hl : q.occ.length ≤ 1000000) (fn : FuncId) (bnd caps : List AV) (hb : PureL bnd) (hcp : PureL caps) (is : Nat → Bool)
    (hf : ∀ o : Nat, o < 4 → Quiet Go.Proofs.Tryz.prog fn (bnd ++ .int o :: caps) (.bool (is o))) :
    Quiet Go.Proofs.Tryz.prog 54 [.agg [.sl (c.map encD)], .agg (encQ q), .clo (.func fn) bnd caps] (.sl ((colsIn c q is).map encI)) := by
  rw [← colsTo_eq hc]
  refine quiet_of (rs := #[.tmp 6]) Go.Proofs.Tryz.func54 rfl rfl rfl mixed rfl rfl fun H hs => ?_
  simp -implicitDefEqProofs only [push_cast, Nat.reduceAdd, Nat.reduceSub, Nat.reduceMul, Nat.reduceLT, Nat.reduceLeDiff, Nat.reduceEqDiff, Nat.reduceBEq, reduceCtorEq, reduceIte, Int.reduceLE, Int.reduceLT, Int.reduceNeg, Int.reduceToNat, encQ]
  have hmin : (min (q.occ.length : Int) 4) = ((min q.occ.length 4 : Nat) : Int) := by omega
  refine loop_at hs (σ := Nat) (fun k => k ≤ min q.occ.length 4) (fun k => min q.occ.length 4 - k)
    (fun k => [(15, .int k), (14, .int (min q.occ.length 4 : Nat)), (2, .clo (.func fn) bnd caps), (3, .ptr (H.nxt + 0) 1 0 0), (4, .ptr (H.nxt + 1) 6 0 0), (7, .rsl (H.nxt + 2) 1 0 (colsTo c q is k).length)])
    (fun k => [some (.cells 1 [[.sl (c.map encD)]] 0), some (.cells 6 [encQ q] 0), some (.cells 1 (rowI (colsTo c q is k)) 0)]) [some 0, some 1, none] 0 (by omega) rfl ?_ ?_ ?_
  · (try simp -implicitDefEqProofs only [push_cast, Nat.reduceAdd, Nat.reduceSub, Nat.reduceMul, Nat.reduceLT, Nat.reduceLeDiff, Nat.reduceEqDiff, Nat.reduceBEq, reduceCtorEq, reduceIte, Int.reduceLE, Int.reduceLT, Int.reduceNeg, Int.reduceToNat, colsTo, rowI_nil, encDs_pure, encIs_pure, encEs_pure, hb, hcp, encQ])
    split <;> omega
  · (try simp -implicitDefEqProofs only [push_cast, Nat.reduceAdd, Nat.reduceSub, Nat.reduceMul, Nat.reduceLT, Nat.reduceLeDiff, Nat.reduceEqDiff, Nat.reduceBEq, reduceCtorEq, reduceIte, Int.reduceLE, Int.reduceLT, Int.reduceNeg, Int.reduceToNat, colsTo, rowI_nil, encDs_pure, encIs_pure, encEs_pure, encQ])
  intro k hk2
  by_cases hk : k < min q.occ.length 4
  · have hk' : ((k : Int) < ((min q.occ.length 4 : Nat) : Int)) = True := by simp; omega
    have hk0 : (0 ≤ (k : Int)) = True := by simp
    have hkl : k < q.occ.length := by omega
    simp -implicitDefEqProofs only [push_cast, Nat.reduceAdd, Nat.reduceSub, Nat.reduceMul, Nat.reduceLT, Nat.reduceLeDiff, Nat.reduceEqDiff, Nat.reduceBEq, reduceCtorEq, reduceIte, Int.reduceLE, Int.reduceLT, Int.reduceNeg, Int.reduceToNat, hk', hk0, encQ, encIs_get q.occ k hkl, encI]
    refine ⟨by omega, callq (hf k (by omega)) ?_⟩
    simp -implicitDefEqProofs only [push_cast, Nat.reduceAdd, Nat.reduceSub, Nat.reduceMul, Nat.reduceLT, Nat.reduceLeDiff, Nat.reduceEqDiff, Nat.reduceBEq, reduceCtorEq, reduceIte, Int.reduceLE, Int.reduceLT, Int.reduceNeg, Int.reduceToNat]
    have hocc : q.occ.getD k (-1) = q.occ[k] := by rw [List.getD_eq_getElem?_getD, List.getElem?_eq_getElem hkl]; rfl
    refine ⟨fun h => ?_, fun h => ?_⟩
    · have hsk : colsTo c q is (k + 1) = colsTo c q is k := by
        simp only [Bool.or_eq_true, Bool.not_eq_true', decide_eq_true_eq] at h
        cases his : is k
        · exact colsTo_no c q is k his
        · rw [colsTo_yes c q is k his, tabOf, hocc, tabCols, if_neg (by rw [his] at h; simp at h; omega)]
          simp [colsFrom, upto]
      rw [wrap64 (n := (k : Int) + 1) (by omega) (by omega)]
      refine next_at [some 0, some 1, some 2] (k + 1) (by omega) (by omega) rfl ?_ ?_
      · (try simp -implicitDefEqProofs only [push_cast, Nat.reduceAdd, Nat.reduceSub, Nat.reduceMul, Nat.reduceLT, Nat.reduceLeDiff, Nat.reduceEqDiff, Nat.reduceBEq, reduceCtorEq, reduceIte, Int.reduceLE, Int.reduceLT, Int.reduceNeg, Int.reduceToNat, hsk, encDs_pure, encIs_pure, encEs_pure, hb, hcp, encQ])
      · (try simp -implicitDefEqProofs only [push_cast, Nat.reduceAdd, Nat.reduceSub, Nat.reduceMul, Nat.reduceLT, Nat.reduceLeDiff, Nat.reduceEqDiff, Nat.reduceBEq, reduceCtorEq, reduceIte, Int.reduceLE, Int.reduceLT, Int.reduceNeg, Int.reduceToNat, hsk, encDs_pure, encIs_pure, encEs_pure, hb, hcp, encQ, rowI_pure, rowI_one])
    · simp only [Bool.or_eq_false_iff, Bool.not_eq_false', decide_eq_false_iff_not] at h
      obtain ⟨⟨his, ht0⟩, ht1⟩ := h
      obtain ⟨t, ht⟩ : ∃ t : Nat, q.occ[k] = t := ⟨q.occ[k].toNat, by omega⟩
      have htl : t < c.length := by omega
      have ht0' : (0 ≤ (t : Int)) = True := by simp
      have ht1' : ((t : Int) < (c.length : Int)) = True := by simp; omega
      have htab : tabOf c q k = c[t].cols := by
        rw [tabOf, hocc, ht, tabCols, if_pos (by omega), Int.toNat_natCast, List.getD_eq_getElem?_getD, List.getElem?_eq_getElem htl]
        rfl
      have htr := tab_range hc (q.occ.getD k (-1))
      change 0 ≤ tabOf c q k ∧ tabOf c q k ≤ 4 at htr
      rw [htab] at htr
      obtain ⟨m, hm⟩ : ∃ m : Nat, c[t].cols = m := ⟨c[t].cols.toNat, by omega⟩
      simp only [ht]
      simp -implicitDefEqProofs only [push_cast, Nat.reduceAdd, Nat.reduceSub, Nat.reduceMul, Nat.reduceLT, Nat.reduceLeDiff, Nat.reduceEqDiff, Nat.reduceBEq, reduceCtorEq, reduceIte, Int.reduceLE, Int.reduceLT, Int.reduceNeg, Int.reduceToNat, ht0', ht1', encDs_get c t htl, encD, hm]
      have hm4 : m ≤ 4 := by omega
      have hcl := colsTo_len hc q is k
      refine loop_at hs (σ := Nat) (fun j => j ≤ m) (fun j => m - j)
        (fun j => [(44, .int j), (43, .int m), (8, .int k), (15, .int k), (14, .int (min q.occ.length 4 : Nat)), (2, .clo (.func fn) bnd caps), (3, .ptr (H.nxt + 0) 1 0 0), (4, .ptr (H.nxt + 1) 6 0 0), (7, .rsl (H.nxt + 2) 1 0 (colsPart c q is k j).length)])
        (fun j => [some (.cells 1 [[.sl (c.map encD)]] 0), some (.cells 6 [encQ q] 0), some (.cells 1 (rowI (colsPart c q is k j)) 0)]) [some 0, some 1, some 2] 0 (by omega) rfl ?_ ?_ ?_
      · (try simp -implicitDefEqProofs only [push_cast, Nat.reduceAdd, Nat.reduceSub, Nat.reduceMul, Nat.reduceLT, Nat.reduceLeDiff, Nat.reduceEqDiff, Nat.reduceBEq, reduceCtorEq, reduceIte, Int.reduceLE, Int.reduceLT, Int.reduceNeg, Int.reduceToNat, colsPart_zero, encDs_pure, encIs_pure, encEs_pure, hb, hcp, encQ])
      · (try simp -implicitDefEqProofs only [push_cast, Nat.reduceAdd, Nat.reduceSub, Nat.reduceMul, Nat.reduceLT, Nat.reduceLeDiff, Nat.reduceEqDiff, Nat.reduceBEq, reduceCtorEq, reduceIte, Int.reduceLE, Int.reduceLT, Int.reduceNeg, Int.reduceToNat, colsPart_zero, encDs_pure, encIs_pure, encEs_pure, encQ, rowI_pure, rowI_one])
      intro j hj2
      have hjl : (colsPart c q is k j).length ≤ 20 := by rw [colsPart, List.length_append, colsFrom_len]; omega
      by_cases hj : j < m
      · have hj' : ((j : Int) < (m : Int)) = True := by simp; omega
        simp -implicitDefEqProofs only [push_cast, Nat.reduceAdd, Nat.reduceSub, Nat.reduceMul, Nat.reduceLT, Nat.reduceLeDiff, Nat.reduceEqDiff, Nat.reduceBEq, reduceCtorEq, reduceIte, Int.reduceLE, Int.reduceLT, Int.reduceNeg, Int.reduceToNat, hj', encQ]
        refine callq (Col_ok k j (by omega) (by omega) (by omega) (by omega)) ?_
        simp -implicitDefEqProofs only [push_cast, Nat.reduceAdd, Nat.reduceSub, Nat.reduceMul, Nat.reduceLT, Nat.reduceLeDiff, Nat.reduceEqDiff, Nat.reduceBEq, reduceCtorEq, reduceIte, Int.reduceLE, Int.reduceLT, Int.reduceNeg, Int.reduceToNat]
        refine ⟨by omega, ?_⟩
        rw [wrap64 (n := (j : Int) + 1) (by omega) (by omega)]
        refine next_at [some 0, some 1, some 4] (j + 1) (by omega) (by omega) rfl ?_ ?_
        · (try simp -implicitDefEqProofs only [push_cast, Nat.reduceAdd, Nat.reduceSub, Nat.reduceMul, Nat.reduceLT, Nat.reduceLeDiff, Nat.reduceEqDiff, Nat.reduceBEq, reduceCtorEq, reduceIte, Int.reduceLE, Int.reduceLT, Int.reduceNeg, Int.reduceToNat, colsPart_snoc, encDs_pure, encIs_pure, encEs_pure, hb, hcp, encQ])
        · (try simp -implicitDefEqProofs only [push_cast, Nat.reduceAdd, Nat.reduceSub, Nat.reduceMul, Nat.reduceLT, Nat.reduceLeDiff, Nat.reduceEqDiff, Nat.reduceBEq, reduceCtorEq, reduceIte, Int.reduceLE, Int.reduceLT, Int.reduceNeg, Int.reduceToNat, colsPart_snoc, encDs_pure, encIs_pure, encEs_pure, encQ, take_rowI _ _ (Nat.le_refl _), snocI, rowI_pure, rowI_one])
      · have hj' : ((j : Int) < (m : Int)) = False := by simp; omega
        obtain rfl : j = m := by omega
        have hsk : colsTo c q is (k + 1) = colsPart c q is k j := by
          rw [colsPart, colsTo_yes c q is k his, htab, hm, Int.toNat_natCast]
        simp -implicitDefEqProofs only [push_cast, Nat.reduceAdd, Nat.reduceSub, Nat.reduceMul, Nat.reduceLT, Nat.reduceLeDiff, Nat.reduceEqDiff, Nat.reduceBEq, reduceCtorEq, reduceIte, Int.reduceLE, Int.reduceLT, Int.reduceNeg, Int.reduceToNat, hj', encQ]
        rw [wrap64 (n := (k : Int) + 1) (by omega) (by omega)]
        refine next_at [some 0, some 1, some 2] (k + 1) (by omega) (by omega) rfl ?_ ?_
        · (try simp -implicitDefEqProofs only [push_cast, Nat.reduceAdd, Nat.reduceSub, Nat.reduceMul, Nat.reduceLT, Nat.reduceLeDiff, Nat.reduceEqDiff, Nat.reduceBEq, reduceCtorEq, reduceIte, Int.reduceLE, Int.reduceLT, Int.reduceNeg, Int.reduceToNat, hsk, encDs_pure, encIs_pure, encEs_pure, hb, hcp, encQ])
        · (try simp -implicitDefEqProofs only [push_cast, Nat.reduceAdd, Nat.reduceSub, Nat.reduceMul, Nat.reduceLT, Nat.reduceLeDiff, Nat.reduceEqDiff, Nat.reduceBEq, reduceCtorEq, reduceIte, Int.reduceLE, Int.reduceLT, Int.reduceNeg, Int.reduceToNat, hsk, encDs_pure, encIs_pure, encEs_pure, encQ, rowI_pure, rowI_one])
  · have hk' : ((k : Int) < ((min q.occ.length 4 : Nat) : Int)) = False := by simp; omega
    obtain rfl : k = min q.occ.length 4 := by omega
    simp -implicitDefEqProofs only [push_cast, Nat.reduceAdd, Nat.reduceSub, Nat.reduceMul, Nat.reduceLT, Nat.reduceLeDiff, Nat.reduceEqDiff, Nat.reduceBEq, reduceCtorEq, reduceIte, Int.reduceLE, Int.reduceLT, Int.reduceNeg, Int.reduceToNat, hk', encQ]
    (try simp -implicitDefEqProofs only [push_cast, Nat.reduceAdd, Nat.reduceSub, Nat.reduceMul, Nat.reduceLT, Nat.reduceLeDiff, Nat.reduceEqDiff, Nat.reduceBEq, reduceCtorEq, reduceIte, Int.reduceLE, Int.reduceLT, Int.reduceNeg, Int.reduceToNat])
    rw [take_rowI _ _ (Nat.le_refl _)]
    exact sealLL_pure _ _ _ (encIs_pure _)
end Go.Sim.Tryz
set_option linter.unusedSimpArgs false
set_option linter.unusedVariables false
set_option maxRecDepth 100000
namespace Go.Sim.Tryz
open Go Go.Sim
attribute [local push_cast] aops_cons aops_nil aopG_none aopG_some aopP_eq aopE_eq aopC_eq aopE?_eq aopC?_eq aopB_eq aopB?_eq abr anilq gopP_eq gopL_eq ahead_cons ahead_nil ahdG_none ahdG_some ahdP_eq ahdN_eq ahdC_eq ahdN?_eq ahdS_eq ahdS?_eq astoreN ahdC?_eq ghdP_eq ghdC_eq ghdC?_eq ghdZ_f ghdZ_t ahdI_eq ahdI?_eq ghdN?_eq aim_nil aim_cons isIn_nil isIn_none isIn_cons aimm aheP_eq aheA_eq aheC_eq aheC?_eq aheI?_eq aheA?_eq gheP_eq gheC_eq gheC?_eq gheZ_eq aheG_none aheG_some aheff_cons aheff_nil aapp gro_rsl gro_lit gro_esl opt_some opt_none no_eq acondT_true acondT_false acondT_lit aw_skip aw_region aw_regionD aw_seq aw_cond aw_block aw_loop aw_exit aw_label aw_ret thn_normal thn_exit thn_ret inb_normal inb_exit inb_ret qret_ret qret_normal gcond apure aeff anew acallee ares aresT aresL aresC ares1 qfin_eq ev ofV evL gokL tget tput_some tput_none initT abin aint aun aload afaddr aiaddr afield aindex aextract apick pickv_lit Bool.or_false Bool.false_or Bool.or_true Bool.true_or imp_self aslice chunk abound aconv abuild afill splice alen aminmax abuiltin anil apart Value.oneCell' astore aappend srcEs abuildSlice asets isEq plus_obj plus_nxt plus_add plus_set plus_del IntKind.bits Option.map_some Option.map_none Option.bind_some Option.bind_none Option.join_some Option.getD_some Option.getD_none Option.toList Option.isSome_some List.getElem?_toArray List.getElem?_cons_zero List.getElem?_cons_succ List.getElem?_nil List.length_cons List.length_nil List.length_map List.head?_cons List.cons_append List.nil_append List.append_nil List.map_cons List.map_nil List.getD_cons_zero List.getD_cons_succ List.replicate_succ List.replicate_zero List.set_cons_zero List.set_cons_succ List.take_succ_cons List.take_zero List.drop_succ_cons List.drop_zero List.all_cons List.all_nil Nat.zero_add if_true if_false true_and and_true false_and and_false true_implies implies_true forall_const Bool.and_true Bool.true_and Bool.false_and Bool.and_false Bool.true_beq Bool.false_beq Bool.not_not beq_tt beq_ff Int.toNat_natCast decide_true decide_false Bool.not_true Bool.not_false Bool.true_eq_false Bool.false_eq_true false_implies exists_prop eq_self bne_self_eq_false beq_self_eq_true decide_eq_true_eq decide_eq_false_iff_not Bool.not_eq_true' Bool.not_eq_false' AV.int AV.bool AV.nilS ne_eq not_false_eq_true not_true_eq_false exists_eq_left exists_eq_left' Nat.lt_irrefl core_lit grd_lit acells_lit one_lit core_agg grd_agg acells_agg one_agg core_tup grd_tup acells_tup one_tup core_sl grd_sl acells_sl one_sl core_esl grd_esl acells_esl one_esl core_rsl grd_rsl acells_rsl one_rsl core_ptr grd_ptr acells_ptr one_ptr core_iptr grd_iptr acells_iptr one_iptr core_clo grd_clo acells_clo one_clo core_mp grd_mp acells_mp one_mp core_any grd_any acells_any one_any core_gv grd_gv fit_agg fit_lit fit_sl fit_esl fit_rsl fit_ptr fit_iptr fit_clo fit_mp retq_ret retq_normal set_nxt set_set plus_obj_set plus_set_set app_get0 app_get app_set0 app_set List.append_assoc List.length_append List.length_set Nat.lt_add_one Nat.add_lt_add_iff_right Nat.lt_add_right_iff_pos Nat.add_lt_add_iff_left List.mem_cons List.not_mem_nil or_false forall_eq forall_eq_or_imp lt_s0 lt_s1 lt_s2 lt_s3 lt_s4 lt_s5 lt_s6 lt_s7 lt_s8 pickv_t pickv_f or_nand or_nand2 imp_and_l SealT SealOs sealO_cells sl_lit sl_any sl_agg sl_tup sl_sl sl_rsl slO sl_esl sl_nil sl_eslesl sl_eslnil sl_rslrsl sl_eslrsl sl_nilrsl sl_ptr sl_iptr sl_ptri slP sl_clo sl_mp sl_gv sll_nil sll_cons slll_nil slll_cons shut_eq shutO Option.join_none Fn.func.injEq and_self sealL_self sealLL_self seal_self PureL PureLL Pure Nat.le_refl Nat.zero_le AV.lit.injEq Value.int.injEq Value.bool.injEq false_or or_true true_or Int.natCast_zero Int.ofNat_zero Int.cast_ofNat_Int Int.natCast_add Int.natCast_one Option.some.injEq piL_is sop_nil sop_cons sop_none sop_some sopO_some sop_new shut_pi shutL_nil shutL_cons exQ_exit exQ_ret exQ_normal Go.Sim.Tryz.ty_load1 Go.Sim.Tryz.ty_zero1 Go.Sim.Tryz.ty_load2 Go.Sim.Tryz.ty_zero2 Go.Sim.Tryz.ty_und2 Go.Sim.Tryz.ty_load3 Go.Sim.Tryz.ty_zero3 Go.Sim.Tryz.ty_und3 Go.Sim.Tryz.ty_load4 Go.Sim.Tryz.ty_zero4 Go.Sim.Tryz.ty_und4 Go.Sim.Tryz.ty_load5 Go.Sim.Tryz.ty_zero5 Go.Sim.Tryz.ty_und5 Go.Sim.Tryz.ty_load9 Go.Sim.Tryz.ty_zero9 Go.Sim.Tryz.ty_und9 Go.Sim.Tryz.ty_load22 Go.Sim.Tryz.ty_zero22 Go.Sim.Tryz.ty_el22 Go.Sim.Tryz.ty_zeroE22 Go.Sim.Tryz.ty_load24 Go.Sim.Tryz.ty_zero24 Go.Sim.Tryz.ty_fld24_0 Go.Sim.Tryz.ty_part24_0 Go.Sim.Tryz.ty_struct24 Go.Sim.Tryz.ty_load25 Go.Sim.Tryz.ty_zero25 Go.Sim.Tryz.ty_el25 Go.Sim.Tryz.ty_zeroE25 Go.Sim.Tryz.ty_load26 Go.Sim.Tryz.ty_zero26 Go.Sim.Tryz.ty_el26 Go.Sim.Tryz.ty_zeroE26 Go.Sim.Tryz.ty_load28 Go.Sim.Tryz.ty_zero28 Go.Sim.Tryz.ty_fld28_0 Go.Sim.Tryz.ty_part28_0 Go.Sim.Tryz.ty_fld28_1 Go.Sim.Tryz.ty_part28_1 Go.Sim.Tryz.ty_fld28_2 Go.Sim.Tryz.ty_part28_2 Go.Sim.Tryz.ty_fld28_3 Go.Sim.Tryz.ty_part28_3 Go.Sim.Tryz.ty_fld28_4 Go.Sim.Tryz.ty_part28_4 Go.Sim.Tryz.ty_fld28_5 Go.Sim.Tryz.ty_part28_5 Go.Sim.Tryz.ty_struct28 Go.Sim.Tryz.ty_load36 Go.Sim.Tryz.ty_zero36 Go.Sim.Tryz.ty_fld36_0 Go.Sim.Tryz.ty_part36_0 Go.Sim.Tryz.ty_fld36_1 Go.Sim.Tryz.ty_part36_1 Go.Sim.Tryz.ty_struct36 Go.Sim.Tryz.ty_load38 Go.Sim.Tryz.ty_zero38 Go.Sim.Tryz.ty_fld38_0 Go.Sim.Tryz.ty_part38_0 Go.Sim.Tryz.ty_fld38_1 Go.Sim.Tryz.ty_part38_1 Go.Sim.Tryz.ty_fld38_2 Go.Sim.Tryz.ty_part38_2 Go.Sim.Tryz.ty_fld38_3 Go.Sim.Tryz.ty_part38_3 Go.Sim.Tryz.ty_struct38 Go.Sim.Tryz.ty_load48 Go.Sim.Tryz.ty_zero48 Go.Sim.Tryz.ty_el48 Go.Sim.Tryz.ty_zeroE48 Go.Sim.Tryz.ty_load51 Go.Sim.Tryz.ty_zero51 Go.Sim.Tryz.ty_arr51 Go.Sim.Tryz.ty_part51_0 Go.Sim.Tryz.ty_part51_1 Go.Sim.Tryz.ty_struct51 Go.Sim.Tryz.ty_load59 Go.Sim.Tryz.ty_zero59 Go.Sim.Tryz.ty_fld59_0 Go.Sim.Tryz.ty_part59_0 Go.Sim.Tryz.ty_fld59_1 Go.Sim.Tryz.ty_part59_1 Go.Sim.Tryz.ty_struct59 Go.Sim.Tryz.ty_load60 Go.Sim.Tryz.ty_zero60 Go.Sim.Tryz.ty_el60 Go.Sim.Tryz.ty_zeroE60 Go.Sim.Tryz.ty_load62 Go.Sim.Tryz.ty_zero62 Go.Sim.Tryz.ty_fld62_0 Go.Sim.Tryz.ty_part62_0 Go.Sim.Tryz.ty_struct62 Go.Sim.Tryz.ty_load67 Go.Sim.Tryz.ty_zero67 Go.Sim.Tryz.ty_load68 Go.Sim.Tryz.ty_zero68 Go.Sim.Tryz.ty_load75 Go.Sim.Tryz.ty_zero75 Go.Sim.Tryz.ty_load76 Go.Sim.Tryz.ty_zero76 Go.Sim.Tryz.ty_und76 Go.Sim.Tryz.ty_load82 Go.Sim.Tryz.ty_zero82 Go.Sim.Tryz.ty_und82 Go.Sim.Tryz.ty_load85 Go.Sim.Tryz.ty_zero85 Go.Sim.Tryz.ty_und85 Go.Sim.Tryz.ty_load89 Go.Sim.Tryz.ty_zero89 Go.Sim.Tryz.ty_el89 Go.Sim.Tryz.ty_zeroE89 Go.Sim.Tryz.ty_load90 Go.Sim.Tryz.ty_zero90 Go.Sim.Tryz.ty_el90 Go.Sim.Tryz.ty_zeroE90 Go.Sim.Tryz.ty_load93 Go.Sim.Tryz.ty_zero93 Go.Sim.Tryz.ty_load98 Go.Sim.Tryz.ty_zero98 Go.Sim.Tryz.ty_fld98_0 Go.Sim.Tryz.ty_part98_0 Go.Sim.Tryz.ty_fld98_1 Go.Sim.Tryz.ty_part98_1 Go.Sim.Tryz.ty_fld98_2 Go.Sim.Tryz.ty_part98_2 Go.Sim.Tryz.ty_struct98 Go.Sim.Tryz.ty_load100 Go.Sim.Tryz.ty_zero100 Go.Sim.Tryz.ty_load106 Go.Sim.Tryz.ty_zero106 Go.Sim.Tryz.ty_load110 Go.Sim.Tryz.ty_zero110 Go.Sim.Tryz.ty_und110 Go.Sim.Tryz.ty_load118 Go.Sim.Tryz.ty_zero118 Go.Sim.Tryz.ty_und118 Go.Sim.Tryz.ty_load121 Go.Sim.Tryz.ty_zero121 Go.Sim.Tryz.ty_load128 Go.Sim.Tryz.ty_zero128 Go.Sim.Tryz.ty_und128 Go.Sim.Tryz.ty_load132 Go.Sim.Tryz.ty_zero132 encE_mk encE_take encE_len encV encE_one encEs_pure encE_pure

theorem shift_succ (s : Int) (i : Nat) : bshr .i64 (s / 2 ^ i) 1 = s / 2 ^ (i + 1) := by
  rw [bshr_one, Int.pow_succ, Int.ediv_ediv_of_nonneg (Int.le_of_lt (Int.pow_pos (by omega)))]
theorem Bit_ok (s : Int) (o : Nat) (ho : o ≤ 1000) : Quiet Go.Proofs.Tryz.prog 25 [.int s, .int o] (.bool (bitI s o)) := by
  refine quiet_of (rs := #[.tmp 4]) Go.Proofs.Tryz.func25 rfl rfl rfl mixed rfl rfl fun H hs => ?_
  simp -implicitDefEqProofs only [push_cast, Nat.reduceAdd, Nat.reduceSub, Nat.reduceMul, Nat.reduceLT, Nat.reduceLeDiff, Nat.reduceEqDiff, Nat.reduceBEq, reduceCtorEq, reduceIte, Int.reduceLE, Int.reduceLT, Int.reduceNeg, Int.reduceToNat]
  refine loop_rule hs (σ := Nat) (fun i => i ≤ o) (fun i => o - i)
    (fun i => [(0, .int (s / 2 ^ i)), (1, .int o), (5, .int i)]) (fun _ => []) 0 (by omega) ?_ ?_ ?_
  · (try simp -implicitDefEqProofs only [push_cast, Nat.reduceAdd, Nat.reduceSub, Nat.reduceMul, Nat.reduceLT, Nat.reduceLeDiff, Nat.reduceEqDiff, Nat.reduceBEq, reduceCtorEq, reduceIte, Int.reduceLE, Int.reduceLT, Int.reduceNeg, Int.reduceToNat])
    rw [Int.pow_zero, Int.ediv_one]
  · (try simp -implicitDefEqProofs only [push_cast, Nat.reduceAdd, Nat.reduceSub, Nat.reduceMul, Nat.reduceLT, Nat.reduceLeDiff, Nat.reduceEqDiff, Nat.reduceBEq, reduceCtorEq, reduceIte, Int.reduceLE, Int.reduceLT, Int.reduceNeg, Int.reduceToNat])
  · rintro i h2
    by_cases hi : i < o
    · have hi' : ((i : Int) < (o : Int)) = True := by simp; omega
      simp -implicitDefEqProofs only [push_cast, Nat.reduceAdd, Nat.reduceSub, Nat.reduceMul, Nat.reduceLT, Nat.reduceLeDiff, Nat.reduceEqDiff, Nat.reduceBEq, reduceCtorEq, reduceIte, Int.reduceLE, Int.reduceLT, Int.reduceNeg, Int.reduceToNat, hi']
      rw [wrap64 (n := (i : Int) + 1) (by omega) (by omega), shift_succ]
      refine next_intro (i + 1) (by omega) (by omega) ?_ ?_
      · (try simp -implicitDefEqProofs only [push_cast, Nat.reduceAdd, Nat.reduceSub, Nat.reduceMul, Nat.reduceLT, Nat.reduceLeDiff, Nat.reduceEqDiff, Nat.reduceBEq, reduceCtorEq, reduceIte, Int.reduceLE, Int.reduceLT, Int.reduceNeg, Int.reduceToNat])
      · (try simp -implicitDefEqProofs only [push_cast, Nat.reduceAdd, Nat.reduceSub, Nat.reduceMul, Nat.reduceLT, Nat.reduceLeDiff, Nat.reduceEqDiff, Nat.reduceBEq, reduceCtorEq, reduceIte, Int.reduceLE, Int.reduceLT, Int.reduceNeg, Int.reduceToNat])
    · have hi' : ((i : Int) < (o : Int)) = False := by simp; omega
      obtain rfl : i = o := by omega
      simp -implicitDefEqProofs only [push_cast, Nat.reduceAdd, Nat.reduceSub, Nat.reduceMul, Nat.reduceLT, Nat.reduceLeDiff, Nat.reduceEqDiff, Nat.reduceBEq, reduceCtorEq, reduceIte, Int.reduceLE, Int.reduceLT, Int.reduceNeg, Int.reduceToNat, hi']
      (try simp -implicitDefEqProofs only [push_cast, Nat.reduceAdd, Nat.reduceSub, Nat.reduceMul, Nat.reduceLT, Nat.reduceLeDiff, Nat.reduceEqDiff, Nat.reduceBEq, reduceCtorEq, reduceIte, Int.reduceLE, Int.reduceLT, Int.reduceNeg, Int.reduceToNat])
      rw [band_one]
      rfl
end Go.Sim.Tryz
set_option linter.unusedSimpArgs false
set_option linter.unusedVariables false
namespace Go.Sim.Tryz
open Go Go.Sim
def In64 (n : Int) : Prop := -9223372036854775808 ≤ n ∧ n ≤ 9223372036854775807
end Go.Sim.Tryz
set_option linter.unusedSimpArgs false
set_option linter.unusedVariables false
set_option maxRecDepth 100000
namespace Go.Sim.Tryz
open Go Go.Sim
attribute [local push_cast] aops_cons aops_nil aopG_none aopG_some aopP_eq aopE_eq aopC_eq aopE?_eq aopC?_eq aopB_eq aopB?_eq abr anilq gopP_eq gopL_eq ahead_cons ahead_nil ahdG_none ahdG_some ahdP_eq ahdN_eq ahdC_eq ahdN?_eq ahdS_eq ahdS?_eq astoreN ahdC?_eq ghdP_eq ghdC_eq ghdC?_eq ghdZ_f ghdZ_t ahdI_eq ahdI?_eq ghdN?_eq aim_nil aim_cons isIn_nil isIn_none isIn_cons aimm aheP_eq aheA_eq aheC_eq aheC?_eq aheI?_eq aheA?_eq gheP_eq gheC_eq gheC?_eq gheZ_eq aheG_none aheG_some aheff_cons aheff_nil aapp gro_rsl gro_lit gro_esl opt_some opt_none no_eq acondT_true acondT_false acondT_lit aw_skip aw_region aw_regionD aw_seq aw_cond aw_block aw_loop aw_exit aw_label aw_ret thn_normal thn_exit thn_ret inb_normal inb_exit inb_ret qret_ret qret_normal gcond apure aeff anew acallee ares aresT aresL aresC ares1 qfin_eq ev ofV evL gokL tget tput_some tput_none initT abin aint aun aload afaddr aiaddr afield aindex aextract apick pickv_lit Bool.or_false Bool.false_or Bool.or_true Bool.true_or imp_self aslice chunk abound aconv abuild afill splice alen aminmax abuiltin anil apart Value.oneCell' astore aappend srcEs abuildSlice asets isEq plus_obj plus_nxt plus_add plus_set plus_del IntKind.bits Option.map_some Option.map_none Option.bind_some Option.bind_none Option.join_some Option.getD_some Option.getD_none Option.toList Option.isSome_some List.getElem?_toArray List.getElem?_cons_zero List.getElem?_cons_succ List.getElem?_nil List.length_cons List.length_nil List.length_map List.head?_cons List.cons_append List.nil_append List.append_nil List.map_cons List.map_nil List.getD_cons_zero List.getD_cons_succ List.replicate_succ List.replicate_zero List.set_cons_zero List.set_cons_succ List.take_succ_cons List.take_zero List.drop_succ_cons List.drop_zero List.all_cons List.all_nil Nat.zero_add if_true if_false true_and and_true false_and and_false true_implies implies_true forall_const Bool.and_true Bool.true_and Bool.false_and Bool.and_false Bool.true_beq Bool.false_beq Bool.not_not beq_tt beq_ff Int.toNat_natCast decide_true decide_false Bool.not_true Bool.not_false Bool.true_eq_false Bool.false_eq_true false_implies exists_prop eq_self bne_self_eq_false beq_self_eq_true decide_eq_true_eq decide_eq_false_iff_not Bool.not_eq_true' Bool.not_eq_false' AV.int AV.bool AV.nilS ne_eq not_false_eq_true not_true_eq_false exists_eq_left exists_eq_left' Nat.lt_irrefl core_lit grd_lit acells_lit one_lit core_agg grd_agg acells_agg one_agg core_tup grd_tup acells_tup one_tup core_sl grd_sl acells_sl one_sl core_esl grd_esl acells_esl one_esl core_rsl grd_rsl acells_rsl one_rsl core_ptr grd_ptr acells_ptr one_ptr core_iptr grd_iptr acells_iptr one_iptr core_clo grd_clo acells_clo one_clo core_mp grd_mp acells_mp one_mp core_any grd_any acells_any one_any core_gv grd_gv fit_agg fit_lit fit_sl fit_esl fit_rsl fit_ptr fit_iptr fit_clo fit_mp retq_ret retq_normal set_nxt set_set plus_obj_set plus_set_set app_get0 app_get app_set0 app_set List.append_assoc List.length_append List.length_set Nat.lt_add_one Nat.add_lt_add_iff_right Nat.lt_add_right_iff_pos Nat.add_lt_add_iff_left List.mem_cons List.not_mem_nil or_false forall_eq forall_eq_or_imp lt_s0 lt_s1 lt_s2 lt_s3 lt_s4 lt_s5 lt_s6 lt_s7 lt_s8 pickv_t pickv_f or_nand or_nand2 imp_and_l SealT SealOs sealO_cells sl_lit sl_any sl_agg sl_tup sl_sl sl_rsl slO sl_esl sl_nil sl_eslesl sl_eslnil sl_rslrsl sl_eslrsl sl_nilrsl sl_ptr sl_iptr sl_ptri slP sl_clo sl_mp sl_gv sll_nil sll_cons slll_nil slll_cons shut_eq shutO Option.join_none Fn.func.injEq and_self sealL_self sealLL_self seal_self PureL PureLL Pure Nat.le_refl Nat.zero_le AV.lit.injEq Value.int.injEq Value.bool.injEq false_or or_true true_or Int.natCast_zero Int.ofNat_zero Int.cast_ofNat_Int Int.natCast_add Int.natCast_one Option.some.injEq piL_is sop_nil sop_cons sop_none sop_some sopO_some sop_new shut_pi shutL_nil shutL_cons exQ_exit exQ_ret exQ_normal Go.Sim.Tryz.ty_load1 Go.Sim.Tryz.ty_zero1 Go.Sim.Tryz.ty_load2 Go.Sim.Tryz.ty_zero2 Go.Sim.Tryz.ty_und2 Go.Sim.Tryz.ty_load3 Go.Sim.Tryz.ty_zero3 Go.Sim.Tryz.ty_und3 Go.Sim.Tryz.ty_load4 Go.Sim.Tryz.ty_zero4 Go.Sim.Tryz.ty_und4 Go.Sim.Tryz.ty_load5 Go.Sim.Tryz.ty_zero5 Go.Sim.Tryz.ty_und5 Go.Sim.Tryz.ty_load9 Go.Sim.Tryz.ty_zero9 Go.Sim.Tryz.ty_und9 Go.Sim.Tryz.ty_load22 Go.Sim.Tryz.ty_zero22 Go.Sim.Tryz.ty_el22 Go.Sim.Tryz.ty_zeroE22 Go.Sim.Tryz.ty_load24 Go.Sim.Tryz.ty_zero24 Go.Sim.Tryz.ty_fld24_0 Go.Sim.Tryz.ty_part24_0 Go.Sim.Tryz.ty_struct24 Go.Sim.Tryz.ty_load25 Go.Sim.Tryz.ty_zero25 Go.Sim.Tryz.ty_el25 Go.Sim.Tryz.ty_zeroE25 Go.Sim.Tryz.ty_load26 Go.Sim.Tryz.ty_zero26 Go.Sim.Tryz.ty_el26 Go.Sim.Tryz.ty_zeroE26 Go.Sim.Tryz.ty_load28 Go.Sim.Tryz.ty_zero28 Go.Sim.Tryz.ty_fld28_0 Go.Sim.Tryz.ty_part28_0 Go.Sim.Tryz.ty_fld28_1 Go.Sim.Tryz.ty_part28_1 Go.Sim.Tryz.ty_fld28_2 Go.Sim.Tryz.ty_part28_2 Go.Sim.Tryz.ty_fld28_3 Go.Sim.Tryz.ty_part28_3 Go.Sim.Tryz.ty_fld28_4 Go.Sim.Tryz.ty_part28_4 Go.Sim.Tryz.ty_fld28_5 Go.Sim.Tryz.ty_part28_5 Go.Sim.Tryz.ty_struct28 Go.Sim.Tryz.ty_load36 Go.Sim.Tryz.ty_zero36 Go.Sim.Tryz.ty_fld36_0 Go.Sim.Tryz.ty_part36_0 Go.Sim.Tryz.ty_fld36_1 Go.Sim.Tryz.ty_part36_1 Go.Sim.Tryz.ty_struct36 Go.Sim.Tryz.ty_load38 Go.Sim.Tryz.ty_zero38 Go.Sim.Tryz.ty_fld38_0 Go.Sim.Tryz.ty_part38_0 Go.Sim.Tryz.ty_fld38_1 Go.Sim.Tryz.ty_part38_1 Go.Sim.Tryz.ty_fld38_2 Go.Sim.Tryz.ty_part38_2 Go.Sim.Tryz.ty_fld38_3 Go.Sim.Tryz.ty_part38_3 Go.Sim.Tryz.ty_struct38 Go.Sim.Tryz.ty_load48 Go.Sim.Tryz.ty_zero48 Go.Sim.Tryz.ty_el48 Go.Sim.Tryz.ty_zeroE48 Go.Sim.Tryz.ty_load51 Go.Sim.Tryz.ty_zero51 Go.Sim.Tryz.ty_arr51 Go.Sim.Tryz.ty_part51_0 Go.Sim.Tryz.ty_part51_1 Go.Sim.Tryz.ty_struct51 Go.Sim.Tryz.ty_load59 Go.Sim.Tryz.ty_zero59 Go.Sim.Tryz.ty_fld59_0 Go.Sim.Tryz.ty_part59_0 Go.Sim.Tryz.ty_fld59_1 Go.Sim.Tryz.ty_part59_1 Go.Sim.Tryz.ty_struct59 Go.Sim.Tryz.ty_load60 Go.Sim.Tryz.ty_zero60 Go.Sim.Tryz.ty_el60 Go.Sim.Tryz.ty_zeroE60 Go.Sim.Tryz.ty_load62 Go.Sim.Tryz.ty_zero62 Go.Sim.Tryz.ty_fld62_0 Go.Sim.Tryz.ty_part62_0 Go.Sim.Tryz.ty_struct62 Go.Sim.Tryz.ty_load67 Go.Sim.Tryz.ty_zero67 Go.Sim.Tryz.ty_load68 Go.Sim.Tryz.ty_zero68 Go.Sim.Tryz.ty_load75 Go.Sim.Tryz.ty_zero75 Go.Sim.Tryz.ty_load76 Go.Sim.Tryz.ty_zero76 Go.Sim.Tryz.ty_und76 Go.Sim.Tryz.ty_load82 Go.Sim.Tryz.ty_zero82 Go.Sim.Tryz.ty_und82 Go.Sim.Tryz.ty_load85 Go.Sim.Tryz.ty_zero85 Go.Sim.Tryz.ty_und85 Go.Sim.Tryz.ty_load89 Go.Sim.Tryz.ty_zero89 Go.Sim.Tryz.ty_el89 Go.Sim.Tryz.ty_zeroE89 Go.Sim.Tryz.ty_load90 Go.Sim.Tryz.ty_zero90 Go.Sim.Tryz.ty_el90 Go.Sim.Tryz.ty_zeroE90 Go.Sim.Tryz.ty_load93 Go.Sim.Tryz.ty_zero93 Go.Sim.Tryz.ty_load98 Go.Sim.Tryz.ty_zero98 Go.Sim.Tryz.ty_fld98_0 Go.Sim.Tryz.ty_part98_0 Go.Sim.Tryz.ty_fld98_1 Go.Sim.Tryz.ty_part98_1 Go.Sim.Tryz.ty_fld98_2 Go.Sim.Tryz.ty_part98_2 Go.Sim.Tryz.ty_struct98 Go.Sim.Tryz.ty_load100 Go.Sim.Tryz.ty_zero100 Go.Sim.Tryz.ty_load106 Go.Sim.Tryz.ty_zero106 Go.Sim.Tryz.ty_load110 Go.Sim.Tryz.ty_zero110 Go.Sim.Tryz.ty_und110 Go.Sim.Tryz.ty_load118 Go.Sim.Tryz.ty_zero118 Go.Sim.Tryz.ty_und118 Go.Sim.Tryz.ty_load121 Go.Sim.Tryz.ty_zero121 Go.Sim.Tryz.ty_load128 Go.Sim.Tryz.ty_zero128 Go.Sim.Tryz.ty_und128 Go.Sim.Tryz.ty_load132 Go.Sim.Tryz.ty_zero132 encE_mk encE_take encE_len encV encE_one encEs_pure encE_pure

theorem plus_obj' (H : AH) (l : List (Option AObj)) (j : Nat) : (H.plus l).obj j = if j < H.nxt then H.obj j else (l[j - H.nxt]?).join := rfl
theorem plus_plus (H : AH) (l m : List (Option AObj)) : (H.plus l).plus m = H.plus (l ++ m) := by
  refine ah_ext (fun j => ?_) (by simp only [plus_nxt, List.length_append]; omega)
  rw [plus_obj' (H.plus l), plus_obj' H, plus_obj' H, plus_nxt]
  by_cases h1 : j < H.nxt
  · rw [if_pos (by omega), if_pos h1, if_pos h1]
  · rw [if_neg h1, if_neg h1]
    by_cases h2 : j < H.nxt + l.length
    · rw [if_pos h2, List.getElem?_append_left (by omega)]
    · rw [if_neg h2, List.getElem?_append_right (by omega)]
      congr 2
      omega
theorem clone_ok (zs : List Int) (hz : zs.length ≤ 1000000) (H : AH) : ACalls Go.Proofs.Tryz.prog 87 [.sl (rowI zs)] H
    (fun r H' => (r = .rsl (H.nxt + 1) 1 0 zs.length ∧ H' = H.plus [none, some (.cells 1 (rowI zs) 0)]) ∨ (zs = [] ∧ r = .nilS ∧ H' = H.plus [])) := by
  refine acalls_sc (rs := #[.tmp 2]) Go.Proofs.Tryz.func87 rfl rfl rfl mixed rfl (Nat.le_of_ble_eq_true rfl) fun hs _ => ?_
  simp -implicitDefEqProofs only [push_cast, Nat.reduceAdd, Nat.reduceSub, Nat.reduceMul, Nat.reduceLT, Nat.reduceLeDiff, Nat.reduceEqDiff, Nat.reduceBEq, reduceCtorEq, reduceIte, Int.reduceLE, Int.reduceLT, Int.reduceNeg, Int.reduceToNat]
  intro b hb
  simp -implicitDefEqProofs only [push_cast, Nat.reduceAdd, Nat.reduceSub, Nat.reduceMul, Nat.reduceLT, Nat.reduceLeDiff, Nat.reduceEqDiff, Nat.reduceBEq, reduceCtorEq, reduceIte, Int.reduceLE, Int.reduceLT, Int.reduceNeg, Int.reduceToNat]
  refine ⟨fun h => retk trivial (.inr ⟨?_, rfl, rfl⟩), fun h => ⟨⟨of_eq_true (rowI_one zs), fun e he => ?_, by omega⟩, retk trivial (.inl ⟨rfl, rfl⟩)⟩⟩
  · cases zs with
    | nil => rfl
    | cons z zs => rw [h] at hb; exact absurd (hb rfl) (by decide)
  · simp only [rowI, List.mem_map] at he
    obtain ⟨x, _, rfl⟩ := he
    rfl
theorem once_ok (zs : List Int) (hz : zs.length ≤ 1000000) : Quiet Go.Proofs.Tryz.prog 57 [.sl (rowI zs)] (.bool (decide ((uniq zs).length = zs.length))) := by
  refine quiet_of (rs := #[.tmp 2]) Go.Proofs.Tryz.func57 rfl rfl rfl mixed rfl rfl fun H hs => ?_
  simp -implicitDefEqProofs only [push_cast, Nat.reduceAdd, Nat.reduceSub, Nat.reduceMul, Nat.reduceLT, Nat.reduceLeDiff, Nat.reduceEqDiff, Nat.reduceBEq, reduceCtorEq, reduceIte, Int.reduceLE, Int.reduceLT, Int.reduceNeg, Int.reduceToNat]
  refine (clone_ok zs hz _).mono ?_
  rintro r H' (⟨rfl, rfl⟩ | ⟨rfl, rfl, rfl⟩)
  · simp -implicitDefEqProofs only [push_cast, Nat.reduceAdd, Nat.reduceSub, Nat.reduceMul, Nat.reduceLT, Nat.reduceLeDiff, Nat.reduceEqDiff, Nat.reduceBEq, reduceCtorEq, reduceIte, Int.reduceLE, Int.reduceLT, Int.reduceNeg, Int.reduceToNat, plus_plus, Nat.add_zero]
    have hrow : (H.plus [none, some (.cells 1 (rowI zs) 0)]).obj (H.nxt + 1) = some (.cells 1 (rowI zs) 0) := by rw [plus_obj]; rfl
    refine (sort_ok (i := H.nxt + 1) (zs := zs) (by omega) hrow).mono ?_
    rintro r H3 ⟨rfl, rfl⟩
    simp -implicitDefEqProofs only [push_cast, Nat.reduceAdd, Nat.reduceSub, Nat.reduceMul, Nat.reduceLT, Nat.reduceLeDiff, Nat.reduceEqDiff, Nat.reduceBEq, reduceCtorEq, reduceIte, Int.reduceLE, Int.reduceLT, Int.reduceNeg, Int.reduceToNat]
    have hcc := compact_ok (i := H.nxt + 1) (zs := zs.mergeSort fun x y => decide (x ≤ y)) (H := H.plus [none, some (.cells 1 (rowI (zs.mergeSort fun x y => decide (x ≤ y))) 0)]) (by rw [List.length_mergeSort]; omega) (by rw [plus_obj]; rfl)
    rw [List.length_mergeSort] at hcc
    refine hcc.mono ?_
    rintro r H3 ⟨rfl, rfl⟩
    simp -implicitDefEqProofs only [push_cast, Nat.reduceAdd, Nat.reduceSub, Nat.reduceMul, Nat.reduceLT, Nat.reduceLeDiff, Nat.reduceEqDiff, Nat.reduceBEq, reduceCtorEq, reduceIte, Int.reduceLE, Int.reduceLT, Int.reduceNeg, Int.reduceToNat]
    rw [decide_eq_decide, uniq]
    omega
  · simp -implicitDefEqProofs only [push_cast, Nat.reduceAdd, Nat.reduceSub, Nat.reduceMul, Nat.reduceLT, Nat.reduceLeDiff, Nat.reduceEqDiff, Nat.reduceBEq, reduceCtorEq, reduceIte, Int.reduceLE, Int.reduceLT, Int.reduceNeg, Int.reduceToNat, plus_plus, List.append_nil]
    refine (sortN_ok).mono ?_
    rintro r H3 ⟨rfl, rfl⟩
    simp -implicitDefEqProofs only [push_cast, Nat.reduceAdd, Nat.reduceSub, Nat.reduceMul, Nat.reduceLT, Nat.reduceLeDiff, Nat.reduceEqDiff, Nat.reduceBEq, reduceCtorEq, reduceIte, Int.reduceLE, Int.reduceLT, Int.reduceNeg, Int.reduceToNat]
    refine (compactN_ok).mono ?_
    rintro r H3 ⟨rfl, rfl⟩
    simp -implicitDefEqProofs only [push_cast, Nat.reduceAdd, Nat.reduceSub, Nat.reduceMul, Nat.reduceLT, Nat.reduceLeDiff, Nat.reduceEqDiff, Nat.reduceBEq, reduceCtorEq, reduceIte, Int.reduceLE, Int.reduceLT, Int.reduceNeg, Int.reduceToNat]
    simp [uniq, Lib.compact, Lib.compactUpTo]
end Go.Sim.Tryz
set_option linter.unusedSimpArgs false
set_option linter.unusedVariables false
set_option maxRecDepth 100000
namespace Go.Sim.Tryz
open Go Go.Sim
attribute [local push_cast] aops_cons aops_nil aopG_none aopG_some aopP_eq aopE_eq aopC_eq aopE?_eq aopC?_eq aopB_eq aopB?_eq abr anilq gopP_eq gopL_eq ahead_cons ahead_nil ahdG_none ahdG_some ahdP_eq ahdN_eq ahdC_eq ahdN?_eq ahdS_eq ahdS?_eq astoreN ahdC?_eq ghdP_eq ghdC_eq ghdC?_eq ghdZ_f ghdZ_t ahdI_eq ahdI?_eq ghdN?_eq aim_nil aim_cons isIn_nil isIn_none isIn_cons aimm aheP_eq aheA_eq aheC_eq aheC?_eq aheI?_eq aheA?_eq gheP_eq gheC_eq gheC?_eq gheZ_eq aheG_none aheG_some aheff_cons aheff_nil aapp gro_rsl gro_lit gro_esl opt_some opt_none no_eq acondT_true acondT_false acondT_lit aw_skip aw_region aw_regionD aw_seq aw_cond aw_block aw_loop aw_exit aw_label aw_ret thn_normal thn_exit thn_ret inb_normal inb_exit inb_ret qret_ret qret_normal gcond apure aeff anew acallee ares aresT aresL aresC ares1 qfin_eq ev ofV evL gokL tget tput_some tput_none initT abin aint aun aload afaddr aiaddr afield aindex aextract apick pickv_lit Bool.or_false Bool.false_or Bool.or_true Bool.true_or imp_self aslice chunk abound aconv abuild afill splice alen aminmax abuiltin anil apart Value.oneCell' astore aappend srcEs abuildSlice asets isEq plus_obj plus_nxt plus_add plus_set plus_del IntKind.bits Option.map_some Option.map_none Option.bind_some Option.bind_none Option.join_some Option.getD_some Option.getD_none Option.toList Option.isSome_some List.getElem?_toArray List.getElem?_cons_zero List.getElem?_cons_succ List.getElem?_nil List.length_cons List.length_nil List.length_map List.head?_cons List.cons_append List.nil_append List.append_nil List.map_cons List.map_nil List.getD_cons_zero List.getD_cons_succ List.replicate_succ List.replicate_zero List.set_cons_zero List.set_cons_succ List.take_succ_cons List.take_zero List.drop_succ_cons List.drop_zero List.all_cons List.all_nil Nat.zero_add if_true if_false true_and and_true false_and and_false true_implies implies_true forall_const Bool.and_true Bool.true_and Bool.false_and Bool.and_false Bool.true_beq Bool.false_beq Bool.not_not beq_tt beq_ff Int.toNat_natCast decide_true decide_false Bool.not_true Bool.not_false Bool.true_eq_false Bool.false_eq_true false_implies exists_prop eq_self bne_self_eq_false beq_self_eq_true decide_eq_true_eq decide_eq_false_iff_not Bool.not_eq_true' Bool.not_eq_false' AV.int AV.bool AV.nilS ne_eq not_false_eq_true not_true_eq_false exists_eq_left exists_eq_left' Nat.lt_irrefl core_lit grd_lit acells_lit one_lit core_agg grd_agg acells_agg one_agg core_tup grd_tup acells_tup one_tup core_sl grd_sl acells_sl one_sl core_esl grd_esl acells_esl one_esl core_rsl grd_rsl acells_rsl one_rsl core_ptr grd_ptr acells_ptr one_ptr core_iptr grd_iptr acells_iptr one_iptr core_clo grd_clo acells_clo one_clo core_mp grd_mp acells_mp one_mp core_any grd_any acells_any one_any core_gv grd_gv fit_agg fit_lit fit_sl fit_esl fit_rsl fit_ptr fit_iptr fit_clo fit_mp retq_ret retq_normal set_nxt set_set plus_obj_set plus_set_set app_get0 app_get app_set0 app_set List.append_assoc List.length_append List.length_set Nat.lt_add_one Nat.add_lt_add_iff_right Nat.lt_add_right_iff_pos Nat.add_lt_add_iff_left List.mem_cons List.not_mem_nil or_false forall_eq forall_eq_or_imp lt_s0 lt_s1 lt_s2 lt_s3 lt_s4 lt_s5 lt_s6 lt_s7 lt_s8 pickv_t pickv_f or_nand or_nand2 imp_and_l SealT SealOs sealO_cells sl_lit sl_any sl_agg sl_tup sl_sl sl_rsl slO sl_esl sl_nil sl_eslesl sl_eslnil sl_rslrsl sl_eslrsl sl_nilrsl sl_ptr sl_iptr sl_ptri slP sl_clo sl_mp sl_gv sll_nil sll_cons slll_nil slll_cons shut_eq shutO Option.join_none Fn.func.injEq and_self sealL_self sealLL_self seal_self PureL PureLL Pure Nat.le_refl Nat.zero_le AV.lit.injEq Value.int.injEq Value.bool.injEq false_or or_true true_or Int.natCast_zero Int.ofNat_zero Int.cast_ofNat_Int Int.natCast_add Int.natCast_one Option.some.injEq piL_is sop_nil sop_cons sop_none sop_some sopO_some sop_new shut_pi shutL_nil shutL_cons exQ_exit exQ_ret exQ_normal Go.Sim.Tryz.ty_load1 Go.Sim.Tryz.ty_zero1 Go.Sim.Tryz.ty_load2 Go.Sim.Tryz.ty_zero2 Go.Sim.Tryz.ty_und2 Go.Sim.Tryz.ty_load3 Go.Sim.Tryz.ty_zero3 Go.Sim.Tryz.ty_und3 Go.Sim.Tryz.ty_load4 Go.Sim.Tryz.ty_zero4 Go.Sim.Tryz.ty_und4 Go.Sim.Tryz.ty_load5 Go.Sim.Tryz.ty_zero5 Go.Sim.Tryz.ty_und5 Go.Sim.Tryz.ty_load9 Go.Sim.Tryz.ty_zero9 Go.Sim.Tryz.ty_und9 Go.Sim.Tryz.ty_load22 Go.Sim.Tryz.ty_zero22 Go.Sim.Tryz.ty_el22 Go.Sim.Tryz.ty_zeroE22 Go.Sim.Tryz.ty_load24 Go.Sim.Tryz.ty_zero24 Go.Sim.Tryz.ty_fld24_0 Go.Sim.Tryz.ty_part24_0 Go.Sim.Tryz.ty_struct24 Go.Sim.Tryz.ty_load25 Go.Sim.Tryz.ty_zero25 Go.Sim.Tryz.ty_el25 Go.Sim.Tryz.ty_zeroE25 Go.Sim.Tryz.ty_load26 Go.Sim.Tryz.ty_zero26 Go.Sim.Tryz.ty_el26 Go.Sim.Tryz.ty_zeroE26 Go.Sim.Tryz.ty_load28 Go.Sim.Tryz.ty_zero28 Go.Sim.Tryz.ty_fld28_0 Go.Sim.Tryz.ty_part28_0 Go.Sim.Tryz.ty_fld28_1 Go.Sim.Tryz.ty_part28_1 Go.Sim.Tryz.ty_fld28_2 Go.Sim.Tryz.ty_part28_2 Go.Sim.Tryz.ty_fld28_3 Go.Sim.Tryz.ty_part28_3 Go.Sim.Tryz.ty_fld28_4 Go.Sim.Tryz.ty_part28_4 Go.Sim.Tryz.ty_fld28_5 Go.Sim.Tryz.ty_part28_5 Go.Sim.Tryz.ty_struct28 Go.Sim.Tryz.ty_load36 Go.Sim.Tryz.ty_zero36 Go.Sim.Tryz.ty_fld36_0 Go.Sim.Tryz.ty_part36_0 Go.Sim.Tryz.ty_fld36_1 Go.Sim.Tryz.ty_part36_1 Go.Sim.Tryz.ty_struct36 Go.Sim.Tryz.ty_load38 Go.Sim.Tryz.ty_zero38 Go.Sim.Tryz.ty_fld38_0 Go.Sim.Tryz.ty_part38_0 Go.Sim.Tryz.ty_fld38_1 Go.Sim.Tryz.ty_part38_1 Go.Sim.Tryz.ty_fld38_2 Go.Sim.Tryz.ty_part38_2 Go.Sim.Tryz.ty_fld38_3 Go.Sim.Tryz.ty_part38_3 Go.Sim.Tryz.ty_struct38 Go.Sim.Tryz.ty_load48 Go.Sim.Tryz.ty_zero48 Go.Sim.Tryz.ty_el48 Go.Sim.Tryz.ty_zeroE48 Go.Sim.Tryz.ty_load51 Go.Sim.Tryz.ty_zero51 Go.Sim.Tryz.ty_arr51 Go.Sim.Tryz.ty_part51_0 Go.Sim.Tryz.ty_part51_1 Go.Sim.Tryz.ty_struct51 Go.Sim.Tryz.ty_load59 Go.Sim.Tryz.ty_zero59 Go.Sim.Tryz.ty_fld59_0 Go.Sim.Tryz.ty_part59_0 Go.Sim.Tryz.ty_fld59_1 Go.Sim.Tryz.ty_part59_1 Go.Sim.Tryz.ty_struct59 Go.Sim.Tryz.ty_load60 Go.Sim.Tryz.ty_zero60 Go.Sim.Tryz.ty_el60 Go.Sim.Tryz.ty_zeroE60 Go.Sim.Tryz.ty_load62 Go.Sim.Tryz.ty_zero62 Go.Sim.Tryz.ty_fld62_0 Go.Sim.Tryz.ty_part62_0 Go.Sim.Tryz.ty_struct62 Go.Sim.Tryz.ty_load67 Go.Sim.Tryz.ty_zero67 Go.Sim.Tryz.ty_load68 Go.Sim.Tryz.ty_zero68 Go.Sim.Tryz.ty_load75 Go.Sim.Tryz.ty_zero75 Go.Sim.Tryz.ty_load76 Go.Sim.Tryz.ty_zero76 Go.Sim.Tryz.ty_und76 Go.Sim.Tryz.ty_load82 Go.Sim.Tryz.ty_zero82 Go.Sim.Tryz.ty_und82 Go.Sim.Tryz.ty_load85 Go.Sim.Tryz.ty_zero85 Go.Sim.Tryz.ty_und85 Go.Sim.Tryz.ty_load89 Go.Sim.Tryz.ty_zero89 Go.Sim.Tryz.ty_el89 Go.Sim.Tryz.ty_zeroE89 Go.Sim.Tryz.ty_load90 Go.Sim.Tryz.ty_zero90 Go.Sim.Tryz.ty_el90 Go.Sim.Tryz.ty_zeroE90 Go.Sim.Tryz.ty_load93 Go.Sim.Tryz.ty_zero93 Go.Sim.Tryz.ty_load98 Go.Sim.Tryz.ty_zero98 Go.Sim.Tryz.ty_fld98_0 Go.Sim.Tryz.ty_part98_0 Go.Sim.Tryz.ty_fld98_1 Go.Sim.Tryz.ty_part98_1 Go.Sim.Tryz.ty_fld98_2 Go.Sim.Tryz.ty_part98_2 Go.Sim.Tryz.ty_struct98 Go.Sim.Tryz.ty_load100 Go.Sim.Tryz.ty_zero100 Go.Sim.Tryz.ty_load106 Go.Sim.Tryz.ty_zero106 Go.Sim.Tryz.ty_load110 Go.Sim.Tryz.ty_zero110 Go.Sim.Tryz.ty_und110 Go.Sim.Tryz.ty_load118 Go.Sim.Tryz.ty_zero118 Go.Sim.Tryz.ty_und118 Go.Sim.Tryz.ty_load121 Go.Sim.Tryz.ty_zero121 Go.Sim.Tryz.ty_load128 Go.Sim.Tryz.ty_zero128 Go.Sim.Tryz.ty_und128 Go.Sim.Tryz.ty_load132 Go.Sim.Tryz.ty_zero132 encE_mk encE_take encE_len encV encE_one encEs_pure encE_pure

theorem MayQ1_ok (c : List Df) (t : Int) : Quiet Go.Proofs.Tryz.prog 51 [.int t, .iptr [.sl (c.map encD)]] (.bool (!tabOk c t)) := by
  refine quiet_of (rs := #[.tmp 3]) Go.Proofs.Tryz.func51 rfl rfl rfl mixed rfl rfl fun H hs => ?_
  simp -implicitDefEqProofs only [push_cast, Nat.reduceAdd, Nat.reduceSub, Nat.reduceMul, Nat.reduceLT, Nat.reduceLeDiff, Nat.reduceEqDiff, Nat.reduceBEq, reduceCtorEq, reduceIte, Int.reduceLE, Int.reduceLT, Int.reduceNeg, Int.reduceToNat]
  (try simp -implicitDefEqProofs only [push_cast, Nat.reduceAdd, Nat.reduceSub, Nat.reduceMul, Nat.reduceLT, Nat.reduceLeDiff, Nat.reduceEqDiff, Nat.reduceBEq, reduceCtorEq, reduceIte, Int.reduceLE, Int.reduceLT, Int.reduceNeg, Int.reduceToNat])
  unfold tabOk
  rw [Bool.not_and, ← decide_not, ← decide_not]
  congr 1 <;> rw [decide_eq_decide] <;> omega
theorem MayQ_ok (c : List Df) (hcl : c.length ≤ 1000000) (q : Qy) (hq : q.Ok) : Quiet Go.Proofs.Tryz.prog 16 [.agg [.sl (c.map encD)], .agg (encQ q)] (.bool (q.may c)) := by
  refine quiet_of (rs := #[.tmp 4]) Go.Proofs.Tryz.func16 rfl rfl rfl mixed rfl rfl fun H hs => ?_
  simp -implicitDefEqProofs only [push_cast, Nat.reduceAdd, Nat.reduceSub, Nat.reduceMul, Nat.reduceLT, Nat.reduceLeDiff, Nat.reduceEqDiff, Nat.reduceBEq, reduceCtorEq, reduceIte, Int.reduceLE, Int.reduceLT, Int.reduceNeg, Int.reduceToNat, encQ]
  refine fzk H 0 1 [.agg [.sl (c.map encD)]] (by rfl) (by omega) (by simp) ?_ ?_
  · (try simp -implicitDefEqProofs only [push_cast, Nat.reduceAdd, Nat.reduceSub, Nat.reduceMul, Nat.reduceLT, Nat.reduceLeDiff, Nat.reduceEqDiff, Nat.reduceBEq, reduceCtorEq, reduceIte, Int.reduceLE, Int.reduceLT, Int.reduceNeg, Int.reduceToNat, encDs_pure])
  refine callq (dataMay_ok c hcl) ?_
  simp -implicitDefEqProofs only [push_cast, Nat.reduceAdd, Nat.reduceSub, Nat.reduceMul, Nat.reduceLT, Nat.reduceLeDiff, Nat.reduceEqDiff, Nat.reduceBEq, reduceCtorEq, reduceIte, Int.reduceLE, Int.reduceLT, Int.reduceNeg, Int.reduceToNat, encQ]
  refine gcalla [.sl (q.occ.map encI), .clo (.func 51) [] [.iptr [.sl (c.map encD)]]] (.bool (q.occ.any fun t => !tabOk c t)) (fun h => by simpa using h) (fun h => containsFuncI_ok q.occ (by have := hq.2.2.1; omega) _ [.iptr [.sl (c.map encD)]] (by simp [PureL, Pure, encDs_pure]) (fun t => !tabOk c t) fun t _ => MayQ1_ok c t) ?_ ?_
  · (try simp -implicitDefEqProofs only [push_cast, Nat.reduceAdd, Nat.reduceSub, Nat.reduceMul, Nat.reduceLT, Nat.reduceLeDiff, Nat.reduceEqDiff, Nat.reduceBEq, reduceCtorEq, reduceIte, Int.reduceLE, Int.reduceLT, Int.reduceNeg, Int.reduceToNat, encDs_pure, encIs_pure])
  simp -implicitDefEqProofs only [push_cast, Nat.reduceAdd, Nat.reduceSub, Nat.reduceMul, Nat.reduceLT, Nat.reduceLeDiff, Nat.reduceEqDiff, Nat.reduceBEq, reduceCtorEq, reduceIte, Int.reduceLE, Int.reduceLT, Int.reduceNeg, Int.reduceToNat, encQ]
  refine ⟨fun h => ?_, fun h => ?_⟩
  · have : q.may c = false := by
      simp only [Bool.or_eq_true, Bool.not_eq_true', decide_eq_true_eq, List.any_eq_true] at h
      unfold Qy.may
      rcases h with (((h | h) | h) | ⟨x, hx, h⟩) | h
      · simp [h]
      · simp [decide_eq_false (show ¬ 1 ≤ q.occ.length by omega)]
      · simp [decide_eq_false (show ¬ q.occ.length ≤ 4 by omega)]
      · have : q.occ.all (tabOk c) = false := by
          rw [List.all_eq_false]; exact ⟨x, hx, by simp [h]⟩
        simp [this]
      · simp [decide_eq_false (show ¬ q.p.length ≤ 6 by omega)]
    exact this.symm
  have hh : catMay c = true ∧ 1 ≤ q.occ.length ∧ q.occ.length ≤ 4 ∧ q.occ.all (tabOk c) = true ∧ q.p.length ≤ 6 := by
    simp only [Bool.or_eq_false_iff, Bool.not_eq_false', decide_eq_false_iff_not] at h
    obtain ⟨⟨⟨⟨h1, h2⟩, h3⟩, h4⟩, h5⟩ := h
    refine ⟨h1, by omega, by omega, ?_, by omega⟩
    rw [List.all_eq_true]
    intro x hx
    have := List.any_eq_false.1 h4 x hx
    simpa using this
  obtain ⟨hc, ho1, ho4, hot, hp6⟩ := hh
  have hall := all_ok c q hc hq.2.2.1 55 [] [] trivial trivial (fun _ => true) fun o _ => May2_ok o
  have hcols : (colsIn c q fun _ => true).length ≤ 16 := Nat.le_trans (List.length_filter_le _ _) (by rw [upto_len]; omega)
  have hmay : q.may c = (q.p.all (exIn (colsIn c q fun _ => true)) && endMay q (colsIn c q fun _ => true)) := by
    simp only [Qy.may, hc, hot, decide_eq_true ho1, decide_eq_true ho4, decide_eq_true hp6, Bool.true_and]
  rw [hmay]
  generalize (colsIn c q fun _ => true) = cols at hall hcols ⊢
  simp only [encQ] at hall
  refine callq hall ?_
  simp -implicitDefEqProofs only [push_cast, Nat.reduceAdd, Nat.reduceSub, Nat.reduceMul, Nat.reduceLT, Nat.reduceLeDiff, Nat.reduceEqDiff, Nat.reduceBEq, reduceCtorEq, reduceIte, Int.reduceLE, Int.reduceLT, Int.reduceNeg, Int.reduceToNat, encQ]
  refine loop_at hs (σ := Nat) (fun i => i ≤ q.p.length ∧ (q.p.take i).all (exIn cols) = true) (fun i => q.p.length - i)
    (fun i => [(45, .int i), (44, .int q.p.length), (43, .sl (q.p.map encE)), (6, .sl (cols.map encI)), (3, .ptr (H.nxt + 1) 6 0 0)]) (fun i => [none, some (.cells 6 [encQ q] 0)]) [some 0, some 1] 0 ⟨by omega, by simp⟩ rfl ?_ ?_ ?_
  · (try simp -implicitDefEqProofs only [push_cast, Nat.reduceAdd, Nat.reduceSub, Nat.reduceMul, Nat.reduceLT, Nat.reduceLeDiff, Nat.reduceEqDiff, Nat.reduceBEq, reduceCtorEq, reduceIte, Int.reduceLE, Int.reduceLT, Int.reduceNeg, Int.reduceToNat, encEs_pure, encIs_pure])
  · (try simp -implicitDefEqProofs only [push_cast, Nat.reduceAdd, Nat.reduceSub, Nat.reduceMul, Nat.reduceLT, Nat.reduceLeDiff, Nat.reduceEqDiff, Nat.reduceBEq, reduceCtorEq, reduceIte, Int.reduceLE, Int.reduceLT, Int.reduceNeg, Int.reduceToNat, encEs_pure, encIs_pure, encQ])
  rintro i ⟨hi2, hai⟩
  by_cases hi : i < q.p.length
  · have hi' : ((i : Int) < (q.p.length : Int)) = True := by simp; omega
    have hi0 : (0 ≤ (i : Int)) = True := by simp
    have hok := hq.2.1 _ (List.getElem_mem hi)
    simp -implicitDefEqProofs only [push_cast, Nat.reduceAdd, Nat.reduceSub, Nat.reduceMul, Nat.reduceLT, Nat.reduceLeDiff, Nat.reduceEqDiff, Nat.reduceBEq, reduceCtorEq, reduceIte, Int.reduceLE, Int.reduceLT, Int.reduceNeg, Int.reduceToNat, hi', hi0, encEs_get q.p i hi, encQ]
    refine callq (Cols_ok _ hok.1 hok.2) ?_
    simp -implicitDefEqProofs only [push_cast, Nat.reduceAdd, Nat.reduceSub, Nat.reduceMul, Nat.reduceLT, Nat.reduceLeDiff, Nat.reduceEqDiff, Nat.reduceBEq, reduceCtorEq, reduceIte, Int.reduceLE, Int.reduceLT, Int.reduceNeg, Int.reduceToNat, encQ]
    have hcl2 : (q.p[i].cols).length ≤ 1000000 := Nat.le_trans (cols_len _) hok.2
    refine gcallq' (.bool (within q.p[i].cols cols)) (fun h => by simpa using h) (fun _ => within_ok _ _ hcl2 (by omega)) ?_
    simp -implicitDefEqProofs only [push_cast, Nat.reduceAdd, Nat.reduceSub, Nat.reduceMul, Nat.reduceLT, Nat.reduceLeDiff, Nat.reduceEqDiff, Nat.reduceBEq, reduceCtorEq, reduceIte, Int.reduceLE, Int.reduceLT, Int.reduceNeg, Int.reduceToNat, encQ]
    have hex : exIn cols q.p[i] = !(decide ((q.p[i].cols.length : Int) = 0) || !within q.p[i].cols cols) := by
      unfold exIn
      rw [Bool.not_or, Bool.not_not]
      congr 2
      rw [decide_eq_decide]; omega
    refine ⟨fun h => ?_, fun h => ?_⟩
    · have : q.p.all (exIn cols) = false := by
        rw [List.all_eq_false]
        exact ⟨_, List.getElem_mem hi, by rw [hex, h]; simp⟩
      rw [this]
      rfl
    · rw [wrap64 (n := (i : Int) + 1) (by omega) (by omega)]
      refine next_at [some 0, some 1] (i + 1) ⟨by omega, ?_⟩ (by omega) rfl ?_ ?_
      · rw [List.take_succ_eq_append_getElem hi, List.all_append, hai, List.all_cons, hex, h]
        rfl
      · (try simp -implicitDefEqProofs only [push_cast, Nat.reduceAdd, Nat.reduceSub, Nat.reduceMul, Nat.reduceLT, Nat.reduceLeDiff, Nat.reduceEqDiff, Nat.reduceBEq, reduceCtorEq, reduceIte, Int.reduceLE, Int.reduceLT, Int.reduceNeg, Int.reduceToNat, encEs_pure, encIs_pure])
      · (try simp -implicitDefEqProofs only [push_cast, Nat.reduceAdd, Nat.reduceSub, Nat.reduceMul, Nat.reduceLT, Nat.reduceLeDiff, Nat.reduceEqDiff, Nat.reduceBEq, reduceCtorEq, reduceIte, Int.reduceLE, Int.reduceLT, Int.reduceNeg, Int.reduceToNat, encEs_pure, encIs_pure, encQ])
  · have hi' : ((i : Int) < (q.p.length : Int)) = False := by simp; omega
    obtain rfl : i = q.p.length := by omega
    rw [List.take_length] at hai
    rw [hai, Bool.true_and]
    by_cases hby : q.by_ = -1
    · simp -implicitDefEqProofs only [push_cast, Nat.reduceAdd, Nat.reduceSub, Nat.reduceMul, Nat.reduceLT, Nat.reduceLeDiff, Nat.reduceEqDiff, Nat.reduceBEq, reduceCtorEq, reduceIte, Int.reduceLE, Int.reduceLT, Int.reduceNeg, Int.reduceToNat, hi', encQ, hby]
      refine gcallq' (.bool (decide ((uniq q.out).length = q.out.length))) (fun h => by simpa using h) (fun _ => once_ok _ hq.2.2.2.2) ?_
      simp -implicitDefEqProofs only [push_cast, Nat.reduceAdd, Nat.reduceSub, Nat.reduceMul, Nat.reduceLT, Nat.reduceLeDiff, Nat.reduceEqDiff, Nat.reduceBEq, reduceCtorEq, reduceIte, Int.reduceLE, Int.reduceLT, Int.reduceNeg, Int.reduceToNat, encQ]
      refine gcallq' (.bool (within q.out cols)) (fun h => by simpa using h) (fun _ => within_ok _ _ hq.2.2.2.2 (by omega)) ?_
      simp -implicitDefEqProofs only [push_cast, Nat.reduceAdd, Nat.reduceSub, Nat.reduceMul, Nat.reduceLT, Nat.reduceLeDiff, Nat.reduceEqDiff, Nat.reduceBEq, reduceCtorEq, reduceIte, Int.reduceLE, Int.reduceLT, Int.reduceNeg, Int.reduceToNat, encQ]
      refine gcallq' (.bool (q.out.contains q.ord)) (fun h => by simpa using h) (fun _ => containsI_ok _ hq.2.2.2.2 _) ?_
      simp -implicitDefEqProofs only [push_cast, Nat.reduceAdd, Nat.reduceSub, Nat.reduceMul, Nat.reduceLT, Nat.reduceLeDiff, Nat.reduceEqDiff, Nat.reduceBEq, reduceCtorEq, reduceIte, Int.reduceLE, Int.reduceLT, Int.reduceNeg, Int.reduceToNat, encQ]
      refine ⟨fun h1 h2 => by rw [h1]; simpa using h2, ?_⟩
      have a1 : decide ((1 : Int) ≤ (q.out.length : Int)) = decide (1 ≤ q.out.length) := by rw [decide_eq_decide]; omega
      have a2 : decide ((q.out.length : Int) ≤ 8) = decide (q.out.length ≤ 8) := by rw [decide_eq_decide]; omega
      have a3 : decide ((q.sums.length : Int) = 0) = decide (q.sums.length = 0) := by rw [decide_eq_decide]; omega
      rw [a1, a2, a3, once_iff, endMay, if_pos hby]
    · have hby' : decide (q.by_ = -1) = false := by simpa using hby
      simp -implicitDefEqProofs only [push_cast, Nat.reduceAdd, Nat.reduceSub, Nat.reduceMul, Nat.reduceLT, Nat.reduceLeDiff, Nat.reduceEqDiff, Nat.reduceBEq, reduceCtorEq, reduceIte, Int.reduceLE, Int.reduceLT, Int.reduceNeg, Int.reduceToNat, hi', encQ, hby']
      refine fzk H 2 1 [.sl ([q.by_].map encI), .sl (cols.map encI)] (by rfl) (by omega) (by simp) ?_ ?_
      · (try simp -implicitDefEqProofs only [push_cast, Nat.reduceAdd, Nat.reduceSub, Nat.reduceMul, Nat.reduceLT, Nat.reduceLeDiff, Nat.reduceEqDiff, Nat.reduceBEq, reduceCtorEq, reduceIte, Int.reduceLE, Int.reduceLT, Int.reduceNeg, Int.reduceToNat, encIs_pure, encI])
      refine callq (within_ok [q.by_] cols (by simp) (by omega)) ?_
      simp -implicitDefEqProofs only [push_cast, Nat.reduceAdd, Nat.reduceSub, Nat.reduceMul, Nat.reduceLT, Nat.reduceLeDiff, Nat.reduceEqDiff, Nat.reduceBEq, reduceCtorEq, reduceIte, Int.reduceLE, Int.reduceLT, Int.reduceNeg, Int.reduceToNat, encQ]
      refine gcallq' (.bool (within q.sums cols)) (fun h => by simpa using h) (fun _ => within_ok _ _ hq.2.2.2.1 (by omega)) ?_
      simp -implicitDefEqProofs only [push_cast, Nat.reduceAdd, Nat.reduceSub, Nat.reduceMul, Nat.reduceLT, Nat.reduceLeDiff, Nat.reduceEqDiff, Nat.reduceBEq, reduceCtorEq, reduceIte, Int.reduceLE, Int.reduceLT, Int.reduceNeg, Int.reduceToNat, encQ]
      refine ⟨fun h1 h2 => by rw [h1]; simpa using h2, ?_⟩
      have a2 : decide ((q.sums.length : Int) ≤ 4) = decide (q.sums.length ≤ 4) := by rw [decide_eq_decide]; omega
      have a3 : decide ((q.out.length : Int) = 0) = decide (q.out.length = 0) := by rw [decide_eq_decide]; omega
      rw [a2, a3, endMay, if_neg hby]
/-- A set's columns. -/
def Qy.cols (q : Qy) (c : List Df) (s : Int) : List Int := if q.may c then colsIn c q (bitI s) else []
end Go.Sim.Tryz
set_option linter.unusedSimpArgs false
set_option linter.unusedVariables false
set_option maxRecDepth 100000
namespace Go.Sim.Tryz
open Go Go.Sim
attribute [local push_cast] aops_cons aops_nil aopG_none aopG_some aopP_eq aopE_eq aopC_eq aopE?_eq aopC?_eq aopB_eq aopB?_eq abr anilq gopP_eq gopL_eq ahead_cons ahead_nil ahdG_none ahdG_some ahdP_eq ahdN_eq ahdC_eq ahdN?_eq ahdS_eq ahdS?_eq astoreN ahdC?_eq ghdP_eq ghdC_eq ghdC?_eq ghdZ_f ghdZ_t ahdI_eq ahdI?_eq ghdN?_eq aim_nil aim_cons isIn_nil isIn_none isIn_cons aimm aheP_eq aheA_eq aheC_eq aheC?_eq aheI?_eq aheA?_eq gheP_eq gheC_eq gheC?_eq gheZ_eq aheG_none aheG_some aheff_cons aheff_nil aapp gro_rsl gro_lit gro_esl opt_some opt_none no_eq acondT_true acondT_false acondT_lit aw_skip aw_region aw_regionD aw_seq aw_cond aw_block aw_loop aw_exit aw_label aw_ret thn_normal thn_exit thn_ret inb_normal inb_exit inb_ret qret_ret qret_normal gcond apure aeff anew acallee ares aresT aresL aresC ares1 qfin_eq ev ofV evL gokL tget tput_some tput_none initT abin aint aun aload afaddr aiaddr afield aindex aextract apick pickv_lit Bool.or_false Bool.false_or Bool.or_true Bool.true_or imp_self aslice chunk abound aconv abuild afill splice alen aminmax abuiltin anil apart Value.oneCell' astore aappend srcEs abuildSlice asets isEq plus_obj plus_nxt plus_add plus_set plus_del IntKind.bits Option.map_some Option.map_none Option.bind_some Option.bind_none Option.join_some Option.getD_some Option.getD_none Option.toList Option.isSome_some List.getElem?_toArray List.getElem?_cons_zero List.getElem?_cons_succ List.getElem?_nil List.length_cons List.length_nil List.length_map List.head?_cons List.cons_append List.nil_append List.append_nil List.map_cons List.map_nil List.getD_cons_zero List.getD_cons_succ List.replicate_succ List.replicate_zero List.set_cons_zero List.set_cons_succ List.take_succ_cons List.take_zero List.drop_succ_cons List.drop_zero List.all_cons List.all_nil Nat.zero_add if_true if_false true_and and_true false_and and_false true_implies implies_true forall_const Bool.and_true Bool.true_and Bool.false_and Bool.and_false Bool.true_beq Bool.false_beq Bool.not_not beq_tt beq_ff Int.toNat_natCast decide_true decide_false Bool.not_true Bool.not_false Bool.true_eq_false Bool.false_eq_true false_implies exists_prop eq_self bne_self_eq_false beq_self_eq_true decide_eq_true_eq decide_eq_false_iff_not Bool.not_eq_true' Bool.not_eq_false' AV.int AV.bool AV.nilS ne_eq not_false_eq_true not_true_eq_false exists_eq_left exists_eq_left' Nat.lt_irrefl core_lit grd_lit acells_lit one_lit core_agg grd_agg acells_agg one_agg core_tup grd_tup acells_tup one_tup core_sl grd_sl acells_sl one_sl core_esl grd_esl acells_esl one_esl core_rsl grd_rsl acells_rsl one_rsl core_ptr grd_ptr acells_ptr one_ptr core_iptr grd_iptr acells_iptr one_iptr core_clo grd_clo acells_clo one_clo core_mp grd_mp acells_mp one_mp core_any grd_any acells_any one_any core_gv grd_gv fit_agg fit_lit fit_sl fit_esl fit_rsl fit_ptr fit_iptr fit_clo fit_mp retq_ret retq_normal set_nxt set_set plus_obj_set plus_set_set app_get0 app_get app_set0 app_set List.append_assoc List.length_append List.length_set Nat.lt_add_one Nat.add_lt_add_iff_right Nat.lt_add_right_iff_pos Nat.add_lt_add_iff_left List.mem_cons List.not_mem_nil or_false forall_eq forall_eq_or_imp lt_s0 lt_s1 lt_s2 lt_s3 lt_s4 lt_s5 lt_s6 lt_s7 lt_s8 pickv_t pickv_f or_nand or_nand2 imp_and_l SealT SealOs sealO_cells sl_lit sl_any sl_agg sl_tup sl_sl sl_rsl slO sl_esl sl_nil sl_eslesl sl_eslnil sl_rslrsl sl_eslrsl sl_nilrsl sl_ptr sl_iptr sl_ptri slP sl_clo sl_mp sl_gv sll_nil sll_cons slll_nil slll_cons shut_eq shutO Option.join_none Fn.func.injEq and_self sealL_self sealLL_self seal_self PureL PureLL Pure Nat.le_refl Nat.zero_le AV.lit.injEq Value.int.injEq Value.bool.injEq false_or or_true true_or Int.natCast_zero Int.ofNat_zero Int.cast_ofNat_Int Int.natCast_add Int.natCast_one Option.some.injEq piL_is sop_nil sop_cons sop_none sop_some sopO_some sop_new shut_pi shutL_nil shutL_cons exQ_exit exQ_ret exQ_normal Go.Sim.Tryz.ty_load1 Go.Sim.Tryz.ty_zero1 Go.Sim.Tryz.ty_load2 Go.Sim.Tryz.ty_zero2 Go.Sim.Tryz.ty_und2 Go.Sim.Tryz.ty_load3 Go.Sim.Tryz.ty_zero3 Go.Sim.Tryz.ty_und3 Go.Sim.Tryz.ty_load4 Go.Sim.Tryz.ty_zero4 Go.Sim.Tryz.ty_und4 Go.Sim.Tryz.ty_load5 Go.Sim.Tryz.ty_zero5 Go.Sim.Tryz.ty_und5 Go.Sim.Tryz.ty_load9 Go.Sim.Tryz.ty_zero9 Go.Sim.Tryz.ty_und9 Go.Sim.Tryz.ty_load22 Go.Sim.Tryz.ty_zero22 Go.Sim.Tryz.ty_el22 Go.Sim.Tryz.ty_zeroE22 Go.Sim.Tryz.ty_load24 Go.Sim.Tryz.ty_zero24 Go.Sim.Tryz.ty_fld24_0 Go.Sim.Tryz.ty_part24_0 Go.Sim.Tryz.ty_struct24 Go.Sim.Tryz.ty_load25 Go.Sim.Tryz.ty_zero25 Go.Sim.Tryz.ty_el25 Go.Sim.Tryz.ty_zeroE25 Go.Sim.Tryz.ty_load26 Go.Sim.Tryz.ty_zero26 Go.Sim.Tryz.ty_el26 Go.Sim.Tryz.ty_zeroE26 Go.Sim.Tryz.ty_load28 Go.Sim.Tryz.ty_zero28 Go.Sim.Tryz.ty_fld28_0 Go.Sim.Tryz.ty_part28_0 Go.Sim.Tryz.ty_fld28_1 Go.Sim.Tryz.ty_part28_1 Go.Sim.Tryz.ty_fld28_2 Go.Sim.Tryz.ty_part28_2 Go.Sim.Tryz.ty_fld28_3 Go.Sim.Tryz.ty_part28_3 Go.Sim.Tryz.ty_fld28_4 Go.Sim.Tryz.ty_part28_4 Go.Sim.Tryz.ty_fld28_5 Go.Sim.Tryz.ty_part28_5 Go.Sim.Tryz.ty_struct28 Go.Sim.Tryz.ty_load36 Go.Sim.Tryz.ty_zero36 Go.Sim.Tryz.ty_fld36_0 Go.Sim.Tryz.ty_part36_0 Go.Sim.Tryz.ty_fld36_1 Go.Sim.Tryz.ty_part36_1 Go.Sim.Tryz.ty_struct36 Go.Sim.Tryz.ty_load38 Go.Sim.Tryz.ty_zero38 Go.Sim.Tryz.ty_fld38_0 Go.Sim.Tryz.ty_part38_0 Go.Sim.Tryz.ty_fld38_1 Go.Sim.Tryz.ty_part38_1 Go.Sim.Tryz.ty_fld38_2 Go.Sim.Tryz.ty_part38_2 Go.Sim.Tryz.ty_fld38_3 Go.Sim.Tryz.ty_part38_3 Go.Sim.Tryz.ty_struct38 Go.Sim.Tryz.ty_load48 Go.Sim.Tryz.ty_zero48 Go.Sim.Tryz.ty_el48 Go.Sim.Tryz.ty_zeroE48 Go.Sim.Tryz.ty_load51 Go.Sim.Tryz.ty_zero51 Go.Sim.Tryz.ty_arr51 Go.Sim.Tryz.ty_part51_0 Go.Sim.Tryz.ty_part51_1 Go.Sim.Tryz.ty_struct51 Go.Sim.Tryz.ty_load59 Go.Sim.Tryz.ty_zero59 Go.Sim.Tryz.ty_fld59_0 Go.Sim.Tryz.ty_part59_0 Go.Sim.Tryz.ty_fld59_1 Go.Sim.Tryz.ty_part59_1 Go.Sim.Tryz.ty_struct59 Go.Sim.Tryz.ty_load60 Go.Sim.Tryz.ty_zero60 Go.Sim.Tryz.ty_el60 Go.Sim.Tryz.ty_zeroE60 Go.Sim.Tryz.ty_load62 Go.Sim.Tryz.ty_zero62 Go.Sim.Tryz.ty_fld62_0 Go.Sim.Tryz.ty_part62_0 Go.Sim.Tryz.ty_struct62 Go.Sim.Tryz.ty_load67 Go.Sim.Tryz.ty_zero67 Go.Sim.Tryz.ty_load68 Go.Sim.Tryz.ty_zero68 Go.Sim.Tryz.ty_load75 Go.Sim.Tryz.ty_zero75 Go.Sim.Tryz.ty_load76 Go.Sim.Tryz.ty_zero76 Go.Sim.Tryz.ty_und76 Go.Sim.Tryz.ty_load82 Go.Sim.Tryz.ty_zero82 Go.Sim.Tryz.ty_und82 Go.Sim.Tryz.ty_load85 Go.Sim.Tryz.ty_zero85 Go.Sim.Tryz.ty_und85 Go.Sim.Tryz.ty_load89 Go.Sim.Tryz.ty_zero89 Go.Sim.Tryz.ty_el89 Go.Sim.Tryz.ty_zeroE89 Go.Sim.Tryz.ty_load90 Go.Sim.Tryz.ty_zero90 Go.Sim.Tryz.ty_el90 Go.Sim.Tryz.ty_zeroE90 Go.Sim.Tryz.ty_load93 Go.Sim.Tryz.ty_zero93 Go.Sim.Tryz.ty_load98 Go.Sim.Tryz.ty_zero98 Go.Sim.Tryz.ty_fld98_0 Go.Sim.Tryz.ty_part98_0 Go.Sim.Tryz.ty_fld98_1 Go.Sim.Tryz.ty_part98_1 Go.Sim.Tryz.ty_fld98_2 Go.Sim.Tryz.ty_part98_2 Go.Sim.Tryz.ty_struct98 Go.Sim.Tryz.ty_load100 Go.Sim.Tryz.ty_zero100 Go.Sim.Tryz.ty_load106 Go.Sim.Tryz.ty_zero106 Go.Sim.Tryz.ty_load110 Go.Sim.Tryz.ty_zero110 Go.Sim.Tryz.ty_und110 Go.Sim.Tryz.ty_load118 Go.Sim.Tryz.ty_zero118 Go.Sim.Tryz.ty_und118 Go.Sim.Tryz.ty_load121 Go.Sim.Tryz.ty_zero121 Go.Sim.Tryz.ty_load128 Go.Sim.Tryz.ty_zero128 Go.Sim.Tryz.ty_und128 Go.Sim.Tryz.ty_load132 Go.Sim.Tryz.ty_zero132 encE_mk encE_take encE_len encV encE_one encEs_pure encE_pure

def encP (p : Int × Int) : List AV := [.int p.1, .int p.2]
abbrev rowP (zs : List (Int × Int)) : List (List AV) := zs.map encP
theorem rowP_nil : rowP [] = [] := rfl
theorem rowP_pure (l : List (Int × Int)) : PureLL (rowP l) := by
  rw [pureLL_iff]
  simp only [rowP, List.mem_map]
  rintro _ ⟨x, _, rfl⟩
  simp [encP, PureL, Pure]
theorem rowP_one (l : List (Int × Int)) : (∀ e ∈ rowP l, e.length = 2) = True := by
  simp only [rowP, List.mem_map, eq_iff_iff, iff_true]
  rintro _ ⟨x, _, rfl⟩
  rfl
theorem take_rowP (l : List (Int × Int)) (n : Nat) (h : l.length ≤ n) : List.take n (rowP l) = rowP l := List.take_of_length_le (by simpa [rowP] using h)
theorem snocP (l : List (Int × Int)) (x y : Int) : rowP l ++ [[.lit (.int .i64 x), .lit (.int .i64 y)]] = rowP (l ++ [(x, y)]) := by rw [rowP, rowP, List.map_append]; rfl
theorem encPs_get (l : List (Int × Int)) (i : Nat) (h : i < l.length) : (l.map encP).getD i [] = encP l[i] := getD_map encP l [] i h
theorem holds_col (s x : Int) (h0 : 0 ≤ x) (h1 : x ≤ 15) : holdsI s (ofBits (ofC [x])) = bitC s x := by
  obtain ⟨k, hk⟩ : ∃ k : Nat, x / 4 = k := ⟨(x / 4).toNat, by omega⟩
  have hk4 : k < 4 := by omega
  have hb : ∀ i : Nat, i < 4 → bitI (ofBits (ofC [x])) i = decide (k = i) := fun i hi => by
    rw [ofBits_bit _ i hi, ofC, List.any_cons, List.any_nil, Bool.or_false, hk, decide_eq_decide]; omega
  rw [bitC, hk, Int.toNat_natCast, Bool.eq_iff_iff, holdsI_iff]
  constructor
  · intro h
    exact h k hk4 (by rw [hb k hk4]; simp)
  · intro h i hi hx
    rw [hb i hi, decide_eq_true_eq] at hx
    exact hx ▸ h
theorem pairsF_take (a b : Int) (P : List Ex) (l : List Int) (i : Nat) (h : i < l.length) : pairsF a b P (l.take (i + 1)) = pairsF a b P (l.take i) ++ pairOf a b (P.getD l[i].toNat exO) := by
  rw [List.take_succ_eq_append_getElem h, pairsF, pairsF, List.flatMap_append, List.flatMap_cons, List.flatMap_nil, List.append_nil]
theorem Pairs_ok (q : Qy) (hq : q.Ok) (a b : Int) : Quiet Go.Proofs.Tryz.prog 26 [.agg (encQ q), .int a, .int b] (.sl ((q.pairs a b).map encP)) := by
  have hn := New_ok q hq a b
  have hnl : (q.new a b).length ≤ 1000000 := Nat.le_trans (idxF_lt _ _) hq.1
  have hnm : ∀ i ∈ q.new a b, 0 ≤ i ∧ i < q.p.length := fun i hi => by rw [Qy.new, idxF_mem] at hi; omega
  rw [Qy.pairs]
  generalize q.new a b = l at hn hnl hnm ⊢
  simp only [encQ] at hn
  refine quiet_of (rs := #[.tmp 6]) Go.Proofs.Tryz.func26 rfl rfl rfl mixed rfl rfl fun H hs => ?_
  simp -implicitDefEqProofs only [push_cast, Nat.reduceAdd, Nat.reduceSub, Nat.reduceMul, Nat.reduceLT, Nat.reduceLeDiff, Nat.reduceEqDiff, Nat.reduceBEq, reduceCtorEq, reduceIte, Int.reduceLE, Int.reduceLT, Int.reduceNeg, Int.reduceToNat, encQ]
  refine callq hn ?_
  simp -implicitDefEqProofs only [push_cast, Nat.reduceAdd, Nat.reduceSub, Nat.reduceMul, Nat.reduceLT, Nat.reduceLeDiff, Nat.reduceEqDiff, Nat.reduceBEq, reduceCtorEq, reduceIte, Int.reduceLE, Int.reduceLT, Int.reduceNeg, Int.reduceToNat, encQ]
  refine loop_at hs (σ := Nat) (fun i => i ≤ l.length) (fun i => l.length - i)
    (fun i => [(20, .int i), (19, .int l.length), (18, .sl (l.map encI)), (3, .ptr (H.nxt + 0) 6 0 0), (1, .int a), (2, .int b), (7, .rsl (H.nxt + 1) 2 0 (pairsF a b q.p (l.take i)).length)]) (fun i => [some (.cells 6 [encQ q] 0), some (.cells 2 (rowP (pairsF a b q.p (l.take i))) 0)]) [some 0, none] 0 (by omega) rfl ?_ ?_ ?_
  · (try simp -implicitDefEqProofs only [push_cast, Nat.reduceAdd, Nat.reduceSub, Nat.reduceMul, Nat.reduceLT, Nat.reduceLeDiff, Nat.reduceEqDiff, Nat.reduceBEq, reduceCtorEq, reduceIte, Int.reduceLE, Int.reduceLT, Int.reduceNeg, Int.reduceToNat, rowP_nil, List.take_zero, encEs_pure, encIs_pure, encQ, pairsF, List.flatMap_nil])
  · (try simp -implicitDefEqProofs only [push_cast, Nat.reduceAdd, Nat.reduceSub, Nat.reduceMul, Nat.reduceLT, Nat.reduceLeDiff, Nat.reduceEqDiff, Nat.reduceBEq, reduceCtorEq, reduceIte, Int.reduceLE, Int.reduceLT, Int.reduceNeg, Int.reduceToNat, rowP_nil, List.take_zero, encEs_pure, encIs_pure, encQ, pairsF, List.flatMap_nil])
  intro i hi2
  by_cases hi : i < l.length
  · have hi' : ((i : Int) < (l.length : Int)) = True := by simp; omega
    have hi0 : (0 ≤ (i : Int)) = True := by simp
    obtain ⟨h0, h1⟩ := hnm _ (List.getElem_mem hi)
    obtain ⟨k, hk⟩ : ∃ k : Nat, l[i] = k := ⟨l[i].toNat, by omega⟩
    have hkl : k < q.p.length := by omega
    have hk0 : (0 ≤ (k : Int)) = True := by simp
    have hk' : ((k : Int) < (q.p.length : Int)) = True := by simp; omega
    have hok := hq.2.1 _ (List.getElem_mem hkl)
    have hge : q.p.getD l[i].toNat exO = q.p[k] := by
      rw [hk, Int.toNat_natCast, List.getD_eq_getElem?_getD, List.getElem?_eq_getElem hkl]; rfl
    have hps := pairsF_take a b q.p l i hi
    rw [hge] at hps
    simp -implicitDefEqProofs only [push_cast, Nat.reduceAdd, Nat.reduceSub, Nat.reduceMul, Nat.reduceLT, Nat.reduceLeDiff, Nat.reduceEqDiff, Nat.reduceBEq, reduceCtorEq, reduceIte, Int.reduceLE, Int.reduceLT, Int.reduceNeg, Int.reduceToNat, hi', hi0, encIs_get l i hi, encI, hk, hk0, hk', encEs_get q.p k hkl, encQ]
    refine callq (Pair_ok _ hok.1) ?_
    simp -implicitDefEqProofs only [push_cast, Nat.reduceAdd, Nat.reduceSub, Nat.reduceMul, Nat.reduceLT, Nat.reduceLeDiff, Nat.reduceEqDiff, Nat.reduceBEq, reduceCtorEq, reduceIte, Int.reduceLE, Int.reduceLT, Int.reduceNeg, Int.reduceToNat, encQ]
    have hpl : (pairsF a b q.p (l.take i)).length ≤ 1000000 := by
      refine Nat.le_trans (flat_len _ _ fun x _ => pairOf_len _ _ _) ?_
      rw [List.length_take]; omega
    refine ⟨fun his => ?_, fun his => ?_⟩
    · have hp0 : pairOf a b q.p[k] = [] := by rw [pairOf, if_neg (by simp [his])]
      rw [hp0, List.append_nil] at hps
      rw [wrap64 (n := (i : Int) + 1) (by omega) (by omega)]
      refine next_at [some 0, some 1] (i + 1) (by omega) (by omega) rfl ?_ ?_
      · (try simp -implicitDefEqProofs only [push_cast, Nat.reduceAdd, Nat.reduceSub, Nat.reduceMul, Nat.reduceLT, Nat.reduceLeDiff, Nat.reduceEqDiff, Nat.reduceBEq, reduceCtorEq, reduceIte, Int.reduceLE, Int.reduceLT, Int.reduceNeg, Int.reduceToNat, hps, encEs_pure, encIs_pure, encQ])
      · (try simp -implicitDefEqProofs only [push_cast, Nat.reduceAdd, Nat.reduceSub, Nat.reduceMul, Nat.reduceLT, Nat.reduceLeDiff, Nat.reduceEqDiff, Nat.reduceBEq, reduceCtorEq, reduceIte, Int.reduceLE, Int.reduceLT, Int.reduceNeg, Int.reduceToNat, hps, encEs_pure, encIs_pure, encQ, rowP_pure, rowP_one])
    · obtain ⟨_, _, hx, hy, _⟩ := pair_spec his
      have hpo : pairOf a b q.p[k] = if bitC a q.p[k].pair.1 && bitC b q.p[k].pair.2.1 then [(q.p[k].pair.1, q.p[k].pair.2.1)] else if bitC a q.p[k].pair.2.1 && bitC b q.p[k].pair.1 then [(q.p[k].pair.2.1, q.p[k].pair.1)] else [] := by rw [pairOf, if_pos his]
      generalize q.p[k].pair.1 = x at hx hpo ⊢
      generalize q.p[k].pair.2.1 = y at hy hpo ⊢
      generalize pairsF a b q.p (l.take i) = ps at hps hpl ⊢
      have hlx := holds_col a x hx.1 hx.2
      have hly := holds_col a y hy.1 hy.2
      have hmx := holds_col b x hx.1 hx.2
      have hmy := holds_col b y hy.1 hy.2
      have hof : ∀ z, 0 ≤ z → z ≤ 15 → Quiet Go.Proofs.Tryz.prog 65 [.sl [[.int z]]] (.int (ofBits (ofC [z]))) := fun z h0 h1 => ofSet_ok [z] (by simp) (by simpa using ⟨h0, h1⟩)
      obtain ⟨c1, hc1⟩ : ∃ c, c = (bitC a x && bitC b y) := ⟨_, rfl⟩
      obtain ⟨c2, hc2⟩ : ∃ c, c = (bitC a y && bitC b x) := ⟨_, rfl⟩
      rw [← hc1, ← hc2] at hpo
      refine loop_at hs (σ := Nat) (fun j => j ≤ 2 ∧ (1 ≤ j → c1 = false) ∧ (2 ≤ j → c2 = false)) (fun j => 2 - j)
        (fun j => [(44, .int j), (43, .int 2), (42, .rsl (H.nxt + 2) 2 0 2), (20, .int i), (19, .int l.length), (18, .sl (l.map encI)), (3, .ptr (H.nxt + 0) 6 0 0), (1, .int a), (2, .int b), (7, .rsl (H.nxt + 1) 2 0 ps.length)])
        (fun j => [some (.cells 6 [encQ q] 0), some (.cells 2 (rowP ps) 0), some (.cells 2 (rowP [(x, y), (y, x)]) 0)]) [some 0, some 1, some 2] 0 ⟨by omega, fun h => by omega, fun h => by omega⟩ rfl ?_ ?_ ?_
      · (try simp -implicitDefEqProofs only [push_cast, Nat.reduceAdd, Nat.reduceSub, Nat.reduceMul, Nat.reduceLT, Nat.reduceLeDiff, Nat.reduceEqDiff, Nat.reduceBEq, reduceCtorEq, reduceIte, Int.reduceLE, Int.reduceLT, Int.reduceNeg, Int.reduceToNat, encEs_pure, encIs_pure, encQ, encP, Int.reduceAdd])
      · (try simp -implicitDefEqProofs only [push_cast, Nat.reduceAdd, Nat.reduceSub, Nat.reduceMul, Nat.reduceLT, Nat.reduceLeDiff, Nat.reduceEqDiff, Nat.reduceBEq, reduceCtorEq, reduceIte, Int.reduceLE, Int.reduceLT, Int.reduceNeg, Int.reduceToNat, encEs_pure, encIs_pure, encQ, rowP_pure, rowP_one, encP])
      rintro j ⟨hj2, hj3, hj4⟩
      obtain rfl | rfl | rfl : j = 0 ∨ j = 1 ∨ j = 2 := by omega
      · simp -implicitDefEqProofs only [push_cast, Nat.reduceAdd, Nat.reduceSub, Nat.reduceMul, Nat.reduceLT, Nat.reduceLeDiff, Nat.reduceEqDiff, Nat.reduceBEq, reduceCtorEq, reduceIte, Int.reduceLE, Int.reduceLT, Int.reduceNeg, Int.reduceToNat, encQ, encP, Int.reduceAdd]
        refine ⟨by decide, callq (hof x hx.1 hx.2) ?_⟩
        simp -implicitDefEqProofs only [push_cast, Nat.reduceAdd, Nat.reduceSub, Nat.reduceMul, Nat.reduceLT, Nat.reduceLeDiff, Nat.reduceEqDiff, Nat.reduceBEq, reduceCtorEq, reduceIte, Int.reduceLE, Int.reduceLT, Int.reduceNeg, Int.reduceToNat, encQ, encP, Int.reduceAdd]
        refine callq (setHolds_ok a _ (ofBits_range _).1 (ofBits_range _).2) ?_
        cases hax : bitC a x
        · simp -implicitDefEqProofs only [push_cast, Nat.reduceAdd, Nat.reduceSub, Nat.reduceMul, Nat.reduceLT, Nat.reduceLeDiff, Nat.reduceEqDiff, Nat.reduceBEq, reduceCtorEq, reduceIte, Int.reduceLE, Int.reduceLT, Int.reduceNeg, Int.reduceToNat, encQ, encP, Int.reduceAdd, hlx, hax]
          refine gskip ?_
          simp -implicitDefEqProofs only [push_cast, Nat.reduceAdd, Nat.reduceSub, Nat.reduceMul, Nat.reduceLT, Nat.reduceLeDiff, Nat.reduceEqDiff, Nat.reduceBEq, reduceCtorEq, reduceIte, Int.reduceLE, Int.reduceLT, Int.reduceNeg, Int.reduceToNat, encQ, encP, Int.reduceAdd]
          refine gskip ?_
          simp -implicitDefEqProofs only [push_cast, Nat.reduceAdd, Nat.reduceSub, Nat.reduceMul, Nat.reduceLT, Nat.reduceLeDiff, Nat.reduceEqDiff, Nat.reduceBEq, reduceCtorEq, reduceIte, Int.reduceLE, Int.reduceLT, Int.reduceNeg, Int.reduceToNat, encQ, encP, Int.reduceAdd]
          refine gskip ?_
          simp -implicitDefEqProofs only [push_cast, Nat.reduceAdd, Nat.reduceSub, Nat.reduceMul, Nat.reduceLT, Nat.reduceLeDiff, Nat.reduceEqDiff, Nat.reduceBEq, reduceCtorEq, reduceIte, Int.reduceLE, Int.reduceLT, Int.reduceNeg, Int.reduceToNat, encQ, encP, Int.reduceAdd]
          rw [wrap64 (n := 1) (by omega) (by omega)]
          refine next_at [some 0, some 1, some 2] 1 ⟨by omega, fun _ => by rw [hc1, hax]; rfl, fun h => by omega⟩ (by omega) rfl ?_ ?_
          · (try simp -implicitDefEqProofs only [push_cast, Nat.reduceAdd, Nat.reduceSub, Nat.reduceMul, Nat.reduceLT, Nat.reduceLeDiff, Nat.reduceEqDiff, Nat.reduceBEq, reduceCtorEq, reduceIte, Int.reduceLE, Int.reduceLT, Int.reduceNeg, Int.reduceToNat, encEs_pure, encIs_pure, encQ, encP, Int.reduceAdd])
          · (try simp -implicitDefEqProofs only [push_cast, Nat.reduceAdd, Nat.reduceSub, Nat.reduceMul, Nat.reduceLT, Nat.reduceLeDiff, Nat.reduceEqDiff, Nat.reduceBEq, reduceCtorEq, reduceIte, Int.reduceLE, Int.reduceLT, Int.reduceNeg, Int.reduceToNat, encEs_pure, encIs_pure, encQ, rowP_pure, rowP_one, encP])
        · simp -implicitDefEqProofs only [push_cast, Nat.reduceAdd, Nat.reduceSub, Nat.reduceMul, Nat.reduceLT, Nat.reduceLeDiff, Nat.reduceEqDiff, Nat.reduceBEq, reduceCtorEq, reduceIte, Int.reduceLE, Int.reduceLT, Int.reduceNeg, Int.reduceToNat, encQ, encP, Int.reduceAdd, hlx, hax]
          refine gdo (by decide) ?_
          simp -implicitDefEqProofs only [push_cast, Nat.reduceAdd, Nat.reduceSub, Nat.reduceMul, Nat.reduceLT, Nat.reduceLeDiff, Nat.reduceEqDiff, Nat.reduceBEq, reduceCtorEq, reduceIte, Int.reduceLE, Int.reduceLT, Int.reduceNeg, Int.reduceToNat, encQ, encP, Int.reduceAdd]
          refine gcall trivial (callq (hof y hy.1 hy.2) ?_)
          simp -implicitDefEqProofs only [push_cast, Nat.reduceAdd, Nat.reduceSub, Nat.reduceMul, Nat.reduceLT, Nat.reduceLeDiff, Nat.reduceEqDiff, Nat.reduceBEq, reduceCtorEq, reduceIte, Int.reduceLE, Int.reduceLT, Int.reduceNeg, Int.reduceToNat, encQ, encP, Int.reduceAdd]
          refine gcall trivial (callq (setHolds_ok b _ (ofBits_range _).1 (ofBits_range _).2) ?_)
          simp -implicitDefEqProofs only [push_cast, Nat.reduceAdd, Nat.reduceSub, Nat.reduceMul, Nat.reduceLT, Nat.reduceLeDiff, Nat.reduceEqDiff, Nat.reduceBEq, reduceCtorEq, reduceIte, Int.reduceLE, Int.reduceLT, Int.reduceNeg, Int.reduceToNat, encQ, encP, Int.reduceAdd, hmy]
          refine ⟨fun h => ⟨by omega, ?_⟩, fun h => ?_⟩
          · have hpo1 : pairOf a b q.p[k] = [(x, y)] := by rw [hpo, hc1, hax, h]; rfl
            rw [hpo1] at hps
            rw [wrap64 (n := (i : Int) + 1) (by omega) (by omega)]
            refine next_at [some 0, some 5] (i + 1) (by omega) (by omega) rfl ?_ ?_
            · (try simp -implicitDefEqProofs only [push_cast, Nat.reduceAdd, Nat.reduceSub, Nat.reduceMul, Nat.reduceLT, Nat.reduceLeDiff, Nat.reduceEqDiff, Nat.reduceBEq, reduceCtorEq, reduceIte, Int.reduceLE, Int.reduceLT, Int.reduceNeg, Int.reduceToNat, hps, encEs_pure, encIs_pure, encQ])
            · (try simp -implicitDefEqProofs only [push_cast, Nat.reduceAdd, Nat.reduceSub, Nat.reduceMul, Nat.reduceLT, Nat.reduceLeDiff, Nat.reduceEqDiff, Nat.reduceBEq, reduceCtorEq, reduceIte, Int.reduceLE, Int.reduceLT, Int.reduceNeg, Int.reduceToNat, hps, encEs_pure, encIs_pure, encQ, take_rowP _ _ (Nat.le_refl _), snocP, rowP_pure, rowP_one])
          · rw [wrap64 (n := 1) (by omega) (by omega)]
            refine next_at [some 0, some 1, some 2] 1 ⟨by omega, fun _ => by rw [hc1, hax, h]; rfl, fun h => by omega⟩ (by omega) rfl ?_ ?_
            · (try simp -implicitDefEqProofs only [push_cast, Nat.reduceAdd, Nat.reduceSub, Nat.reduceMul, Nat.reduceLT, Nat.reduceLeDiff, Nat.reduceEqDiff, Nat.reduceBEq, reduceCtorEq, reduceIte, Int.reduceLE, Int.reduceLT, Int.reduceNeg, Int.reduceToNat, encEs_pure, encIs_pure, encQ, encP, Int.reduceAdd])
            · (try simp -implicitDefEqProofs only [push_cast, Nat.reduceAdd, Nat.reduceSub, Nat.reduceMul, Nat.reduceLT, Nat.reduceLeDiff, Nat.reduceEqDiff, Nat.reduceBEq, reduceCtorEq, reduceIte, Int.reduceLE, Int.reduceLT, Int.reduceNeg, Int.reduceToNat, encEs_pure, encIs_pure, encQ, rowP_pure, rowP_one, encP])
      · simp -implicitDefEqProofs only [push_cast, Nat.reduceAdd, Nat.reduceSub, Nat.reduceMul, Nat.reduceLT, Nat.reduceLeDiff, Nat.reduceEqDiff, Nat.reduceBEq, reduceCtorEq, reduceIte, Int.reduceLE, Int.reduceLT, Int.reduceNeg, Int.reduceToNat, encQ, encP, Int.reduceAdd]
        refine ⟨by decide, callq (hof y hy.1 hy.2) ?_⟩
        simp -implicitDefEqProofs only [push_cast, Nat.reduceAdd, Nat.reduceSub, Nat.reduceMul, Nat.reduceLT, Nat.reduceLeDiff, Nat.reduceEqDiff, Nat.reduceBEq, reduceCtorEq, reduceIte, Int.reduceLE, Int.reduceLT, Int.reduceNeg, Int.reduceToNat, encQ, encP, Int.reduceAdd]
        refine callq (setHolds_ok a _ (ofBits_range _).1 (ofBits_range _).2) ?_
        cases hax : bitC a y
        · simp -implicitDefEqProofs only [push_cast, Nat.reduceAdd, Nat.reduceSub, Nat.reduceMul, Nat.reduceLT, Nat.reduceLeDiff, Nat.reduceEqDiff, Nat.reduceBEq, reduceCtorEq, reduceIte, Int.reduceLE, Int.reduceLT, Int.reduceNeg, Int.reduceToNat, encQ, encP, Int.reduceAdd, hly, hax]
          refine gskip ?_
          simp -implicitDefEqProofs only [push_cast, Nat.reduceAdd, Nat.reduceSub, Nat.reduceMul, Nat.reduceLT, Nat.reduceLeDiff, Nat.reduceEqDiff, Nat.reduceBEq, reduceCtorEq, reduceIte, Int.reduceLE, Int.reduceLT, Int.reduceNeg, Int.reduceToNat, encQ, encP, Int.reduceAdd]
          refine gskip ?_
          simp -implicitDefEqProofs only [push_cast, Nat.reduceAdd, Nat.reduceSub, Nat.reduceMul, Nat.reduceLT, Nat.reduceLeDiff, Nat.reduceEqDiff, Nat.reduceBEq, reduceCtorEq, reduceIte, Int.reduceLE, Int.reduceLT, Int.reduceNeg, Int.reduceToNat, encQ, encP, Int.reduceAdd]
          refine gskip ?_
          simp -implicitDefEqProofs only [push_cast, Nat.reduceAdd, Nat.reduceSub, Nat.reduceMul, Nat.reduceLT, Nat.reduceLeDiff, Nat.reduceEqDiff, Nat.reduceBEq, reduceCtorEq, reduceIte, Int.reduceLE, Int.reduceLT, Int.reduceNeg, Int.reduceToNat, encQ, encP, Int.reduceAdd]
          rw [wrap64 (n := 2) (by omega) (by omega)]
          refine next_at [some 0, some 1, some 2] 2 ⟨by omega, fun _ => hj3 (by omega), fun _ => by rw [hc2, hax]; rfl⟩ (by omega) rfl ?_ ?_
          · (try simp -implicitDefEqProofs only [push_cast, Nat.reduceAdd, Nat.reduceSub, Nat.reduceMul, Nat.reduceLT, Nat.reduceLeDiff, Nat.reduceEqDiff, Nat.reduceBEq, reduceCtorEq, reduceIte, Int.reduceLE, Int.reduceLT, Int.reduceNeg, Int.reduceToNat, encEs_pure, encIs_pure, encQ, encP, Int.reduceAdd])
          · (try simp -implicitDefEqProofs only [push_cast, Nat.reduceAdd, Nat.reduceSub, Nat.reduceMul, Nat.reduceLT, Nat.reduceLeDiff, Nat.reduceEqDiff, Nat.reduceBEq, reduceCtorEq, reduceIte, Int.reduceLE, Int.reduceLT, Int.reduceNeg, Int.reduceToNat, encEs_pure, encIs_pure, encQ, rowP_pure, rowP_one, encP])
        · simp -implicitDefEqProofs only [push_cast, Nat.reduceAdd, Nat.reduceSub, Nat.reduceMul, Nat.reduceLT, Nat.reduceLeDiff, Nat.reduceEqDiff, Nat.reduceBEq, reduceCtorEq, reduceIte, Int.reduceLE, Int.reduceLT, Int.reduceNeg, Int.reduceToNat, encQ, encP, Int.reduceAdd, hly, hax]
          refine gdo (by decide) ?_
          simp -implicitDefEqProofs only [push_cast, Nat.reduceAdd, Nat.reduceSub, Nat.reduceMul, Nat.reduceLT, Nat.reduceLeDiff, Nat.reduceEqDiff, Nat.reduceBEq, reduceCtorEq, reduceIte, Int.reduceLE, Int.reduceLT, Int.reduceNeg, Int.reduceToNat, encQ, encP, Int.reduceAdd]
          refine gcall trivial (callq (hof x hx.1 hx.2) ?_)
          simp -implicitDefEqProofs only [push_cast, Nat.reduceAdd, Nat.reduceSub, Nat.reduceMul, Nat.reduceLT, Nat.reduceLeDiff, Nat.reduceEqDiff, Nat.reduceBEq, reduceCtorEq, reduceIte, Int.reduceLE, Int.reduceLT, Int.reduceNeg, Int.reduceToNat, encQ, encP, Int.reduceAdd]
          refine gcall trivial (callq (setHolds_ok b _ (ofBits_range _).1 (ofBits_range _).2) ?_)
          simp -implicitDefEqProofs only [push_cast, Nat.reduceAdd, Nat.reduceSub, Nat.reduceMul, Nat.reduceLT, Nat.reduceLeDiff, Nat.reduceEqDiff, Nat.reduceBEq, reduceCtorEq, reduceIte, Int.reduceLE, Int.reduceLT, Int.reduceNeg, Int.reduceToNat, encQ, encP, Int.reduceAdd, hmx]
          refine ⟨fun h => ⟨by omega, ?_⟩, fun h => ?_⟩
          · have hpo1 : pairOf a b q.p[k] = [(y, x)] := by rw [hpo, hj3 (by omega), hc2, hax, h]; rfl
            rw [hpo1] at hps
            rw [wrap64 (n := (i : Int) + 1) (by omega) (by omega)]
            refine next_at [some 0, some 5] (i + 1) (by omega) (by omega) rfl ?_ ?_
            · (try simp -implicitDefEqProofs only [push_cast, Nat.reduceAdd, Nat.reduceSub, Nat.reduceMul, Nat.reduceLT, Nat.reduceLeDiff, Nat.reduceEqDiff, Nat.reduceBEq, reduceCtorEq, reduceIte, Int.reduceLE, Int.reduceLT, Int.reduceNeg, Int.reduceToNat, hps, encEs_pure, encIs_pure, encQ])
            · (try simp -implicitDefEqProofs only [push_cast, Nat.reduceAdd, Nat.reduceSub, Nat.reduceMul, Nat.reduceLT, Nat.reduceLeDiff, Nat.reduceEqDiff, Nat.reduceBEq, reduceCtorEq, reduceIte, Int.reduceLE, Int.reduceLT, Int.reduceNeg, Int.reduceToNat, hps, encEs_pure, encIs_pure, encQ, take_rowP _ _ (Nat.le_refl _), snocP, rowP_pure, rowP_one])
          · rw [wrap64 (n := 2) (by omega) (by omega)]
            refine next_at [some 0, some 1, some 2] 2 ⟨by omega, fun _ => hj3 (by omega), fun _ => by rw [hc2, hax, h]; rfl⟩ (by omega) rfl ?_ ?_
            · (try simp -implicitDefEqProofs only [push_cast, Nat.reduceAdd, Nat.reduceSub, Nat.reduceMul, Nat.reduceLT, Nat.reduceLeDiff, Nat.reduceEqDiff, Nat.reduceBEq, reduceCtorEq, reduceIte, Int.reduceLE, Int.reduceLT, Int.reduceNeg, Int.reduceToNat, encEs_pure, encIs_pure, encQ, encP, Int.reduceAdd])
            · (try simp -implicitDefEqProofs only [push_cast, Nat.reduceAdd, Nat.reduceSub, Nat.reduceMul, Nat.reduceLT, Nat.reduceLeDiff, Nat.reduceEqDiff, Nat.reduceBEq, reduceCtorEq, reduceIte, Int.reduceLE, Int.reduceLT, Int.reduceNeg, Int.reduceToNat, encEs_pure, encIs_pure, encQ, rowP_pure, rowP_one, encP])
      · simp -implicitDefEqProofs only [push_cast, Nat.reduceAdd, Nat.reduceSub, Nat.reduceMul, Nat.reduceLT, Nat.reduceLeDiff, Nat.reduceEqDiff, Nat.reduceBEq, reduceCtorEq, reduceIte, Int.reduceLE, Int.reduceLT, Int.reduceNeg, Int.reduceToNat, encQ, encP, Int.reduceAdd]
        rw [hj3 (by omega), hj4 (by omega)] at hpo
        simp only [Bool.false_eq_true, if_false] at hpo
        rw [hpo, List.append_nil] at hps
        rw [wrap64 (n := (i : Int) + 1) (by omega) (by omega)]
        refine next_at [some 0, some 1] (i + 1) (by omega) (by omega) rfl ?_ ?_
        · (try simp -implicitDefEqProofs only [push_cast, Nat.reduceAdd, Nat.reduceSub, Nat.reduceMul, Nat.reduceLT, Nat.reduceLeDiff, Nat.reduceEqDiff, Nat.reduceBEq, reduceCtorEq, reduceIte, Int.reduceLE, Int.reduceLT, Int.reduceNeg, Int.reduceToNat, hps, encEs_pure, encIs_pure, encQ])
        · (try simp -implicitDefEqProofs only [push_cast, Nat.reduceAdd, Nat.reduceSub, Nat.reduceMul, Nat.reduceLT, Nat.reduceLeDiff, Nat.reduceEqDiff, Nat.reduceBEq, reduceCtorEq, reduceIte, Int.reduceLE, Int.reduceLT, Int.reduceNeg, Int.reduceToNat, hps, encEs_pure, encIs_pure, encQ, rowP_pure, rowP_one])
  · have hi' : ((i : Int) < (l.length : Int)) = False := by simp; omega
    have h5 : l.take i = l := List.take_of_length_le (by omega)
    simp -implicitDefEqProofs only [push_cast, Nat.reduceAdd, Nat.reduceSub, Nat.reduceMul, Nat.reduceLT, Nat.reduceLeDiff, Nat.reduceEqDiff, Nat.reduceBEq, reduceCtorEq, reduceIte, Int.reduceLE, Int.reduceLT, Int.reduceNeg, Int.reduceToNat, hi', h5]
    (try simp -implicitDefEqProofs only [push_cast, Nat.reduceAdd, Nat.reduceSub, Nat.reduceMul, Nat.reduceLT, Nat.reduceLeDiff, Nat.reduceEqDiff, Nat.reduceBEq, reduceCtorEq, reduceIte, Int.reduceLE, Int.reduceLT, Int.reduceNeg, Int.reduceToNat])
    rw [take_rowP _ _ (Nat.le_refl _)]
    exact sealLL_pure _ _ _ (rowP_pure _)
end Go.Sim.Tryz
set_option linter.unusedSimpArgs false
set_option linter.unusedVariables false
set_option maxRecDepth 100000
namespace Go.Sim.Tryz
open Go Go.Sim
attribute [local push_cast] aops_cons aops_nil aopG_none aopG_some aopP_eq aopE_eq aopC_eq aopE?_eq aopC?_eq aopB_eq aopB?_eq abr anilq gopP_eq gopL_eq ahead_cons ahead_nil ahdG_none ahdG_some ahdP_eq ahdN_eq ahdC_eq ahdN?_eq ahdS_eq ahdS?_eq astoreN ahdC?_eq ghdP_eq ghdC_eq ghdC?_eq ghdZ_f ghdZ_t ahdI_eq ahdI?_eq ghdN?_eq aim_nil aim_cons isIn_nil isIn_none isIn_cons aimm aheP_eq aheA_eq aheC_eq aheC?_eq aheI?_eq aheA?_eq gheP_eq gheC_eq gheC?_eq gheZ_eq aheG_none aheG_some aheff_cons aheff_nil aapp gro_rsl gro_lit gro_esl opt_some opt_none no_eq acondT_true acondT_false acondT_lit aw_skip aw_region aw_regionD aw_seq aw_cond aw_block aw_loop aw_exit aw_label aw_ret thn_normal thn_exit thn_ret inb_normal inb_exit inb_ret qret_ret qret_normal gcond apure aeff anew acallee ares aresT aresL aresC ares1 qfin_eq ev ofV evL gokL tget tput_some tput_none initT abin aint aun aload afaddr aiaddr afield aindex aextract apick pickv_lit Bool.or_false Bool.false_or Bool.or_true Bool.true_or imp_self aslice chunk abound aconv abuild afill splice alen aminmax abuiltin anil apart Value.oneCell' astore aappend srcEs abuildSlice asets isEq plus_obj plus_nxt plus_add plus_set plus_del IntKind.bits Option.map_some Option.map_none Option.bind_some Option.bind_none Option.join_some Option.getD_some Option.getD_none Option.toList Option.isSome_some List.getElem?_toArray List.getElem?_cons_zero List.getElem?_cons_succ List.getElem?_nil List.length_cons List.length_nil List.length_map List.head?_cons List.cons_append List.nil_append List.append_nil List.map_cons List.map_nil List.getD_cons_zero List.getD_cons_succ List.replicate_succ List.replicate_zero List.set_cons_zero List.set_cons_succ List.take_succ_cons List.take_zero List.drop_succ_cons List.drop_zero List.all_cons List.all_nil Nat.zero_add if_true if_false true_and and_true false_and and_false true_implies implies_true forall_const Bool.and_true Bool.true_and Bool.false_and Bool.and_false Bool.true_beq Bool.false_beq Bool.not_not beq_tt beq_ff Int.toNat_natCast decide_true decide_false Bool.not_true Bool.not_false Bool.true_eq_false Bool.false_eq_true false_implies exists_prop eq_self bne_self_eq_false beq_self_eq_true decide_eq_true_eq decide_eq_false_iff_not Bool.not_eq_true' Bool.not_eq_false' AV.int AV.bool AV.nilS ne_eq not_false_eq_true not_true_eq_false exists_eq_left exists_eq_left' Nat.lt_irrefl core_lit grd_lit acells_lit one_lit core_agg grd_agg acells_agg one_agg core_tup grd_tup acells_tup one_tup core_sl grd_sl acells_sl one_sl core_esl grd_esl acells_esl one_esl core_rsl grd_rsl acells_rsl one_rsl core_ptr grd_ptr acells_ptr one_ptr core_iptr grd_iptr acells_iptr one_iptr core_clo grd_clo acells_clo one_clo core_mp grd_mp acells_mp one_mp core_any grd_any acells_any one_any core_gv grd_gv fit_agg fit_lit fit_sl fit_esl fit_rsl fit_ptr fit_iptr fit_clo fit_mp retq_ret retq_normal set_nxt set_set plus_obj_set plus_set_set app_get0 app_get app_set0 app_set List.append_assoc List.length_append List.length_set Nat.lt_add_one Nat.add_lt_add_iff_right Nat.lt_add_right_iff_pos Nat.add_lt_add_iff_left List.mem_cons List.not_mem_nil or_false forall_eq forall_eq_or_imp lt_s0 lt_s1 lt_s2 lt_s3 lt_s4 lt_s5 lt_s6 lt_s7 lt_s8 pickv_t pickv_f or_nand or_nand2 imp_and_l SealT SealOs sealO_cells sl_lit sl_any sl_agg sl_tup sl_sl sl_rsl slO sl_esl sl_nil sl_eslesl sl_eslnil sl_rslrsl sl_eslrsl sl_nilrsl sl_ptr sl_iptr sl_ptri slP sl_clo sl_mp sl_gv sll_nil sll_cons slll_nil slll_cons shut_eq shutO Option.join_none Fn.func.injEq and_self sealL_self sealLL_self seal_self PureL PureLL Pure Nat.le_refl Nat.zero_le AV.lit.injEq Value.int.injEq Value.bool.injEq false_or or_true true_or Int.natCast_zero Int.ofNat_zero Int.cast_ofNat_Int Int.natCast_add Int.natCast_one Option.some.injEq piL_is sop_nil sop_cons sop_none sop_some sopO_some sop_new shut_pi shutL_nil shutL_cons exQ_exit exQ_ret exQ_normal Go.Sim.Tryz.ty_load1 Go.Sim.Tryz.ty_zero1 Go.Sim.Tryz.ty_load2 Go.Sim.Tryz.ty_zero2 Go.Sim.Tryz.ty_und2 Go.Sim.Tryz.ty_load3 Go.Sim.Tryz.ty_zero3 Go.Sim.Tryz.ty_und3 Go.Sim.Tryz.ty_load4 Go.Sim.Tryz.ty_zero4 Go.Sim.Tryz.ty_und4 Go.Sim.Tryz.ty_load5 Go.Sim.Tryz.ty_zero5 Go.Sim.Tryz.ty_und5 Go.Sim.Tryz.ty_load9 Go.Sim.Tryz.ty_zero9 Go.Sim.Tryz.ty_und9 Go.Sim.Tryz.ty_load22 Go.Sim.Tryz.ty_zero22 Go.Sim.Tryz.ty_el22 Go.Sim.Tryz.ty_zeroE22 Go.Sim.Tryz.ty_load24 Go.Sim.Tryz.ty_zero24 Go.Sim.Tryz.ty_fld24_0 Go.Sim.Tryz.ty_part24_0 Go.Sim.Tryz.ty_struct24 Go.Sim.Tryz.ty_load25 Go.Sim.Tryz.ty_zero25 Go.Sim.Tryz.ty_el25 Go.Sim.Tryz.ty_zeroE25 Go.Sim.Tryz.ty_load26 Go.Sim.Tryz.ty_zero26 Go.Sim.Tryz.ty_el26 Go.Sim.Tryz.ty_zeroE26 Go.Sim.Tryz.ty_load28 Go.Sim.Tryz.ty_zero28 Go.Sim.Tryz.ty_fld28_0 Go.Sim.Tryz.ty_part28_0 Go.Sim.Tryz.ty_fld28_1 Go.Sim.Tryz.ty_part28_1 Go.Sim.Tryz.ty_fld28_2 Go.Sim.Tryz.ty_part28_2 Go.Sim.Tryz.ty_fld28_3 Go.Sim.Tryz.ty_part28_3 Go.Sim.Tryz.ty_fld28_4 Go.Sim.Tryz.ty_part28_4 Go.Sim.Tryz.ty_fld28_5 Go.Sim.Tryz.ty_part28_5 Go.Sim.Tryz.ty_struct28 Go.Sim.Tryz.ty_load36 Go.Sim.Tryz.ty_zero36 Go.Sim.Tryz.ty_fld36_0 Go.Sim.Tryz.ty_part36_0 Go.Sim.Tryz.ty_fld36_1 Go.Sim.Tryz.ty_part36_1 Go.Sim.Tryz.ty_struct36 Go.Sim.Tryz.ty_load38 Go.Sim.Tryz.ty_zero38 Go.Sim.Tryz.ty_fld38_0 Go.Sim.Tryz.ty_part38_0 Go.Sim.Tryz.ty_fld38_1 Go.Sim.Tryz.ty_part38_1 Go.Sim.Tryz.ty_fld38_2 Go.Sim.Tryz.ty_part38_2 Go.Sim.Tryz.ty_fld38_3 Go.Sim.Tryz.ty_part38_3 Go.Sim.Tryz.ty_struct38 Go.Sim.Tryz.ty_load48 Go.Sim.Tryz.ty_zero48 Go.Sim.Tryz.ty_el48 Go.Sim.Tryz.ty_zeroE48 Go.Sim.Tryz.ty_load51 Go.Sim.Tryz.ty_zero51 Go.Sim.Tryz.ty_arr51 Go.Sim.Tryz.ty_part51_0 Go.Sim.Tryz.ty_part51_1 Go.Sim.Tryz.ty_struct51 Go.Sim.Tryz.ty_load59 Go.Sim.Tryz.ty_zero59 Go.Sim.Tryz.ty_fld59_0 Go.Sim.Tryz.ty_part59_0 Go.Sim.Tryz.ty_fld59_1 Go.Sim.Tryz.ty_part59_1 Go.Sim.Tryz.ty_struct59 Go.Sim.Tryz.ty_load60 Go.Sim.Tryz.ty_zero60 Go.Sim.Tryz.ty_el60 Go.Sim.Tryz.ty_zeroE60 Go.Sim.Tryz.ty_load62 Go.Sim.Tryz.ty_zero62 Go.Sim.Tryz.ty_fld62_0 Go.Sim.Tryz.ty_part62_0 Go.Sim.Tryz.ty_struct62 Go.Sim.Tryz.ty_load67 Go.Sim.Tryz.ty_zero67 Go.Sim.Tryz.ty_load68 Go.Sim.Tryz.ty_zero68 Go.Sim.Tryz.ty_load75 Go.Sim.Tryz.ty_zero75 Go.Sim.Tryz.ty_load76 Go.Sim.Tryz.ty_zero76 Go.Sim.Tryz.ty_und76 Go.Sim.Tryz.ty_load82 Go.Sim.Tryz.ty_zero82 Go.Sim.Tryz.ty_und82 Go.Sim.Tryz.ty_load85 Go.Sim.Tryz.ty_zero85 Go.Sim.Tryz.ty_und85 Go.Sim.Tryz.ty_load89 Go.Sim.Tryz.ty_zero89 Go.Sim.Tryz.ty_el89 Go.Sim.Tryz.ty_zeroE89 Go.Sim.Tryz.ty_load90 Go.Sim.Tryz.ty_zero90 Go.Sim.Tryz.ty_el90 Go.Sim.Tryz.ty_zeroE90 Go.Sim.Tryz.ty_load93 Go.Sim.Tryz.ty_zero93 Go.Sim.Tryz.ty_load98 Go.Sim.Tryz.ty_zero98 Go.Sim.Tryz.ty_fld98_0 Go.Sim.Tryz.ty_part98_0 Go.Sim.Tryz.ty_fld98_1 Go.Sim.Tryz.ty_part98_1 Go.Sim.Tryz.ty_fld98_2 Go.Sim.Tryz.ty_part98_2 Go.Sim.Tryz.ty_struct98 Go.Sim.Tryz.ty_load100 Go.Sim.Tryz.ty_zero100 Go.Sim.Tryz.ty_load106 Go.Sim.Tryz.ty_zero106 Go.Sim.Tryz.ty_load110 Go.Sim.Tryz.ty_zero110 Go.Sim.Tryz.ty_und110 Go.Sim.Tryz.ty_load118 Go.Sim.Tryz.ty_zero118 Go.Sim.Tryz.ty_und118 Go.Sim.Tryz.ty_load121 Go.Sim.Tryz.ty_zero121 Go.Sim.Tryz.ty_load128 Go.Sim.Tryz.ty_zero128 Go.Sim.Tryz.ty_und128 Go.Sim.Tryz.ty_load132 Go.Sim.Tryz.ty_zero132 encE_mk encE_take encE_len encV encE_one encEs_pure encE_pure

theorem compactAll_le (ys : List Int) : (Lib.compact ys).length ≤ (compactAll ys).length := by rw [compactAll, List.length_append]; omega
theorem compact_take (zs : List Int) : (rowI (compactAll (zs.mergeSort fun x y => decide (x ≤ y)))).take (Lib.compact (zs.mergeSort fun x y => decide (x ≤ y))).length = (uniq zs).map encI := by
  have hfun : rowI = fun l : List Int => l.map encI := rfl
  rw [hfun]
  simp only [← List.map_take, compactAll, List.take_left]
  rfl
theorem ordOne_len (e : Ex) : (ordOne e).length ≤ 2 := by unfold ordOne; split <;> simp
theorem ordFlat_len : ∀ l : List Ex, (l.flatMap ordOne).length ≤ 2 * l.length
  | [] => by simp
  | e :: l => by
    rw [List.flatMap_cons, List.length_append, List.length_cons]
    have := ordOne_len e
    have := ordFlat_len l
    omega
def ordTo (q : Qy) (i : Nat) : List Int := -1 :: (q.p.take i).flatMap ordOne
theorem ordTo_zero (q : Qy) : ordTo q 0 = [-1] := rfl
theorem ordTo_len (q : Qy) (i : Nat) : (ordTo q i).length ≤ 2 * q.p.length + 1 := by
  rw [ordTo, List.length_cons]
  have := ordFlat_len (q.p.take i)
  rw [List.length_take] at this
  omega
theorem ordTo_yes (q : Qy) (i : Nat) (h : i < q.p.length) (his : q.p[i].pair.2.2 = true) : ordTo q (i + 1) = ordTo q i ++ [q.p[i].pair.1, q.p[i].pair.2.1] := by
  rw [ordTo, List.take_succ_eq_append_getElem h, List.flatMap_append, List.flatMap_cons, List.flatMap_nil, List.append_nil, ordOne, if_pos his]
  rfl
theorem ordTo_no (q : Qy) (i : Nat) (h : i < q.p.length) (his : q.p[i].pair.2.2 = false) : ordTo q (i + 1) = ordTo q i := by
  rw [ordTo, List.take_succ_eq_append_getElem h, List.flatMap_append, List.flatMap_cons, List.flatMap_nil, List.append_nil, ordOne, if_neg (by simp [his]), List.append_nil]
  rfl
theorem snoc2I (l : List Int) (x y : Int) : rowI l ++ [[.lit (.int .i64 x)], [.lit (.int .i64 y)]] = rowI (l ++ [x, y]) := by rw [rowI, rowI, List.map_append]; rfl
def ordFin (q : Qy) (j : Nat) : List Int := ordTo q q.p.length ++ (if 1 ≤ j then ordEnd q.by_ else []) ++ (if 2 ≤ j then ordEnd q.ord else [])
theorem ordFin_all (q : Qy) : ordFin q 2 = q.ordAll := by simp [ordFin, ordTo, Qy.ordAll]
theorem Orders_ok (q : Qy) (hq : q.Ok) : Quiet Go.Proofs.Tryz.prog 27 [.agg (encQ q)] (.sl (q.orders.map encI)) := by
  refine quiet_of (rs := #[.tmp 2]) Go.Proofs.Tryz.func27 rfl rfl rfl mixed rfl rfl fun H hs => ?_
  simp -implicitDefEqProofs only [push_cast, Nat.reduceAdd, Nat.reduceSub, Nat.reduceMul, Nat.reduceLT, Nat.reduceLeDiff, Nat.reduceEqDiff, Nat.reduceBEq, reduceCtorEq, reduceIte, Int.reduceLE, Int.reduceLT, Int.reduceNeg, Int.reduceToNat, encQ]
  refine loop_at hs (σ := Nat) (fun i => i ≤ q.p.length) (fun i => q.p.length - i)
    (fun i => [(15, .int i), (14, .int q.p.length), (13, .sl (q.p.map encE)), (1, .ptr (H.nxt + 0) 6 0 0), (3, .rsl (H.nxt + 1) 1 0 (ordTo q i).length)]) (fun i => [some (.cells 6 [encQ q] 0), some (.cells 1 (rowI (ordTo q i)) 0)]) [some 0, some 1] 0 (by omega) rfl ?_ ?_ ?_
  · (try simp -implicitDefEqProofs only [push_cast, Nat.reduceAdd, Nat.reduceSub, Nat.reduceMul, Nat.reduceLT, Nat.reduceLeDiff, Nat.reduceEqDiff, Nat.reduceBEq, reduceCtorEq, reduceIte, Int.reduceLE, Int.reduceLT, Int.reduceNeg, Int.reduceToNat, ordTo_zero, encEs_pure, encIs_pure, encQ])
  · (try simp -implicitDefEqProofs only [push_cast, Nat.reduceAdd, Nat.reduceSub, Nat.reduceMul, Nat.reduceLT, Nat.reduceLeDiff, Nat.reduceEqDiff, Nat.reduceBEq, reduceCtorEq, reduceIte, Int.reduceLE, Int.reduceLT, Int.reduceNeg, Int.reduceToNat, ordTo_zero, encEs_pure, encIs_pure, encQ, encI])
  intro i hi2
  have hlen := ordTo_len q i
  have hP := hq.1
  by_cases hi : i < q.p.length
  · have hi' : ((i : Int) < (q.p.length : Int)) = True := by simp; omega
    have hi0 : (0 ≤ (i : Int)) = True := by simp
    have ho := hq.2.1 _ (List.getElem_mem hi)
    simp -implicitDefEqProofs only [push_cast, Nat.reduceAdd, Nat.reduceSub, Nat.reduceMul, Nat.reduceLT, Nat.reduceLeDiff, Nat.reduceEqDiff, Nat.reduceBEq, reduceCtorEq, reduceIte, Int.reduceLE, Int.reduceLT, Int.reduceNeg, Int.reduceToNat, hi', hi0, encEs_get q.p i hi, encQ]
    refine callq (Pair_ok _ ho.1) ?_
    simp -implicitDefEqProofs only [push_cast, Nat.reduceAdd, Nat.reduceSub, Nat.reduceMul, Nat.reduceLT, Nat.reduceLeDiff, Nat.reduceEqDiff, Nat.reduceBEq, reduceCtorEq, reduceIte, Int.reduceLE, Int.reduceLT, Int.reduceNeg, Int.reduceToNat, encQ]
    refine ⟨fun his => ⟨by omega, ?_⟩, fun his => ?_⟩
    · rw [wrap64 (n := (i : Int) + 1) (by omega) (by omega)]
      refine next_at [some 0, some 4] (i + 1) (by omega) (by omega) rfl ?_ ?_
      · (try simp -implicitDefEqProofs only [push_cast, Nat.reduceAdd, Nat.reduceSub, Nat.reduceMul, Nat.reduceLT, Nat.reduceLeDiff, Nat.reduceEqDiff, Nat.reduceBEq, reduceCtorEq, reduceIte, Int.reduceLE, Int.reduceLT, Int.reduceNeg, Int.reduceToNat, ordTo_yes q i hi his, encEs_pure, encIs_pure, encQ])
      · (try simp -implicitDefEqProofs only [push_cast, Nat.reduceAdd, Nat.reduceSub, Nat.reduceMul, Nat.reduceLT, Nat.reduceLeDiff, Nat.reduceEqDiff, Nat.reduceBEq, reduceCtorEq, reduceIte, Int.reduceLE, Int.reduceLT, Int.reduceNeg, Int.reduceToNat, ordTo_yes q i hi his, encEs_pure, encIs_pure, encQ, take_rowI _ _ (Nat.le_refl _), snoc2I, rowI_pure, rowI_one])
    · rw [wrap64 (n := (i : Int) + 1) (by omega) (by omega)]
      refine next_at [some 0, some 1] (i + 1) (by omega) (by omega) rfl ?_ ?_
      · (try simp -implicitDefEqProofs only [push_cast, Nat.reduceAdd, Nat.reduceSub, Nat.reduceMul, Nat.reduceLT, Nat.reduceLeDiff, Nat.reduceEqDiff, Nat.reduceBEq, reduceCtorEq, reduceIte, Int.reduceLE, Int.reduceLT, Int.reduceNeg, Int.reduceToNat, ordTo_no q i hi his, encEs_pure, encIs_pure, encQ])
      · (try simp -implicitDefEqProofs only [push_cast, Nat.reduceAdd, Nat.reduceSub, Nat.reduceMul, Nat.reduceLT, Nat.reduceLeDiff, Nat.reduceEqDiff, Nat.reduceBEq, reduceCtorEq, reduceIte, Int.reduceLE, Int.reduceLT, Int.reduceNeg, Int.reduceToNat, ordTo_no q i hi his, encEs_pure, encIs_pure, encQ, rowI_pure, rowI_one])
  · have hi' : ((i : Int) < (q.p.length : Int)) = False := by simp; omega
    obtain rfl : i = q.p.length := by omega
    simp -implicitDefEqProofs only [push_cast, Nat.reduceAdd, Nat.reduceSub, Nat.reduceMul, Nat.reduceLT, Nat.reduceLeDiff, Nat.reduceEqDiff, Nat.reduceBEq, reduceCtorEq, reduceIte, Int.reduceLE, Int.reduceLT, Int.reduceNeg, Int.reduceToNat, hi', encQ]
    have e0 : ordFin q 0 = ordTo q q.p.length := by simp [ordFin]
    have e1 : ordFin q 1 = ordFin q 0 ++ ordEnd q.by_ := by simp [ordFin]
    have e2 : ordFin q 2 = ordFin q 1 ++ ordEnd q.ord := by simp [ordFin]
    have hy : ∀ x : Int, (decide (0 ≤ x) && decide (x ≤ 15)) = true → ordEnd x = [x] := fun x h => by
      simp only [Bool.and_eq_true, decide_eq_true_eq] at h
      rw [ordEnd, if_pos h]
    have hn : ∀ x : Int, (decide (0 ≤ x) && decide (x ≤ 15)) = false → ordEnd x = [] := fun x h => by
      rw [ordEnd, if_neg fun hh => by simp [hh] at h]
    have he : ∀ x : Int, (ordEnd x).length ≤ 1 := fun x => by unfold ordEnd; split <;> simp
    have hl : ∀ j ≤ 2, (ordFin q j).length ≤ 2 * q.p.length + 3 := fun j hj => by
      have := he q.by_
      have := he q.ord
      rw [ordFin, List.length_append, List.length_append]
      split <;> split <;> (try simp only [List.length_nil]) <;> omega
    have hl0 := hl 0 (by omega)
    have hl1 := hl 1 (by omega)
    have hl2 := hl 2 (by omega)
    refine loop_at hs (σ := Nat) (fun j => j ≤ 2) (fun j => 2 - j)
      (fun j => [(38, .int j), (37, .int 2), (36, .rsl (H.nxt + 2) 1 0 2), (3, .rsl (H.nxt + 1) 1 0 (ordFin q j).length)]) (fun j => [none, some (.cells 1 (rowI (ordFin q j)) 0), some (.cells 1 (rowI [q.by_, q.ord]) 0)]) [none, some 1, some 2] 0 (by omega) rfl ?_ ?_ ?_
    · (try simp -implicitDefEqProofs only [push_cast, Nat.reduceAdd, Nat.reduceSub, Nat.reduceMul, Nat.reduceLT, Nat.reduceLeDiff, Nat.reduceEqDiff, Nat.reduceBEq, reduceCtorEq, reduceIte, Int.reduceLE, Int.reduceLT, Int.reduceNeg, Int.reduceToNat, e0, encI, Int.reduceAdd])
    · (try simp -implicitDefEqProofs only [push_cast, Nat.reduceAdd, Nat.reduceSub, Nat.reduceMul, Nat.reduceLT, Nat.reduceLeDiff, Nat.reduceEqDiff, Nat.reduceBEq, reduceCtorEq, reduceIte, Int.reduceLE, Int.reduceLT, Int.reduceNeg, Int.reduceToNat, e0, encEs_pure, encIs_pure, encQ, rowI_pure, rowI_one, encI])
    intro j hj2
    obtain rfl | rfl | rfl : j = 0 ∨ j = 1 ∨ j = 2 := by omega
    · simp -implicitDefEqProofs only [push_cast, Nat.reduceAdd, Nat.reduceSub, Nat.reduceMul, Nat.reduceLT, Nat.reduceLeDiff, Nat.reduceEqDiff, Nat.reduceBEq, reduceCtorEq, reduceIte, Int.reduceLE, Int.reduceLT, Int.reduceNeg, Int.reduceToNat, encI, Int.reduceAdd]
      refine ⟨fun h => ⟨by omega, ?_⟩, fun h => ?_⟩
      · have e : ordFin q 1 = ordFin q 0 ++ [q.by_] := by rw [e1, hy _ h]
        rw [wrap64 (n := 1) (by omega) (by omega)]
        refine next_at [none, some 4, some 2] 1 (by omega) (by omega) rfl ?_ ?_
        · (try simp -implicitDefEqProofs only [push_cast, Nat.reduceAdd, Nat.reduceSub, Nat.reduceMul, Nat.reduceLT, Nat.reduceLeDiff, Nat.reduceEqDiff, Nat.reduceBEq, reduceCtorEq, reduceIte, Int.reduceLE, Int.reduceLT, Int.reduceNeg, Int.reduceToNat, e, encI, Int.reduceAdd])
        · (try simp -implicitDefEqProofs only [push_cast, Nat.reduceAdd, Nat.reduceSub, Nat.reduceMul, Nat.reduceLT, Nat.reduceLeDiff, Nat.reduceEqDiff, Nat.reduceBEq, reduceCtorEq, reduceIte, Int.reduceLE, Int.reduceLT, Int.reduceNeg, Int.reduceToNat, e, take_rowI _ _ (Nat.le_refl _), snocI, rowI_pure, rowI_one, encI])
      · have e : ordFin q 1 = ordFin q 0 := by rw [e1, hn _ h, List.append_nil]
        rw [wrap64 (n := 1) (by omega) (by omega)]
        refine next_at [none, some 1, some 2] 1 (by omega) (by omega) rfl ?_ ?_
        · (try simp -implicitDefEqProofs only [push_cast, Nat.reduceAdd, Nat.reduceSub, Nat.reduceMul, Nat.reduceLT, Nat.reduceLeDiff, Nat.reduceEqDiff, Nat.reduceBEq, reduceCtorEq, reduceIte, Int.reduceLE, Int.reduceLT, Int.reduceNeg, Int.reduceToNat, e, encI, Int.reduceAdd])
        · (try simp -implicitDefEqProofs only [push_cast, Nat.reduceAdd, Nat.reduceSub, Nat.reduceMul, Nat.reduceLT, Nat.reduceLeDiff, Nat.reduceEqDiff, Nat.reduceBEq, reduceCtorEq, reduceIte, Int.reduceLE, Int.reduceLT, Int.reduceNeg, Int.reduceToNat, e, rowI_pure, rowI_one, encI])
    · simp -implicitDefEqProofs only [push_cast, Nat.reduceAdd, Nat.reduceSub, Nat.reduceMul, Nat.reduceLT, Nat.reduceLeDiff, Nat.reduceEqDiff, Nat.reduceBEq, reduceCtorEq, reduceIte, Int.reduceLE, Int.reduceLT, Int.reduceNeg, Int.reduceToNat, encI, Int.reduceAdd]
      refine ⟨fun h => ⟨by omega, ?_⟩, fun h => ?_⟩
      · have e : ordFin q 2 = ordFin q 1 ++ [q.ord] := by rw [e2, hy _ h]
        rw [wrap64 (n := 2) (by omega) (by omega)]
        refine next_at [none, some 4, some 2] 2 (by omega) (by omega) rfl ?_ ?_
        · (try simp -implicitDefEqProofs only [push_cast, Nat.reduceAdd, Nat.reduceSub, Nat.reduceMul, Nat.reduceLT, Nat.reduceLeDiff, Nat.reduceEqDiff, Nat.reduceBEq, reduceCtorEq, reduceIte, Int.reduceLE, Int.reduceLT, Int.reduceNeg, Int.reduceToNat, e, encI, Int.reduceAdd])
        · (try simp -implicitDefEqProofs only [push_cast, Nat.reduceAdd, Nat.reduceSub, Nat.reduceMul, Nat.reduceLT, Nat.reduceLeDiff, Nat.reduceEqDiff, Nat.reduceBEq, reduceCtorEq, reduceIte, Int.reduceLE, Int.reduceLT, Int.reduceNeg, Int.reduceToNat, e, take_rowI _ _ (Nat.le_refl _), snocI, rowI_pure, rowI_one, encI])
      · have e : ordFin q 2 = ordFin q 1 := by rw [e2, hn _ h, List.append_nil]
        rw [wrap64 (n := 2) (by omega) (by omega)]
        refine next_at [none, some 1, some 2] 2 (by omega) (by omega) rfl ?_ ?_
        · (try simp -implicitDefEqProofs only [push_cast, Nat.reduceAdd, Nat.reduceSub, Nat.reduceMul, Nat.reduceLT, Nat.reduceLeDiff, Nat.reduceEqDiff, Nat.reduceBEq, reduceCtorEq, reduceIte, Int.reduceLE, Int.reduceLT, Int.reduceNeg, Int.reduceToNat, e, encI, Int.reduceAdd])
        · (try simp -implicitDefEqProofs only [push_cast, Nat.reduceAdd, Nat.reduceSub, Nat.reduceMul, Nat.reduceLT, Nat.reduceLeDiff, Nat.reduceEqDiff, Nat.reduceBEq, reduceCtorEq, reduceIte, Int.reduceLE, Int.reduceLT, Int.reduceNeg, Int.reduceToNat, e, rowI_pure, rowI_one, encI])
    · simp -implicitDefEqProofs only [push_cast, Nat.reduceAdd, Nat.reduceSub, Nat.reduceMul, Nat.reduceLT, Nat.reduceLeDiff, Nat.reduceEqDiff, Nat.reduceBEq, reduceCtorEq, reduceIte, Int.reduceLE, Int.reduceLT, Int.reduceNeg, Int.reduceToNat, encI, Int.reduceAdd]
      rw [Qy.orders, ← ordFin_all]
      generalize ordFin q 2 = zs at hl2 ⊢
      refine (sort_ok (i := H.nxt + 1) (zs := zs) (by omega) (by rw [plus_obj]; rfl)).mono ?_
      rintro r H3 ⟨rfl, rfl⟩
      simp -implicitDefEqProofs only [push_cast, Nat.reduceAdd, Nat.reduceSub, Nat.reduceMul, Nat.reduceLT, Nat.reduceLeDiff, Nat.reduceEqDiff, Nat.reduceBEq, reduceCtorEq, reduceIte, Int.reduceLE, Int.reduceLT, Int.reduceNeg, Int.reduceToNat]
      have hcc := compact_ok (i := H.nxt + 1) (zs := zs.mergeSort fun x y => decide (x ≤ y)) (H := H.plus [none, some (.cells 1 (rowI (zs.mergeSort fun x y => decide (x ≤ y))) 0), some (.cells 1 (rowI [q.by_, q.ord]) 0)]) (by rw [List.length_mergeSort]; omega) (by rw [plus_obj]; rfl)
      rw [List.length_mergeSort] at hcc
      refine hcc.mono ?_
      rintro r H3 ⟨rfl, rfl⟩
      simp -implicitDefEqProofs only [push_cast, Nat.reduceAdd, Nat.reduceSub, Nat.reduceMul, Nat.reduceLT, Nat.reduceLeDiff, Nat.reduceEqDiff, Nat.reduceBEq, reduceCtorEq, reduceIte, Int.reduceLE, Int.reduceLT, Int.reduceNeg, Int.reduceToNat]
      exact ⟨compactAll_le _, by rw [compact_take]; exact sealLL_pure _ _ _ (encIs_pure _)⟩
end Go.Sim.Tryz
set_option linter.unusedSimpArgs false
set_option linter.unusedVariables false
set_option maxRecDepth 100000
namespace Go.Sim.Tryz
open Go Go.Sim
attribute [local push_cast] aops_cons aops_nil aopG_none aopG_some aopP_eq aopE_eq aopC_eq aopE?_eq aopC?_eq aopB_eq aopB?_eq abr anilq gopP_eq gopL_eq ahead_cons ahead_nil ahdG_none ahdG_some ahdP_eq ahdN_eq ahdC_eq ahdN?_eq ahdS_eq ahdS?_eq astoreN ahdC?_eq ghdP_eq ghdC_eq ghdC?_eq ghdZ_f ghdZ_t ahdI_eq ahdI?_eq ghdN?_eq aim_nil aim_cons isIn_nil isIn_none isIn_cons aimm aheP_eq aheA_eq aheC_eq aheC?_eq aheI?_eq aheA?_eq gheP_eq gheC_eq gheC?_eq gheZ_eq aheG_none aheG_some aheff_cons aheff_nil aapp gro_rsl gro_lit gro_esl opt_some opt_none no_eq acondT_true acondT_false acondT_lit aw_skip aw_region aw_regionD aw_seq aw_cond aw_block aw_loop aw_exit aw_label aw_ret thn_normal thn_exit thn_ret inb_normal inb_exit inb_ret qret_ret qret_normal gcond apure aeff anew acallee ares aresT aresL aresC ares1 qfin_eq ev ofV evL gokL tget tput_some tput_none initT abin aint aun aload afaddr aiaddr afield aindex aextract apick pickv_lit Bool.or_false Bool.false_or Bool.or_true Bool.true_or imp_self aslice chunk abound aconv abuild afill splice alen aminmax abuiltin anil apart Value.oneCell' astore aappend srcEs abuildSlice asets isEq plus_obj plus_nxt plus_add plus_set plus_del IntKind.bits Option.map_some Option.map_none Option.bind_some Option.bind_none Option.join_some Option.getD_some Option.getD_none Option.toList Option.isSome_some List.getElem?_toArray List.getElem?_cons_zero List.getElem?_cons_succ List.getElem?_nil List.length_cons List.length_nil List.length_map List.head?_cons List.cons_append List.nil_append List.append_nil List.map_cons List.map_nil List.getD_cons_zero List.getD_cons_succ List.replicate_succ List.replicate_zero List.set_cons_zero List.set_cons_succ List.take_succ_cons List.take_zero List.drop_succ_cons List.drop_zero List.all_cons List.all_nil Nat.zero_add if_true if_false true_and and_true false_and and_false true_implies implies_true forall_const Bool.and_true Bool.true_and Bool.false_and Bool.and_false Bool.true_beq Bool.false_beq Bool.not_not beq_tt beq_ff Int.toNat_natCast decide_true decide_false Bool.not_true Bool.not_false Bool.true_eq_false Bool.false_eq_true false_implies exists_prop eq_self bne_self_eq_false beq_self_eq_true decide_eq_true_eq decide_eq_false_iff_not Bool.not_eq_true' Bool.not_eq_false' AV.int AV.bool AV.nilS ne_eq not_false_eq_true not_true_eq_false exists_eq_left exists_eq_left' Nat.lt_irrefl core_lit grd_lit acells_lit one_lit core_agg grd_agg acells_agg one_agg core_tup grd_tup acells_tup one_tup core_sl grd_sl acells_sl one_sl core_esl grd_esl acells_esl one_esl core_rsl grd_rsl acells_rsl one_rsl core_ptr grd_ptr acells_ptr one_ptr core_iptr grd_iptr acells_iptr one_iptr core_clo grd_clo acells_clo one_clo core_mp grd_mp acells_mp one_mp core_any grd_any acells_any one_any core_gv grd_gv fit_agg fit_lit fit_sl fit_esl fit_rsl fit_ptr fit_iptr fit_clo fit_mp retq_ret retq_normal set_nxt set_set plus_obj_set plus_set_set app_get0 app_get app_set0 app_set List.append_assoc List.length_append List.length_set Nat.lt_add_one Nat.add_lt_add_iff_right Nat.lt_add_right_iff_pos Nat.add_lt_add_iff_left List.mem_cons List.not_mem_nil or_false forall_eq forall_eq_or_imp lt_s0 lt_s1 lt_s2 lt_s3 lt_s4 lt_s5 lt_s6 lt_s7 lt_s8 pickv_t pickv_f or_nand or_nand2 imp_and_l SealT SealOs sealO_cells sl_lit sl_any sl_agg sl_tup sl_sl sl_rsl slO sl_esl sl_nil sl_eslesl sl_eslnil sl_rslrsl sl_eslrsl sl_nilrsl sl_ptr sl_iptr sl_ptri slP sl_clo sl_mp sl_gv sll_nil sll_cons slll_nil slll_cons shut_eq shutO Option.join_none Fn.func.injEq and_self sealL_self sealLL_self seal_self PureL PureLL Pure Nat.le_refl Nat.zero_le AV.lit.injEq Value.int.injEq Value.bool.injEq false_or or_true true_or Int.natCast_zero Int.ofNat_zero Int.cast_ofNat_Int Int.natCast_add Int.natCast_one Option.some.injEq piL_is sop_nil sop_cons sop_none sop_some sopO_some sop_new shut_pi shutL_nil shutL_cons exQ_exit exQ_ret exQ_normal Go.Sim.Tryz.ty_load1 Go.Sim.Tryz.ty_zero1 Go.Sim.Tryz.ty_load2 Go.Sim.Tryz.ty_zero2 Go.Sim.Tryz.ty_und2 Go.Sim.Tryz.ty_load3 Go.Sim.Tryz.ty_zero3 Go.Sim.Tryz.ty_und3 Go.Sim.Tryz.ty_load4 Go.Sim.Tryz.ty_zero4 Go.Sim.Tryz.ty_und4 Go.Sim.Tryz.ty_load5 Go.Sim.Tryz.ty_zero5 Go.Sim.Tryz.ty_und5 Go.Sim.Tryz.ty_load9 Go.Sim.Tryz.ty_zero9 Go.Sim.Tryz.ty_und9 Go.Sim.Tryz.ty_load22 Go.Sim.Tryz.ty_zero22 Go.Sim.Tryz.ty_el22 Go.Sim.Tryz.ty_zeroE22 Go.Sim.Tryz.ty_load24 Go.Sim.Tryz.ty_zero24 Go.Sim.Tryz.ty_fld24_0 Go.Sim.Tryz.ty_part24_0 Go.Sim.Tryz.ty_struct24 Go.Sim.Tryz.ty_load25 Go.Sim.Tryz.ty_zero25 Go.Sim.Tryz.ty_el25 Go.Sim.Tryz.ty_zeroE25 Go.Sim.Tryz.ty_load26 Go.Sim.Tryz.ty_zero26 Go.Sim.Tryz.ty_el26 Go.Sim.Tryz.ty_zeroE26 Go.Sim.Tryz.ty_load28 Go.Sim.Tryz.ty_zero28 Go.Sim.Tryz.ty_fld28_0 Go.Sim.Tryz.ty_part28_0 Go.Sim.Tryz.ty_fld28_1 Go.Sim.Tryz.ty_part28_1 Go.Sim.Tryz.ty_fld28_2 Go.Sim.Tryz.ty_part28_2 Go.Sim.Tryz.ty_fld28_3 Go.Sim.Tryz.ty_part28_3 Go.Sim.Tryz.ty_fld28_4 Go.Sim.Tryz.ty_part28_4 Go.Sim.Tryz.ty_fld28_5 Go.Sim.Tryz.ty_part28_5 Go.Sim.Tryz.ty_struct28 Go.Sim.Tryz.ty_load36 Go.Sim.Tryz.ty_zero36 Go.Sim.Tryz.ty_fld36_0 Go.Sim.Tryz.ty_part36_0 Go.Sim.Tryz.ty_fld36_1 Go.Sim.Tryz.ty_part36_1 Go.Sim.Tryz.ty_struct36 Go.Sim.Tryz.ty_load38 Go.Sim.Tryz.ty_zero38 Go.Sim.Tryz.ty_fld38_0 Go.Sim.Tryz.ty_part38_0 Go.Sim.Tryz.ty_fld38_1 Go.Sim.Tryz.ty_part38_1 Go.Sim.Tryz.ty_fld38_2 Go.Sim.Tryz.ty_part38_2 Go.Sim.Tryz.ty_fld38_3 Go.Sim.Tryz.ty_part38_3 Go.Sim.Tryz.ty_struct38 Go.Sim.Tryz.ty_load48 Go.Sim.Tryz.ty_zero48 Go.Sim.Tryz.ty_el48 Go.Sim.Tryz.ty_zeroE48 Go.Sim.Tryz.ty_load51 Go.Sim.Tryz.ty_zero51 Go.Sim.Tryz.ty_arr51 Go.Sim.Tryz.ty_part51_0 Go.Sim.Tryz.ty_part51_1 Go.Sim.Tryz.ty_struct51 Go.Sim.Tryz.ty_load59 Go.Sim.Tryz.ty_zero59 Go.Sim.Tryz.ty_fld59_0 Go.Sim.Tryz.ty_part59_0 Go.Sim.Tryz.ty_fld59_1 Go.Sim.Tryz.ty_part59_1 Go.Sim.Tryz.ty_struct59 Go.Sim.Tryz.ty_load60 Go.Sim.Tryz.ty_zero60 Go.Sim.Tryz.ty_el60 Go.Sim.Tryz.ty_zeroE60 Go.Sim.Tryz.ty_load62 Go.Sim.Tryz.ty_zero62 Go.Sim.Tryz.ty_fld62_0 Go.Sim.Tryz.ty_part62_0 Go.Sim.Tryz.ty_struct62 Go.Sim.Tryz.ty_load67 Go.Sim.Tryz.ty_zero67 Go.Sim.Tryz.ty_load68 Go.Sim.Tryz.ty_zero68 Go.Sim.Tryz.ty_load75 Go.Sim.Tryz.ty_zero75 Go.Sim.Tryz.ty_load76 Go.Sim.Tryz.ty_zero76 Go.Sim.Tryz.ty_und76 Go.Sim.Tryz.ty_load82 Go.Sim.Tryz.ty_zero82 Go.Sim.Tryz.ty_und82 Go.Sim.Tryz.ty_load85 Go.Sim.Tryz.ty_zero85 Go.Sim.Tryz.ty_und85 Go.Sim.Tryz.ty_load89 Go.Sim.Tryz.ty_zero89 Go.Sim.Tryz.ty_el89 Go.Sim.Tryz.ty_zeroE89 Go.Sim.Tryz.ty_load90 Go.Sim.Tryz.ty_zero90 Go.Sim.Tryz.ty_el90 Go.Sim.Tryz.ty_zeroE90 Go.Sim.Tryz.ty_load93 Go.Sim.Tryz.ty_zero93 Go.Sim.Tryz.ty_load98 Go.Sim.Tryz.ty_zero98 Go.Sim.Tryz.ty_fld98_0 Go.Sim.Tryz.ty_part98_0 Go.Sim.Tryz.ty_fld98_1 Go.Sim.Tryz.ty_part98_1 Go.Sim.Tryz.ty_fld98_2 Go.Sim.Tryz.ty_part98_2 Go.Sim.Tryz.ty_struct98 Go.Sim.Tryz.ty_load100 Go.Sim.Tryz.ty_zero100 Go.Sim.Tryz.ty_load106 Go.Sim.Tryz.ty_zero106 Go.Sim.Tryz.ty_load110 Go.Sim.Tryz.ty_zero110 Go.Sim.Tryz.ty_und110 Go.Sim.Tryz.ty_load118 Go.Sim.Tryz.ty_zero118 Go.Sim.Tryz.ty_und118 Go.Sim.Tryz.ty_load121 Go.Sim.Tryz.ty_zero121 Go.Sim.Tryz.ty_load128 Go.Sim.Tryz.ty_zero128 Go.Sim.Tryz.ty_und128 Go.Sim.Tryz.ty_load132 Go.Sim.Tryz.ty_zero132 encE_mk encE_take encE_len encV encE_one encEs_pure encE_pure
/-- Each number of it is one of 64 bits. -/
inductive Ex.In : Ex → Prop
  | mk {op col k n : Int} {l : List Ex} (h1 : In64 n) (h2 : ∀ x ∈ l, x.In) : Ex.In (.mk op col k n l)
end Go.Sim.Tryz
set_option linter.unusedSimpArgs false
set_option linter.unusedVariables false
set_option maxRecDepth 100000
namespace Go.Sim.Tryz
open Go Go.Sim
attribute [local push_cast] aops_cons aops_nil aopG_none aopG_some aopP_eq aopE_eq aopC_eq aopE?_eq aopC?_eq aopB_eq aopB?_eq abr anilq gopP_eq gopL_eq ahead_cons ahead_nil ahdG_none ahdG_some ahdP_eq ahdN_eq ahdC_eq ahdN?_eq ahdS_eq ahdS?_eq astoreN ahdC?_eq ghdP_eq ghdC_eq ghdC?_eq ghdZ_f ghdZ_t ahdI_eq ahdI?_eq ghdN?_eq aim_nil aim_cons isIn_nil isIn_none isIn_cons aimm aheP_eq aheA_eq aheC_eq aheC?_eq aheI?_eq aheA?_eq gheP_eq gheC_eq gheC?_eq gheZ_eq aheG_none aheG_some aheff_cons aheff_nil aapp gro_rsl gro_lit gro_esl opt_some opt_none no_eq acondT_true acondT_false acondT_lit aw_skip aw_region aw_regionD aw_seq aw_cond aw_block aw_loop aw_exit aw_label aw_ret thn_normal thn_exit thn_ret inb_normal inb_exit inb_ret qret_ret qret_normal gcond apure aeff anew acallee ares aresT aresL aresC ares1 qfin_eq ev ofV evL gokL tget tput_some tput_none initT abin aint aun aload afaddr aiaddr afield aindex aextract apick pickv_lit Bool.or_false Bool.false_or Bool.or_true Bool.true_or imp_self aslice chunk abound aconv abuild afill splice alen aminmax abuiltin anil apart Value.oneCell' astore aappend srcEs abuildSlice asets isEq plus_obj plus_nxt plus_add plus_set plus_del IntKind.bits Option.map_some Option.map_none Option.bind_some Option.bind_none Option.join_some Option.getD_some Option.getD_none Option.toList Option.isSome_some List.getElem?_toArray List.getElem?_cons_zero List.getElem?_cons_succ List.getElem?_nil List.length_cons List.length_nil List.length_map List.head?_cons List.cons_append List.nil_append List.append_nil List.map_cons List.map_nil List.getD_cons_zero List.getD_cons_succ List.replicate_succ List.replicate_zero List.set_cons_zero List.set_cons_succ List.take_succ_cons List.take_zero List.drop_succ_cons List.drop_zero List.all_cons List.all_nil Nat.zero_add if_true if_false true_and and_true false_and and_false true_implies implies_true forall_const Bool.and_true Bool.true_and Bool.false_and Bool.and_false Bool.true_beq Bool.false_beq Bool.not_not beq_tt beq_ff Int.toNat_natCast decide_true decide_false Bool.not_true Bool.not_false Bool.true_eq_false Bool.false_eq_true false_implies exists_prop eq_self bne_self_eq_false beq_self_eq_true decide_eq_true_eq decide_eq_false_iff_not Bool.not_eq_true' Bool.not_eq_false' AV.int AV.bool AV.nilS ne_eq not_false_eq_true not_true_eq_false exists_eq_left exists_eq_left' Nat.lt_irrefl core_lit grd_lit acells_lit one_lit core_agg grd_agg acells_agg one_agg core_tup grd_tup acells_tup one_tup core_sl grd_sl acells_sl one_sl core_esl grd_esl acells_esl one_esl core_rsl grd_rsl acells_rsl one_rsl core_ptr grd_ptr acells_ptr one_ptr core_iptr grd_iptr acells_iptr one_iptr core_clo grd_clo acells_clo one_clo core_mp grd_mp acells_mp one_mp core_any grd_any acells_any one_any core_gv grd_gv fit_agg fit_lit fit_sl fit_esl fit_rsl fit_ptr fit_iptr fit_clo fit_mp retq_ret retq_normal set_nxt set_set plus_obj_set plus_set_set app_get0 app_get app_set0 app_set List.append_assoc List.length_append List.length_set Nat.lt_add_one Nat.add_lt_add_iff_right Nat.lt_add_right_iff_pos Nat.add_lt_add_iff_left List.mem_cons List.not_mem_nil or_false forall_eq forall_eq_or_imp lt_s0 lt_s1 lt_s2 lt_s3 lt_s4 lt_s5 lt_s6 lt_s7 lt_s8 pickv_t pickv_f or_nand or_nand2 imp_and_l SealT SealOs sealO_cells sl_lit sl_any sl_agg sl_tup sl_sl sl_rsl slO sl_esl sl_nil sl_eslesl sl_eslnil sl_rslrsl sl_eslrsl sl_nilrsl sl_ptr sl_iptr sl_ptri slP sl_clo sl_mp sl_gv sll_nil sll_cons slll_nil slll_cons shut_eq shutO Option.join_none Fn.func.injEq and_self sealL_self sealLL_self seal_self PureL PureLL Pure Nat.le_refl Nat.zero_le AV.lit.injEq Value.int.injEq Value.bool.injEq false_or or_true true_or Int.natCast_zero Int.ofNat_zero Int.cast_ofNat_Int Int.natCast_add Int.natCast_one Option.some.injEq piL_is sop_nil sop_cons sop_none sop_some sopO_some sop_new shut_pi shutL_nil shutL_cons exQ_exit exQ_ret exQ_normal Go.Sim.Tryz.ty_load1 Go.Sim.Tryz.ty_zero1 Go.Sim.Tryz.ty_load2 Go.Sim.Tryz.ty_zero2 Go.Sim.Tryz.ty_und2 Go.Sim.Tryz.ty_load3 Go.Sim.Tryz.ty_zero3 Go.Sim.Tryz.ty_und3 Go.Sim.Tryz.ty_load4 Go.Sim.Tryz.ty_zero4 Go.Sim.Tryz.ty_und4 Go.Sim.Tryz.ty_load5 Go.Sim.Tryz.ty_zero5 Go.Sim.Tryz.ty_und5 Go.Sim.Tryz.ty_load9 Go.Sim.Tryz.ty_zero9 Go.Sim.Tryz.ty_und9 Go.Sim.Tryz.ty_load22 Go.Sim.Tryz.ty_zero22 Go.Sim.Tryz.ty_el22 Go.Sim.Tryz.ty_zeroE22 Go.Sim.Tryz.ty_load24 Go.Sim.Tryz.ty_zero24 Go.Sim.Tryz.ty_fld24_0 Go.Sim.Tryz.ty_part24_0 Go.Sim.Tryz.ty_struct24 Go.Sim.Tryz.ty_load25 Go.Sim.Tryz.ty_zero25 Go.Sim.Tryz.ty_el25 Go.Sim.Tryz.ty_zeroE25 Go.Sim.Tryz.ty_load26 Go.Sim.Tryz.ty_zero26 Go.Sim.Tryz.ty_el26 Go.Sim.Tryz.ty_zeroE26 Go.Sim.Tryz.ty_load28 Go.Sim.Tryz.ty_zero28 Go.Sim.Tryz.ty_fld28_0 Go.Sim.Tryz.ty_part28_0 Go.Sim.Tryz.ty_fld28_1 Go.Sim.Tryz.ty_part28_1 Go.Sim.Tryz.ty_fld28_2 Go.Sim.Tryz.ty_part28_2 Go.Sim.Tryz.ty_fld28_3 Go.Sim.Tryz.ty_part28_3 Go.Sim.Tryz.ty_fld28_4 Go.Sim.Tryz.ty_part28_4 Go.Sim.Tryz.ty_fld28_5 Go.Sim.Tryz.ty_part28_5 Go.Sim.Tryz.ty_struct28 Go.Sim.Tryz.ty_load36 Go.Sim.Tryz.ty_zero36 Go.Sim.Tryz.ty_fld36_0 Go.Sim.Tryz.ty_part36_0 Go.Sim.Tryz.ty_fld36_1 Go.Sim.Tryz.ty_part36_1 Go.Sim.Tryz.ty_struct36 Go.Sim.Tryz.ty_load38 Go.Sim.Tryz.ty_zero38 Go.Sim.Tryz.ty_fld38_0 Go.Sim.Tryz.ty_part38_0 Go.Sim.Tryz.ty_fld38_1 Go.Sim.Tryz.ty_part38_1 Go.Sim.Tryz.ty_fld38_2 Go.Sim.Tryz.ty_part38_2 Go.Sim.Tryz.ty_fld38_3 Go.Sim.Tryz.ty_part38_3 Go.Sim.Tryz.ty_struct38 Go.Sim.Tryz.ty_load48 Go.Sim.Tryz.ty_zero48 Go.Sim.Tryz.ty_el48 Go.Sim.Tryz.ty_zeroE48 Go.Sim.Tryz.ty_load51 Go.Sim.Tryz.ty_zero51 Go.Sim.Tryz.ty_arr51 Go.Sim.Tryz.ty_part51_0 Go.Sim.Tryz.ty_part51_1 Go.Sim.Tryz.ty_struct51 Go.Sim.Tryz.ty_load59 Go.Sim.Tryz.ty_zero59 Go.Sim.Tryz.ty_fld59_0 Go.Sim.Tryz.ty_part59_0 Go.Sim.Tryz.ty_fld59_1 Go.Sim.Tryz.ty_part59_1 Go.Sim.Tryz.ty_struct59 Go.Sim.Tryz.ty_load60 Go.Sim.Tryz.ty_zero60 Go.Sim.Tryz.ty_el60 Go.Sim.Tryz.ty_zeroE60 Go.Sim.Tryz.ty_load62 Go.Sim.Tryz.ty_zero62 Go.Sim.Tryz.ty_fld62_0 Go.Sim.Tryz.ty_part62_0 Go.Sim.Tryz.ty_struct62 Go.Sim.Tryz.ty_load67 Go.Sim.Tryz.ty_zero67 Go.Sim.Tryz.ty_load68 Go.Sim.Tryz.ty_zero68 Go.Sim.Tryz.ty_load75 Go.Sim.Tryz.ty_zero75 Go.Sim.Tryz.ty_load76 Go.Sim.Tryz.ty_zero76 Go.Sim.Tryz.ty_und76 Go.Sim.Tryz.ty_load82 Go.Sim.Tryz.ty_zero82 Go.Sim.Tryz.ty_und82 Go.Sim.Tryz.ty_load85 Go.Sim.Tryz.ty_zero85 Go.Sim.Tryz.ty_und85 Go.Sim.Tryz.ty_load89 Go.Sim.Tryz.ty_zero89 Go.Sim.Tryz.ty_el89 Go.Sim.Tryz.ty_zeroE89 Go.Sim.Tryz.ty_load90 Go.Sim.Tryz.ty_zero90 Go.Sim.Tryz.ty_el90 Go.Sim.Tryz.ty_zeroE90 Go.Sim.Tryz.ty_load93 Go.Sim.Tryz.ty_zero93 Go.Sim.Tryz.ty_load98 Go.Sim.Tryz.ty_zero98 Go.Sim.Tryz.ty_fld98_0 Go.Sim.Tryz.ty_part98_0 Go.Sim.Tryz.ty_fld98_1 Go.Sim.Tryz.ty_part98_1 Go.Sim.Tryz.ty_fld98_2 Go.Sim.Tryz.ty_part98_2 Go.Sim.Tryz.ty_struct98 Go.Sim.Tryz.ty_load100 Go.Sim.Tryz.ty_zero100 Go.Sim.Tryz.ty_load106 Go.Sim.Tryz.ty_zero106 Go.Sim.Tryz.ty_load110 Go.Sim.Tryz.ty_zero110 Go.Sim.Tryz.ty_und110 Go.Sim.Tryz.ty_load118 Go.Sim.Tryz.ty_zero118 Go.Sim.Tryz.ty_und118 Go.Sim.Tryz.ty_load121 Go.Sim.Tryz.ty_zero121 Go.Sim.Tryz.ty_load128 Go.Sim.Tryz.ty_zero128 Go.Sim.Tryz.ty_und128 Go.Sim.Tryz.ty_load132 Go.Sim.Tryz.ty_zero132 encE_mk encE_take encE_len encV encE_one encEs_pure encE_pure

def Qy.In (q : Qy) : Prop := (∀ x ∈ q.out, In64 x) ∧ (∀ x ∈ q.sums, In64 x) ∧ In64 q.by_
end Go.Sim.Tryz
set_option linter.unusedSimpArgs false
set_option linter.unusedVariables false
set_option maxRecDepth 100000
namespace Go.Sim.Tryz
open Go Go.Sim
attribute [local push_cast] aops_cons aops_nil aopG_none aopG_some aopP_eq aopE_eq aopC_eq aopE?_eq aopC?_eq aopB_eq aopB?_eq abr anilq gopP_eq gopL_eq ahead_cons ahead_nil ahdG_none ahdG_some ahdP_eq ahdN_eq ahdC_eq ahdN?_eq ahdS_eq ahdS?_eq astoreN ahdC?_eq ghdP_eq ghdC_eq ghdC?_eq ghdZ_f ghdZ_t ahdI_eq ahdI?_eq ghdN?_eq aim_nil aim_cons isIn_nil isIn_none isIn_cons aimm aheP_eq aheA_eq aheC_eq aheC?_eq aheI?_eq aheA?_eq gheP_eq gheC_eq gheC?_eq gheZ_eq aheG_none aheG_some aheff_cons aheff_nil aapp gro_rsl gro_lit gro_esl opt_some opt_none no_eq acondT_true acondT_false acondT_lit aw_skip aw_region aw_regionD aw_seq aw_cond aw_block aw_loop aw_exit aw_label aw_ret thn_normal thn_exit thn_ret inb_normal inb_exit inb_ret qret_ret qret_normal gcond apure aeff anew acallee ares aresT aresL aresC ares1 qfin_eq ev ofV evL gokL tget tput_some tput_none initT abin aint aun aload afaddr aiaddr afield aindex aextract apick pickv_lit Bool.or_false Bool.false_or Bool.or_true Bool.true_or imp_self aslice chunk abound aconv abuild afill splice alen aminmax abuiltin anil apart Value.oneCell' astore aappend srcEs abuildSlice asets isEq plus_obj plus_nxt plus_add plus_set plus_del IntKind.bits Option.map_some Option.map_none Option.bind_some Option.bind_none Option.join_some Option.getD_some Option.getD_none Option.toList Option.isSome_some List.getElem?_toArray List.getElem?_cons_zero List.getElem?_cons_succ List.getElem?_nil List.length_cons List.length_nil List.length_map List.head?_cons List.cons_append List.nil_append List.append_nil List.map_cons List.map_nil List.getD_cons_zero List.getD_cons_succ List.replicate_succ List.replicate_zero List.set_cons_zero List.set_cons_succ List.take_succ_cons List.take_zero List.drop_succ_cons List.drop_zero List.all_cons List.all_nil Nat.zero_add if_true if_false true_and and_true false_and and_false true_implies implies_true forall_const Bool.and_true Bool.true_and Bool.false_and Bool.and_false Bool.true_beq Bool.false_beq Bool.not_not beq_tt beq_ff Int.toNat_natCast decide_true decide_false Bool.not_true Bool.not_false Bool.true_eq_false Bool.false_eq_true false_implies exists_prop eq_self bne_self_eq_false beq_self_eq_true decide_eq_true_eq decide_eq_false_iff_not Bool.not_eq_true' Bool.not_eq_false' AV.int AV.bool AV.nilS ne_eq not_false_eq_true not_true_eq_false exists_eq_left exists_eq_left' Nat.lt_irrefl core_lit grd_lit acells_lit one_lit core_agg grd_agg acells_agg one_agg core_tup grd_tup acells_tup one_tup core_sl grd_sl acells_sl one_sl core_esl grd_esl acells_esl one_esl core_rsl grd_rsl acells_rsl one_rsl core_ptr grd_ptr acells_ptr one_ptr core_iptr grd_iptr acells_iptr one_iptr core_clo grd_clo acells_clo one_clo core_mp grd_mp acells_mp one_mp core_any grd_any acells_any one_any core_gv grd_gv fit_agg fit_lit fit_sl fit_esl fit_rsl fit_ptr fit_iptr fit_clo fit_mp retq_ret retq_normal set_nxt set_set plus_obj_set plus_set_set app_get0 app_get app_set0 app_set List.append_assoc List.length_append List.length_set Nat.lt_add_one Nat.add_lt_add_iff_right Nat.lt_add_right_iff_pos Nat.add_lt_add_iff_left List.mem_cons List.not_mem_nil or_false forall_eq forall_eq_or_imp lt_s0 lt_s1 lt_s2 lt_s3 lt_s4 lt_s5 lt_s6 lt_s7 lt_s8 pickv_t pickv_f or_nand or_nand2 imp_and_l SealT SealOs sealO_cells sl_lit sl_any sl_agg sl_tup sl_sl sl_rsl slO sl_esl sl_nil sl_eslesl sl_eslnil sl_rslrsl sl_eslrsl sl_nilrsl sl_ptr sl_iptr sl_ptri slP sl_clo sl_mp sl_gv sll_nil sll_cons slll_nil slll_cons shut_eq shutO Option.join_none Fn.func.injEq and_self sealL_self sealLL_self seal_self PureL PureLL Pure Nat.le_refl Nat.zero_le AV.lit.injEq Value.int.injEq Value.bool.injEq false_or or_true true_or Int.natCast_zero Int.ofNat_zero Int.cast_ofNat_Int Int.natCast_add Int.natCast_one Option.some.injEq piL_is sop_nil sop_cons sop_none sop_some sopO_some sop_new shut_pi shutL_nil shutL_cons exQ_exit exQ_ret exQ_normal Go.Sim.Tryz.ty_load1 Go.Sim.Tryz.ty_zero1 Go.Sim.Tryz.ty_load2 Go.Sim.Tryz.ty_zero2 Go.Sim.Tryz.ty_und2 Go.Sim.Tryz.ty_load3 Go.Sim.Tryz.ty_zero3 Go.Sim.Tryz.ty_und3 Go.Sim.Tryz.ty_load4 Go.Sim.Tryz.ty_zero4 Go.Sim.Tryz.ty_und4 Go.Sim.Tryz.ty_load5 Go.Sim.Tryz.ty_zero5 Go.Sim.Tryz.ty_und5 Go.Sim.Tryz.ty_load9 Go.Sim.Tryz.ty_zero9 Go.Sim.Tryz.ty_und9 Go.Sim.Tryz.ty_load22 Go.Sim.Tryz.ty_zero22 Go.Sim.Tryz.ty_el22 Go.Sim.Tryz.ty_zeroE22 Go.Sim.Tryz.ty_load24 Go.Sim.Tryz.ty_zero24 Go.Sim.Tryz.ty_fld24_0 Go.Sim.Tryz.ty_part24_0 Go.Sim.Tryz.ty_struct24 Go.Sim.Tryz.ty_load25 Go.Sim.Tryz.ty_zero25 Go.Sim.Tryz.ty_el25 Go.Sim.Tryz.ty_zeroE25 Go.Sim.Tryz.ty_load26 Go.Sim.Tryz.ty_zero26 Go.Sim.Tryz.ty_el26 Go.Sim.Tryz.ty_zeroE26 Go.Sim.Tryz.ty_load28 Go.Sim.Tryz.ty_zero28 Go.Sim.Tryz.ty_fld28_0 Go.Sim.Tryz.ty_part28_0 Go.Sim.Tryz.ty_fld28_1 Go.Sim.Tryz.ty_part28_1 Go.Sim.Tryz.ty_fld28_2 Go.Sim.Tryz.ty_part28_2 Go.Sim.Tryz.ty_fld28_3 Go.Sim.Tryz.ty_part28_3 Go.Sim.Tryz.ty_fld28_4 Go.Sim.Tryz.ty_part28_4 Go.Sim.Tryz.ty_fld28_5 Go.Sim.Tryz.ty_part28_5 Go.Sim.Tryz.ty_struct28 Go.Sim.Tryz.ty_load36 Go.Sim.Tryz.ty_zero36 Go.Sim.Tryz.ty_fld36_0 Go.Sim.Tryz.ty_part36_0 Go.Sim.Tryz.ty_fld36_1 Go.Sim.Tryz.ty_part36_1 Go.Sim.Tryz.ty_struct36 Go.Sim.Tryz.ty_load38 Go.Sim.Tryz.ty_zero38 Go.Sim.Tryz.ty_fld38_0 Go.Sim.Tryz.ty_part38_0 Go.Sim.Tryz.ty_fld38_1 Go.Sim.Tryz.ty_part38_1 Go.Sim.Tryz.ty_fld38_2 Go.Sim.Tryz.ty_part38_2 Go.Sim.Tryz.ty_fld38_3 Go.Sim.Tryz.ty_part38_3 Go.Sim.Tryz.ty_struct38 Go.Sim.Tryz.ty_load48 Go.Sim.Tryz.ty_zero48 Go.Sim.Tryz.ty_el48 Go.Sim.Tryz.ty_zeroE48 Go.Sim.Tryz.ty_load51 Go.Sim.Tryz.ty_zero51 Go.Sim.Tryz.ty_arr51 Go.Sim.Tryz.ty_part51_0 Go.Sim.Tryz.ty_part51_1 Go.Sim.Tryz.ty_struct51 Go.Sim.Tryz.ty_load59 Go.Sim.Tryz.ty_zero59 Go.Sim.Tryz.ty_fld59_0 Go.Sim.Tryz.ty_part59_0 Go.Sim.Tryz.ty_fld59_1 Go.Sim.Tryz.ty_part59_1 Go.Sim.Tryz.ty_struct59 Go.Sim.Tryz.ty_load60 Go.Sim.Tryz.ty_zero60 Go.Sim.Tryz.ty_el60 Go.Sim.Tryz.ty_zeroE60 Go.Sim.Tryz.ty_load62 Go.Sim.Tryz.ty_zero62 Go.Sim.Tryz.ty_fld62_0 Go.Sim.Tryz.ty_part62_0 Go.Sim.Tryz.ty_struct62 Go.Sim.Tryz.ty_load67 Go.Sim.Tryz.ty_zero67 Go.Sim.Tryz.ty_load68 Go.Sim.Tryz.ty_zero68 Go.Sim.Tryz.ty_load75 Go.Sim.Tryz.ty_zero75 Go.Sim.Tryz.ty_load76 Go.Sim.Tryz.ty_zero76 Go.Sim.Tryz.ty_und76 Go.Sim.Tryz.ty_load82 Go.Sim.Tryz.ty_zero82 Go.Sim.Tryz.ty_und82 Go.Sim.Tryz.ty_load85 Go.Sim.Tryz.ty_zero85 Go.Sim.Tryz.ty_und85 Go.Sim.Tryz.ty_load89 Go.Sim.Tryz.ty_zero89 Go.Sim.Tryz.ty_el89 Go.Sim.Tryz.ty_zeroE89 Go.Sim.Tryz.ty_load90 Go.Sim.Tryz.ty_zero90 Go.Sim.Tryz.ty_el90 Go.Sim.Tryz.ty_zeroE90 Go.Sim.Tryz.ty_load93 Go.Sim.Tryz.ty_zero93 Go.Sim.Tryz.ty_load98 Go.Sim.Tryz.ty_zero98 Go.Sim.Tryz.ty_fld98_0 Go.Sim.Tryz.ty_part98_0 Go.Sim.Tryz.ty_fld98_1 Go.Sim.Tryz.ty_part98_1 Go.Sim.Tryz.ty_fld98_2 Go.Sim.Tryz.ty_part98_2 Go.Sim.Tryz.ty_struct98 Go.Sim.Tryz.ty_load100 Go.Sim.Tryz.ty_zero100 Go.Sim.Tryz.ty_load106 Go.Sim.Tryz.ty_zero106 Go.Sim.Tryz.ty_load110 Go.Sim.Tryz.ty_zero110 Go.Sim.Tryz.ty_und110 Go.Sim.Tryz.ty_load118 Go.Sim.Tryz.ty_zero118 Go.Sim.Tryz.ty_und118 Go.Sim.Tryz.ty_load121 Go.Sim.Tryz.ty_zero121 Go.Sim.Tryz.ty_load128 Go.Sim.Tryz.ty_zero128 Go.Sim.Tryz.ty_und128 Go.Sim.Tryz.ty_load132 Go.Sim.Tryz.ty_zero132 encE_mk encE_take encE_len encV encE_one encEs_pure encE_pure
def ordUp (q : Qy) (k : Nat) : List Int := -1 :: (upto k).filter (ordIs q)
theorem ordUp_len (q : Qy) (k : Nat) : (ordUp q k).length ≤ k + 1 := by
  rw [ordUp, List.length_cons]
  have := List.length_filter_le (ordIs q) (upto k)
  rw [upto_len] at this
  omega
theorem cmpP (a b c d : Int) : CmpAt Go.Proofs.Tryz.prog 51 [.int .i64 a, .int .i64 b] [.int .i64 c, .int .i64 d] (decide (a = c) && decide (b = d)) := by
  rw [← Bool.and_true (decide (b = d))]
  exact cmp_arr2 (e := 3) (by kernel_rfl) (by kernel_rfl) (by kernel_rfl) (by kernel_rfl) a b c d
end Go.Sim.Tryz
set_option linter.unusedSimpArgs false
set_option linter.unusedVariables false
set_option maxRecDepth 100000
namespace Go.Sim.Tryz
open Go Go.Sim
attribute [local push_cast] aops_cons aops_nil aopG_none aopG_some aopP_eq aopE_eq aopC_eq aopE?_eq aopC?_eq aopB_eq aopB?_eq abr anilq gopP_eq gopL_eq ahead_cons ahead_nil ahdG_none ahdG_some ahdP_eq ahdN_eq ahdC_eq ahdN?_eq ahdS_eq ahdS?_eq astoreN ahdC?_eq ghdP_eq ghdC_eq ghdC?_eq ghdZ_f ghdZ_t ahdI_eq ahdI?_eq ghdN?_eq aim_nil aim_cons isIn_nil isIn_none isIn_cons aimm aheP_eq aheA_eq aheC_eq aheC?_eq aheI?_eq aheA?_eq gheP_eq gheC_eq gheC?_eq gheZ_eq aheG_none aheG_some aheff_cons aheff_nil aapp gro_rsl gro_lit gro_esl opt_some opt_none no_eq acondT_true acondT_false acondT_lit aw_skip aw_region aw_regionD aw_seq aw_cond aw_block aw_loop aw_exit aw_label aw_ret thn_normal thn_exit thn_ret inb_normal inb_exit inb_ret qret_ret qret_normal gcond apure aeff anew acallee ares aresT aresL aresC ares1 qfin_eq ev ofV evL gokL tget tput_some tput_none initT abin aint aun aload afaddr aiaddr afield aindex aextract apick pickv_lit Bool.or_false Bool.false_or Bool.or_true Bool.true_or imp_self aslice chunk abound aconv abuild afill splice alen aminmax abuiltin anil apart Value.oneCell' astore aappend srcEs abuildSlice asets isEq plus_obj plus_nxt plus_add plus_set plus_del IntKind.bits Option.map_some Option.map_none Option.bind_some Option.bind_none Option.join_some Option.getD_some Option.getD_none Option.toList Option.isSome_some List.getElem?_toArray List.getElem?_cons_zero List.getElem?_cons_succ List.getElem?_nil List.length_cons List.length_nil List.length_map List.head?_cons List.cons_append List.nil_append List.append_nil List.map_cons List.map_nil List.getD_cons_zero List.getD_cons_succ List.replicate_succ List.replicate_zero List.set_cons_zero List.set_cons_succ List.take_succ_cons List.take_zero List.drop_succ_cons List.drop_zero List.all_cons List.all_nil Nat.zero_add if_true if_false true_and and_true false_and and_false true_implies implies_true forall_const Bool.and_true Bool.true_and Bool.false_and Bool.and_false Bool.true_beq Bool.false_beq Bool.not_not beq_tt beq_ff Int.toNat_natCast decide_true decide_false Bool.not_true Bool.not_false Bool.true_eq_false Bool.false_eq_true false_implies exists_prop eq_self bne_self_eq_false beq_self_eq_true decide_eq_true_eq decide_eq_false_iff_not Bool.not_eq_true' Bool.not_eq_false' AV.int AV.bool AV.nilS ne_eq not_false_eq_true not_true_eq_false exists_eq_left exists_eq_left' Nat.lt_irrefl core_lit grd_lit acells_lit one_lit core_agg grd_agg acells_agg one_agg core_tup grd_tup acells_tup one_tup core_sl grd_sl acells_sl one_sl core_esl grd_esl acells_esl one_esl core_rsl grd_rsl acells_rsl one_rsl core_ptr grd_ptr acells_ptr one_ptr core_iptr grd_iptr acells_iptr one_iptr core_clo grd_clo acells_clo one_clo core_mp grd_mp acells_mp one_mp core_any grd_any acells_any one_any core_gv grd_gv fit_agg fit_lit fit_sl fit_esl fit_rsl fit_ptr fit_iptr fit_clo fit_mp retq_ret retq_normal set_nxt set_set plus_obj_set plus_set_set app_get0 app_get app_set0 app_set List.append_assoc List.length_append List.length_set Nat.lt_add_one Nat.add_lt_add_iff_right Nat.lt_add_right_iff_pos Nat.add_lt_add_iff_left List.mem_cons List.not_mem_nil or_false forall_eq forall_eq_or_imp lt_s0 lt_s1 lt_s2 lt_s3 lt_s4 lt_s5 lt_s6 lt_s7 lt_s8 pickv_t pickv_f or_nand or_nand2 imp_and_l SealT SealOs sealO_cells sl_lit sl_any sl_agg sl_tup sl_sl sl_rsl slO sl_esl sl_nil sl_eslesl sl_eslnil sl_rslrsl sl_eslrsl sl_nilrsl sl_ptr sl_iptr sl_ptri slP sl_clo sl_mp sl_gv sll_nil sll_cons slll_nil slll_cons shut_eq shutO Option.join_none Fn.func.injEq and_self sealL_self sealLL_self seal_self PureL PureLL Pure Nat.le_refl Nat.zero_le AV.lit.injEq Value.int.injEq Value.bool.injEq false_or or_true true_or Int.natCast_zero Int.ofNat_zero Int.cast_ofNat_Int Int.natCast_add Int.natCast_one Option.some.injEq piL_is sop_nil sop_cons sop_none sop_some sopO_some sop_new shut_pi shutL_nil shutL_cons exQ_exit exQ_ret exQ_normal Go.Sim.Tryz.ty_load1 Go.Sim.Tryz.ty_zero1 Go.Sim.Tryz.ty_load2 Go.Sim.Tryz.ty_zero2 Go.Sim.Tryz.ty_und2 Go.Sim.Tryz.ty_load3 Go.Sim.Tryz.ty_zero3 Go.Sim.Tryz.ty_und3 Go.Sim.Tryz.ty_load4 Go.Sim.Tryz.ty_zero4 Go.Sim.Tryz.ty_und4 Go.Sim.Tryz.ty_load5 Go.Sim.Tryz.ty_zero5 Go.Sim.Tryz.ty_und5 Go.Sim.Tryz.ty_load9 Go.Sim.Tryz.ty_zero9 Go.Sim.Tryz.ty_und9 Go.Sim.Tryz.ty_load22 Go.Sim.Tryz.ty_zero22 Go.Sim.Tryz.ty_el22 Go.Sim.Tryz.ty_zeroE22 Go.Sim.Tryz.ty_load24 Go.Sim.Tryz.ty_zero24 Go.Sim.Tryz.ty_fld24_0 Go.Sim.Tryz.ty_part24_0 Go.Sim.Tryz.ty_struct24 Go.Sim.Tryz.ty_load25 Go.Sim.Tryz.ty_zero25 Go.Sim.Tryz.ty_el25 Go.Sim.Tryz.ty_zeroE25 Go.Sim.Tryz.ty_load26 Go.Sim.Tryz.ty_zero26 Go.Sim.Tryz.ty_el26 Go.Sim.Tryz.ty_zeroE26 Go.Sim.Tryz.ty_load28 Go.Sim.Tryz.ty_zero28 Go.Sim.Tryz.ty_fld28_0 Go.Sim.Tryz.ty_part28_0 Go.Sim.Tryz.ty_fld28_1 Go.Sim.Tryz.ty_part28_1 Go.Sim.Tryz.ty_fld28_2 Go.Sim.Tryz.ty_part28_2 Go.Sim.Tryz.ty_fld28_3 Go.Sim.Tryz.ty_part28_3 Go.Sim.Tryz.ty_fld28_4 Go.Sim.Tryz.ty_part28_4 Go.Sim.Tryz.ty_fld28_5 Go.Sim.Tryz.ty_part28_5 Go.Sim.Tryz.ty_struct28 Go.Sim.Tryz.ty_load36 Go.Sim.Tryz.ty_zero36 Go.Sim.Tryz.ty_fld36_0 Go.Sim.Tryz.ty_part36_0 Go.Sim.Tryz.ty_fld36_1 Go.Sim.Tryz.ty_part36_1 Go.Sim.Tryz.ty_struct36 Go.Sim.Tryz.ty_load38 Go.Sim.Tryz.ty_zero38 Go.Sim.Tryz.ty_fld38_0 Go.Sim.Tryz.ty_part38_0 Go.Sim.Tryz.ty_fld38_1 Go.Sim.Tryz.ty_part38_1 Go.Sim.Tryz.ty_fld38_2 Go.Sim.Tryz.ty_part38_2 Go.Sim.Tryz.ty_fld38_3 Go.Sim.Tryz.ty_part38_3 Go.Sim.Tryz.ty_struct38 Go.Sim.Tryz.ty_load48 Go.Sim.Tryz.ty_zero48 Go.Sim.Tryz.ty_el48 Go.Sim.Tryz.ty_zeroE48 Go.Sim.Tryz.ty_load51 Go.Sim.Tryz.ty_zero51 Go.Sim.Tryz.ty_arr51 Go.Sim.Tryz.ty_part51_0 Go.Sim.Tryz.ty_part51_1 Go.Sim.Tryz.ty_struct51 Go.Sim.Tryz.ty_load59 Go.Sim.Tryz.ty_zero59 Go.Sim.Tryz.ty_fld59_0 Go.Sim.Tryz.ty_part59_0 Go.Sim.Tryz.ty_fld59_1 Go.Sim.Tryz.ty_part59_1 Go.Sim.Tryz.ty_struct59 Go.Sim.Tryz.ty_load60 Go.Sim.Tryz.ty_zero60 Go.Sim.Tryz.ty_el60 Go.Sim.Tryz.ty_zeroE60 Go.Sim.Tryz.ty_load62 Go.Sim.Tryz.ty_zero62 Go.Sim.Tryz.ty_fld62_0 Go.Sim.Tryz.ty_part62_0 Go.Sim.Tryz.ty_struct62 Go.Sim.Tryz.ty_load67 Go.Sim.Tryz.ty_zero67 Go.Sim.Tryz.ty_load68 Go.Sim.Tryz.ty_zero68 Go.Sim.Tryz.ty_load75 Go.Sim.Tryz.ty_zero75 Go.Sim.Tryz.ty_load76 Go.Sim.Tryz.ty_zero76 Go.Sim.Tryz.ty_und76 Go.Sim.Tryz.ty_load82 Go.Sim.Tryz.ty_zero82 Go.Sim.Tryz.ty_und82 Go.Sim.Tryz.ty_load85 Go.Sim.Tryz.ty_zero85 Go.Sim.Tryz.ty_und85 Go.Sim.Tryz.ty_load89 Go.Sim.Tryz.ty_zero89 Go.Sim.Tryz.ty_el89 Go.Sim.Tryz.ty_zeroE89 Go.Sim.Tryz.ty_load90 Go.Sim.Tryz.ty_zero90 Go.Sim.Tryz.ty_el90 Go.Sim.Tryz.ty_zeroE90 Go.Sim.Tryz.ty_load93 Go.Sim.Tryz.ty_zero93 Go.Sim.Tryz.ty_load98 Go.Sim.Tryz.ty_zero98 Go.Sim.Tryz.ty_fld98_0 Go.Sim.Tryz.ty_part98_0 Go.Sim.Tryz.ty_fld98_1 Go.Sim.Tryz.ty_part98_1 Go.Sim.Tryz.ty_fld98_2 Go.Sim.Tryz.ty_part98_2 Go.Sim.Tryz.ty_struct98 Go.Sim.Tryz.ty_load100 Go.Sim.Tryz.ty_zero100 Go.Sim.Tryz.ty_load106 Go.Sim.Tryz.ty_zero106 Go.Sim.Tryz.ty_load110 Go.Sim.Tryz.ty_zero110 Go.Sim.Tryz.ty_und110 Go.Sim.Tryz.ty_load118 Go.Sim.Tryz.ty_zero118 Go.Sim.Tryz.ty_und118 Go.Sim.Tryz.ty_load121 Go.Sim.Tryz.ty_zero121 Go.Sim.Tryz.ty_load128 Go.Sim.Tryz.ty_zero128 Go.Sim.Tryz.ty_und128 Go.Sim.Tryz.ty_load132 Go.Sim.Tryz.ty_zero132 encE_mk encE_take encE_len encV encE_one encEs_pure encE_pure

def catTwo : List Df := [⟨2, 100⟩, ⟨1, 10⟩]
def rowsTwo : AV := .sl [[.sl [[.sl [[.int 0, .int 1], [.int 0, .int 2]]], [.sl [[.int 0, .int 3], [.int 0, .int 4]]]]], [.sl [[.sl [[.int 0, .int 4]]]]]]
theorem Two_ok : Quiet Go.Proofs.Tryz.prog 46 [] (.tup [.agg [.sl (catTwo.map encD)], .agg [rowsTwo]]) := by
  refine quiet_of (rs := #[.cell 0 24, .cell 1 62]) Go.Proofs.Tryz.func46 rfl rfl rfl mixed rfl rfl fun H hs => ?_
  simp -implicitDefEqProofs only [push_cast, Nat.reduceAdd, Nat.reduceSub, Nat.reduceMul, Nat.reduceLT, Nat.reduceLeDiff, Nat.reduceEqDiff, Nat.reduceBEq, reduceCtorEq, reduceIte, Int.reduceLE, Int.reduceLT, Int.reduceNeg, Int.reduceToNat]
  (try simp -implicitDefEqProofs only [push_cast, Nat.reduceAdd, Nat.reduceSub, Nat.reduceMul, Nat.reduceLT, Nat.reduceLeDiff, Nat.reduceEqDiff, Nat.reduceBEq, reduceCtorEq, reduceIte, Int.reduceLE, Int.reduceLT, Int.reduceNeg, Int.reduceToNat, catTwo, rowsTwo, List.map_cons, List.map_nil, encD])
def pairE : Ex := .mk 6 0 0 0 [.mk 1 0 0 0 [], .mk 1 5 0 0 []]
theorem Pair5_ok : Quiet Go.Proofs.Tryz.prog 48 [] (.agg (encE pairE)) := by
  refine quiet_of (rs := #[.cell 0 38]) Go.Proofs.Tryz.func48 rfl rfl rfl mixed rfl rfl fun H hs => ?_
  simp -implicitDefEqProofs only [push_cast, Nat.reduceAdd, Nat.reduceSub, Nat.reduceMul, Nat.reduceLT, Nat.reduceLeDiff, Nat.reduceEqDiff, Nat.reduceBEq, reduceCtorEq, reduceIte, Int.reduceLE, Int.reduceLT, Int.reduceNeg, Int.reduceToNat]
  (try simp -implicitDefEqProofs only [push_cast, Nat.reduceAdd, Nat.reduceSub, Nat.reduceMul, Nat.reduceLT, Nat.reduceLeDiff, Nat.reduceEqDiff, Nat.reduceBEq, reduceCtorEq, reduceIte, Int.reduceLE, Int.reduceLT, Int.reduceNeg, Int.reduceToNat, pairE, List.map_cons, List.map_nil])
def oneQ : Qy := ⟨[0, 0, 1], [pairE, .mk 7 0 0 0 [.mk 1 8 0 0 [], .mk 0 0 0 5 []]], -1, [], [0, 8], 8⟩
theorem One_ok : Quiet Go.Proofs.Tryz.prog 47 [] (.agg (encQ oneQ)) := by
  refine quiet_of (rs := #[.cell 0 28]) Go.Proofs.Tryz.func47 rfl rfl rfl mixed rfl rfl fun H hs => ?_
  simp -implicitDefEqProofs only [push_cast, Nat.reduceAdd, Nat.reduceSub, Nat.reduceMul, Nat.reduceLT, Nat.reduceLeDiff, Nat.reduceEqDiff, Nat.reduceBEq, reduceCtorEq, reduceIte, Int.reduceLE, Int.reduceLT, Int.reduceNeg, Int.reduceToNat]
  refine callq Pair5_ok ?_
  simp -implicitDefEqProofs only [push_cast, Nat.reduceAdd, Nat.reduceSub, Nat.reduceMul, Nat.reduceLT, Nat.reduceLeDiff, Nat.reduceEqDiff, Nat.reduceBEq, reduceCtorEq, reduceIte, Int.reduceLE, Int.reduceLT, Int.reduceNeg, Int.reduceToNat]
  (try simp -implicitDefEqProofs only [push_cast, Nat.reduceAdd, Nat.reduceSub, Nat.reduceMul, Nat.reduceLT, Nat.reduceLeDiff, Nat.reduceEqDiff, Nat.reduceBEq, reduceCtorEq, reduceIte, Int.reduceLE, Int.reduceLT, Int.reduceNeg, Int.reduceToNat, oneQ, encQ, encI, List.map_cons, List.map_nil])
def fewQ (c : List Df) (q : Qy) : Bool := decide (c.length ≤ 10) && decide (q.occ.length ≤ 20) && decide (q.p.length ≤ 8) && decide (q.sums.length ≤ 20) && decide (q.out.length ≤ 20) && q.p.all fun e => decide (sz e 60 ≤ 60)
/-- What comes in. -/
def Qy.Raw (q : Qy) (c : List Df) : Prop := c.length ≤ 140737488355328 ∧ q.occ.length ≤ 140737488355328 ∧ q.p.length ≤ 140737488355328 ∧ q.sums.length ≤ 140737488355328 ∧ q.out.length ≤ 140737488355328 ∧ ∀ e ∈ q.p, e.Ok
theorem few5_ok (c : List Df) (q : Qy) (hr : q.Raw c) : Quiet Go.Proofs.Tryz.prog 15 [.agg [.sl (c.map encD)], .agg (encQ q)] (.bool (fewQ c q)) := by
  obtain ⟨h1, h2, h3, h4, h5, hok⟩ := hr
  refine quiet_of (rs := #[.tmp 4]) Go.Proofs.Tryz.func15 rfl rfl rfl mixed rfl rfl fun H hs => ?_
  simp -implicitDefEqProofs only [push_cast, Nat.reduceAdd, Nat.reduceSub, Nat.reduceMul, Nat.reduceLT, Nat.reduceLeDiff, Nat.reduceEqDiff, Nat.reduceBEq, reduceCtorEq, reduceIte, Int.reduceLE, Int.reduceLT, Int.reduceNeg, Int.reduceToNat, encQ]
  obtain ⟨hd, hhd⟩ : ∃ hd : Bool, hd = (decide ((c.length : Int) ≤ 10) && decide ((q.occ.length : Int) ≤ 20) && decide ((q.p.length : Int) ≤ 8) && decide ((q.sums.length : Int) ≤ 20) && decide ((q.out.length : Int) ≤ 20)) := ⟨_, rfl⟩
  rw [← hhd]
  have hf : fewQ c q = (hd && q.p.all fun e => decide (sz e 60 ≤ 60)) := by
    have ic : ∀ m n : Nat, decide ((m : Int) ≤ (n : Int)) = decide (m ≤ n) := fun m n => by rw [decide_eq_decide]; omega
    have i1 := ic c.length 10
    have i2 := ic q.occ.length 20
    have i3 := ic q.p.length 8
    have i4 := ic q.sums.length 20
    have i5 := ic q.out.length 20
    simp only [Int.cast_ofNat_Int] at i1 i2 i3 i4 i5
    rw [hhd, i1, i2, i3, i4, i5]
    rfl
  rw [hf]
  clear hf hhd
  have htk : ∀ i, (h : i < q.p.length) → (q.p.take (i + 1)).all (fun e => decide (sz e 60 ≤ 60)) = ((q.p.take i).all (fun e => decide (sz e 60 ≤ 60)) && decide (sz q.p[i] 60 ≤ 60)) := fun i h => by
    rw [List.take_succ_eq_append_getElem h, List.all_append, List.all_cons, List.all_nil, Bool.and_true]
  refine loop_at hs (σ := Nat) (fun i => i ≤ q.p.length) (fun i => q.p.length - i)
    (fun i => [(6, .int i), (5, .bool (hd && (q.p.take i).all fun e => decide (sz e 60 ≤ 60))), (3, .ptr (H.nxt + 1) 6 0 0)]) (fun i => [none, some (.cells 6 [encQ q] 0)]) [some 0, some 1] 0 (by omega) rfl ?_ ?_ ?_
  · (try simp -implicitDefEqProofs only [push_cast, Nat.reduceAdd, Nat.reduceSub, Nat.reduceMul, Nat.reduceLT, Nat.reduceLeDiff, Nat.reduceEqDiff, Nat.reduceBEq, reduceCtorEq, reduceIte, Int.reduceLE, Int.reduceLT, Int.reduceNeg, Int.reduceToNat, List.take_zero, List.all_nil, encEs_pure, encIs_pure, encQ])
  · (try simp -implicitDefEqProofs only [push_cast, Nat.reduceAdd, Nat.reduceSub, Nat.reduceMul, Nat.reduceLT, Nat.reduceLeDiff, Nat.reduceEqDiff, Nat.reduceBEq, reduceCtorEq, reduceIte, Int.reduceLE, Int.reduceLT, Int.reduceNeg, Int.reduceToNat, encEs_pure, encIs_pure, encQ])
  intro i hi2
  by_cases hi : i < q.p.length
  · have hi' : ((i : Int) < (q.p.length : Int)) = True := by simp; omega
    have hi0 : (0 ≤ (i : Int)) = True := by simp
    cases hfi : (hd && (q.p.take i).all fun e => decide (sz e 60 ≤ 60))
    · simp -implicitDefEqProofs only [push_cast, Nat.reduceAdd, Nat.reduceSub, Nat.reduceMul, Nat.reduceLT, Nat.reduceLeDiff, Nat.reduceEqDiff, Nat.reduceBEq, reduceCtorEq, reduceIte, Int.reduceLE, Int.reduceLT, Int.reduceNeg, Int.reduceToNat, hi', encQ]
      rcases Bool.and_eq_false_iff.1 hfi with h | h
      · rw [h]; rfl
      · have : q.p.all (fun e => decide (sz e 60 ≤ 60)) = false := by
          rw [List.all_eq_false] at h ⊢
          obtain ⟨x, hx, h⟩ := h
          exact ⟨x, List.mem_of_mem_take hx, h⟩
        rw [this, Bool.and_false]
    · simp -implicitDefEqProofs only [push_cast, Nat.reduceAdd, Nat.reduceSub, Nat.reduceMul, Nat.reduceLT, Nat.reduceLeDiff, Nat.reduceEqDiff, Nat.reduceBEq, reduceCtorEq, reduceIte, Int.reduceLE, Int.reduceLT, Int.reduceNeg, Int.reduceToNat, hi', hi0, encEs_get q.p i hi, encQ]
      refine callq (few_ok _ (hok _ (List.getElem_mem hi)) 60 (by omega) (by omega)) ?_
      simp -implicitDefEqProofs only [push_cast, Nat.reduceAdd, Nat.reduceSub, Nat.reduceMul, Nat.reduceLT, Nat.reduceLeDiff, Nat.reduceEqDiff, Nat.reduceBEq, reduceCtorEq, reduceIte, Int.reduceLE, Int.reduceLT, Int.reduceNeg, Int.reduceToNat, encQ]
      rw [wrap64 (n := (i : Int) + 1) (by omega) (by omega)]
      have hnx : (hd && (q.p.take (i + 1)).all fun e => decide (sz e 60 ≤ 60)) = decide (sz q.p[i] 60 ≤ 60) := by
        rw [htk i hi, ← Bool.and_assoc, hfi, Bool.true_and]
      refine next_at [none, some 1] (i + 1) (by omega) (by omega) rfl ?_ ?_
      · (try simp -implicitDefEqProofs only [push_cast, Nat.reduceAdd, Nat.reduceSub, Nat.reduceMul, Nat.reduceLT, Nat.reduceLeDiff, Nat.reduceEqDiff, Nat.reduceBEq, reduceCtorEq, reduceIte, Int.reduceLE, Int.reduceLT, Int.reduceNeg, Int.reduceToNat, hnx, encEs_pure, encIs_pure, encQ])
      · (try simp -implicitDefEqProofs only [push_cast, Nat.reduceAdd, Nat.reduceSub, Nat.reduceMul, Nat.reduceLT, Nat.reduceLeDiff, Nat.reduceEqDiff, Nat.reduceBEq, reduceCtorEq, reduceIte, Int.reduceLE, Int.reduceLT, Int.reduceNeg, Int.reduceToNat, encEs_pure, encIs_pure, encQ])
  · have hi' : ((i : Int) < (q.p.length : Int)) = False := by simp; omega
    obtain rfl : i = q.p.length := by omega
    simp -implicitDefEqProofs only [push_cast, Nat.reduceAdd, Nat.reduceSub, Nat.reduceMul, Nat.reduceLT, Nat.reduceLeDiff, Nat.reduceEqDiff, Nat.reduceBEq, reduceCtorEq, reduceIte, Int.reduceLE, Int.reduceLT, Int.reduceNeg, Int.reduceToNat, hi', encQ, List.take_length]
theorem szL_ge : ∀ (l : List Ex) (m n : Int), 0 ≤ m → n ≤ szL l m n
  | [], _, n, _ => by rw [szL]; exact Int.le_refl _
  | x :: l, m, n, h0 => by
    rw [szL]
    split
    · have := sz_bound x (m - n) (by omega)
      have := szL_ge l m (n + sz x (m - n)) h0
      omega
    · exact Int.le_refl _
mutual
theorem sz_cnt : ∀ (e : Ex) (m : Int), 0 ≤ m → sz e m ≤ m → sz e m = cnt e
  | .mk _ _ _ _ l, m, h0, h => by
    have h1 := szL_ge l m 1 h0
    rw [sz] at h ⊢
    rw [cnt, szL_cnt l m 1 h0 (by omega) h]
    omega
theorem szL_cnt : ∀ (l : List Ex) (m n : Int), 0 ≤ m → n ≤ m → szL l m n ≤ m → szL l m n = n + cntL l
  | [], m, n, _, h0, h => by rw [szL, cntL]; omega
  | x :: l, m, n, h1, h0, h => by
    rw [szL, if_pos h0] at h ⊢
    have h2 := szL_ge l m (n + sz x (m - n)) h1
    have h3 := sz_cnt x (m - n) (by omega) (by omega)
    rw [szL_cnt l m _ h1 (by omega) h, cntL]
    omega
end
theorem fewQ_split {c : List Df} {q : Qy} (h : fewQ c q = true) : c.length ≤ 10 ∧ q.occ.length ≤ 20 ∧ q.p.length ≤ 8 ∧ q.sums.length ≤ 20 ∧ q.out.length ≤ 20 ∧ ∀ e ∈ q.p, cnt e ≤ 60 := by
  unfold fewQ at h
  simp only [Bool.and_eq_true, decide_eq_true_eq, List.all_eq_true] at h
  obtain ⟨⟨⟨⟨⟨h1, h2⟩, h3⟩, h4⟩, h5⟩, h6⟩ := h
  refine ⟨h1, h2, h3, h4, h5, fun e he => ?_⟩
  have := sz_cnt e 60 (by omega) (h6 e he)
  have := h6 e he
  omega
theorem ok_of_few {c : List Df} {q : Qy} (hr : q.Raw c) (h : fewQ c q = true) : q.Ok := by
  obtain ⟨h1, h2, h3, h4, h5, h6⟩ := fewQ_split h
  exact ⟨by omega, fun e he => ⟨hr.2.2.2.2.2 e he, Nat.le_trans (h6 e he) (by omega)⟩, by omega, by omega, by omega⟩
theorem cols_of {e : Ex} {l : List Int} (hm : e.may = true) (hl : l.Pairwise (· < ·)) (h : e.colsAll = l) : e.cols = l := by
  rw [Ex.cols, if_pos hm, h]
  exact pw_ext (uniq_pw l) hl fun x => uniq_mem l x
def belowE : Ex := .mk 7 0 0 0 [.mk 1 8 0 0 [], .mk 0 0 0 5 []]
theorem pairE_cols : pairE.cols = [0, 5] := cols_of (by decide) (by decide) (by decide)
theorem belowE_cols : belowE.cols = [8] := cols_of (by decide) (by decide) (by decide)
theorem pairE_set : setE pairE = 3 := by unfold setE hasOcc; rw [pairE_cols]; decide +kernel
theorem belowE_set : setE belowE = 4 := by unfold setE hasOcc; rw [belowE_cols]; decide +kernel
theorem oneQ_p : oneQ.p = [pairE, belowE] := rfl
theorem oneQ_may : oneQ.may catTwo = true := by
  unfold Qy.may
  rw [oneQ_p]
  simp only [List.all_cons, List.all_nil, exIn, pairE_cols, belowE_cols]
  decide +kernel
theorem oneQ_idx (f : Ex → Bool) : idxF f oneQ.p = (if f pairE then [0] else []) ++ (if f belowE then [1] else []) := by
  rw [oneQ_p]
  cases h1 : f pairE <;> cases h2 : f belowE <;> simp [idxF, upto, List.range_succ, h1, h2]
theorem oneQ_new (a b : Int) : oneQ.new a b = (if holdsI (bor .i64 a b) 3 && !holdsI a 3 && !holdsI b 3 then [0] else []) ++ (if holdsI (bor .i64 a b) 4 && !holdsI a 4 && !holdsI b 4 then [1] else []) := by
  rw [Qy.new, oneQ_idx]
  simp only [newT, ownT, pairE_set, belowE_set]
theorem oneQ_new12 : oneQ.new 1 2 = [0] := by rw [oneQ_new]; decide +kernel
theorem oneQ_new16 : oneQ.new 1 6 = [0] := by rw [oneQ_new]; decide +kernel
theorem oneQ_pairs : oneQ.pairs 1 2 = [(0, 5)] := by
  rw [Qy.pairs, oneQ_new12]
  decide +kernel
theorem exOk2 {op col k n : Int} {a b : Ex} (ha : a.Ok) (hb : b.Ok) : Ex.Ok (.mk op col k n [a, b]) := .mk (by simp) (by
  intro x hx
  simp only [List.mem_cons, List.not_mem_nil, or_false] at hx
  rcases hx with rfl | rfl
  · exact ha
  · exact hb)
theorem exOk0 {op col k n : Int} : Ex.Ok (.mk op col k n []) := .mk (by decide) (by simp)
theorem pairE_ok : pairE.Ok := exOk2 exOk0 exOk0
theorem belowE_ok : belowE.Ok := exOk2 exOk0 exOk0
theorem oneQ_raw (c : List Df) (hc : c.length ≤ 140737488355328) : oneQ.Raw c := by
  refine ⟨hc, by decide, by decide, by decide, by decide, ?_⟩
  rw [oneQ_p]
  intro e he
  simp only [List.mem_cons, List.not_mem_nil, or_false] at he
  rcases he with rfl | rfl
  · exact pairE_ok
  · exact belowE_ok
theorem oneQ_few : fewQ catTwo oneQ = true := by decide
theorem oneQ_ok : oneQ.Ok := ok_of_few (oneQ_raw catTwo (by decide)) oneQ_few
theorem awake5_ok : Quiet Go.Proofs.Tryz.prog 14 [] (.bool true) := by
  have hp := Pairs_ok oneQ oneQ_ok 1 2
  rw [oneQ_pairs] at hp
  have hm := MayQ_ok catTwo (by decide) oneQ oneQ_ok
  rw [oneQ_may] at hm
  have hn := New_ok oneQ oneQ_ok 1 6
  rw [oneQ_new16] at hn
  refine quiet_of (rs := #[.tmp 0]) Go.Proofs.Tryz.func14 rfl rfl rfl mixed rfl rfl fun H hs => ?_
  simp -implicitDefEqProofs only [push_cast, Nat.reduceAdd, Nat.reduceSub, Nat.reduceMul, Nat.reduceLT, Nat.reduceLeDiff, Nat.reduceEqDiff, Nat.reduceBEq, reduceCtorEq, reduceIte, Int.reduceLE, Int.reduceLT, Int.reduceNeg, Int.reduceToNat]
  refine callq Two_ok ?_
  simp -implicitDefEqProofs only [push_cast, Nat.reduceAdd, Nat.reduceSub, Nat.reduceMul, Nat.reduceLT, Nat.reduceLeDiff, Nat.reduceEqDiff, Nat.reduceBEq, reduceCtorEq, reduceIte, Int.reduceLE, Int.reduceLT, Int.reduceNeg, Int.reduceToNat]
  refine ⟨rfl, callq One_ok ?_⟩
  simp -implicitDefEqProofs only [push_cast, Nat.reduceAdd, Nat.reduceSub, Nat.reduceMul, Nat.reduceLT, Nat.reduceLeDiff, Nat.reduceEqDiff, Nat.reduceBEq, reduceCtorEq, reduceIte, Int.reduceLE, Int.reduceLT, Int.reduceNeg, Int.reduceToNat]
  refine callq hp ?_
  simp -implicitDefEqProofs only [push_cast, Nat.reduceAdd, Nat.reduceSub, Nat.reduceMul, Nat.reduceLT, Nat.reduceLeDiff, Nat.reduceEqDiff, Nat.reduceBEq, reduceCtorEq, reduceIte, Int.reduceLE, Int.reduceLT, Int.reduceNeg, Int.reduceToNat]
  refine areg_im [33] 31 (by kernel_rfl) (by kernel_rfl) ?_
  simp -implicitDefEqProofs only [push_cast, Nat.reduceAdd, Nat.reduceSub, Nat.reduceMul, Nat.reduceLT, Nat.reduceLeDiff, Nat.reduceEqDiff, Nat.reduceBEq, reduceCtorEq, reduceIte, Int.reduceLE, Int.reduceLT, Int.reduceNeg, Int.reduceToNat]
  refine ahdq Pair5_ok ?_
  simp -implicitDefEqProofs only [push_cast, Nat.reduceAdd, Nat.reduceSub, Nat.reduceMul, Nat.reduceLT, Nat.reduceLeDiff, Nat.reduceEqDiff, Nat.reduceBEq, reduceCtorEq, reduceIte, Int.reduceLE, Int.reduceLT, Int.reduceNeg, Int.reduceToNat]
  refine ahdq (ofE_ok pairE pairE_ok (by decide)) ?_
  simp -implicitDefEqProofs only [push_cast, Nat.reduceAdd, Nat.reduceSub, Nat.reduceMul, Nat.reduceLT, Nat.reduceLeDiff, Nat.reduceEqDiff, Nat.reduceBEq, reduceCtorEq, reduceIte, Int.reduceLE, Int.reduceLT, Int.reduceNeg, Int.reduceToNat, pairE_set]
  refine gcallq (.agg (encQ oneQ)) (fun _ => One_ok) ?_
  simp -implicitDefEqProofs only [push_cast, Nat.reduceAdd, Nat.reduceSub, Nat.reduceMul, Nat.reduceLT, Nat.reduceLeDiff, Nat.reduceEqDiff, Nat.reduceBEq, reduceCtorEq, reduceIte, Int.reduceLE, Int.reduceLT, Int.reduceNeg, Int.reduceToNat]
  refine gcallq (.bool true) (fun _ => hm) ?_
  have hcm : CmpAt Go.Proofs.Tryz.prog 51 [.int .i64 0, .int .i64 5] [.int .i64 0, .int .i64 5] true := cmpP 0 5 0 5
  simp -implicitDefEqProofs only [push_cast, Nat.reduceAdd, Nat.reduceSub, Nat.reduceMul, Nat.reduceLT, Nat.reduceLeDiff, Nat.reduceEqDiff, Nat.reduceBEq, reduceCtorEq, reduceIte, Int.reduceLE, Int.reduceLT, Int.reduceNeg, Int.reduceToNat, encP, lits, cellsEq, cellEq, List.map_cons, List.map_nil, Int.reduceAdd, Int.reduceEq, eq_true hcm]
  refine gcallq (.agg (encQ oneQ)) (fun _ => One_ok) ?_
  simp -implicitDefEqProofs only [push_cast, Nat.reduceAdd, Nat.reduceSub, Nat.reduceMul, Nat.reduceLT, Nat.reduceLeDiff, Nat.reduceEqDiff, Nat.reduceBEq, reduceCtorEq, reduceIte, Int.reduceLE, Int.reduceLT, Int.reduceNeg, Int.reduceToNat]
  refine gcallq (.sl ([0].map encI)) (fun _ => hn) ?_
  simp -implicitDefEqProofs only [push_cast, Nat.reduceAdd, Nat.reduceSub, Nat.reduceMul, Nat.reduceLT, Nat.reduceLeDiff, Nat.reduceEqDiff, Nat.reduceBEq, reduceCtorEq, reduceIte, Int.reduceLE, Int.reduceLT, Int.reduceNeg, Int.reduceToNat]
  refine gcallq (.bool true) (fun _ => ints_ok [0] [0] (by simp) (by simp)) ?_
  simp -implicitDefEqProofs only [push_cast, Nat.reduceAdd, Nat.reduceSub, Nat.reduceMul, Nat.reduceLT, Nat.reduceLeDiff, Nat.reduceEqDiff, Nat.reduceBEq, reduceCtorEq, reduceIte, Int.reduceLE, Int.reduceLT, Int.reduceNeg, Int.reduceToNat]
  refine gcallq (.agg (encE small)) (fun _ => Small_ok) ?_
  simp -implicitDefEqProofs only [push_cast, Nat.reduceAdd, Nat.reduceSub, Nat.reduceMul, Nat.reduceLT, Nat.reduceLeDiff, Nat.reduceEqDiff, Nat.reduceBEq, reduceCtorEq, reduceIte, Int.reduceLE, Int.reduceLT, Int.reduceNeg, Int.reduceToNat]
  refine gcallq (.bool small.may) (fun _ => mayE_ok small small_ok) ?_
  rw [small_may]
  simp -implicitDefEqProofs only [push_cast, Nat.reduceAdd, Nat.reduceSub, Nat.reduceMul, Nat.reduceLT, Nat.reduceLeDiff, Nat.reduceEqDiff, Nat.reduceBEq, reduceCtorEq, reduceIte, Int.reduceLE, Int.reduceLT, Int.reduceNeg, Int.reduceToNat]
  (try simp -implicitDefEqProofs only [push_cast, Nat.reduceAdd, Nat.reduceSub, Nat.reduceMul, Nat.reduceLT, Nat.reduceLeDiff, Nat.reduceEqDiff, Nat.reduceBEq, reduceCtorEq, reduceIte, Int.reduceLE, Int.reduceLT, Int.reduceNeg, Int.reduceToNat])
end Go.Sim.Tryz
set_option linter.unusedSimpArgs false
set_option linter.unusedVariables false
set_option maxRecDepth 100000
namespace Go.Sim.Tryz
open Go Go.Sim

theorem shp_V2 {n : Nat} {vs : List AV} (h : Shp Go.Proofs.Tryz.prog n 36 vs) : ∃ v : Vl, vs = encV v ∧ In64 v.n := by
  obtain ⟨m, parts, _, rfl, hl, hp⟩ := shp_struct Go.Proofs.Tryz.underlying36 h
  match parts, hl with
  | [p0, p1], _ =>
    obtain ⟨k, rfl, _⟩ := shp_int Go.Proofs.Tryz.underlying3 (hp 0 _ p0 rfl rfl).2
    obtain ⟨n, rfl, hn⟩ := shp_int Go.Proofs.Tryz.underlying3 (hp 1 _ p1 rfl rfl).2
    exact ⟨⟨k, n⟩, rfl, wf64 hn⟩
theorem shp_E2 : ∀ (n : Nat) {vs : List AV}, Shp Go.Proofs.Tryz.prog n 38 vs → ∃ e : Ex, vs = encE e ∧ (e.Ok ∧ e.In) := by
  intro n
  induction n using Nat.strongRecOn with
  | ind n ih =>
  intro vs h
  obtain ⟨m, parts, hn, rfl, hl, hp⟩ := shp_struct Go.Proofs.Tryz.underlying38 h
  match parts, hl with
  | [p0, p1, p2, p3], _ =>
    obtain ⟨op, rfl, _⟩ := shp_int Go.Proofs.Tryz.underlying3 (hp 0 _ p0 rfl rfl).2
    obtain ⟨col, rfl, _⟩ := shp_int Go.Proofs.Tryz.underlying3 (hp 1 _ p1 rfl rfl).2
    obtain ⟨⟨k, n'⟩, rfl, hv⟩ := shp_V2 (hp 2 _ p2 rfl rfl).2
    obtain ⟨m', es, hm, rfl, hle, hpe⟩ := shp_slice Go.Proofs.Tryz.underlying26 (hp 3 _ p3 rfl rfl).2
    rw [bytesE] at hle
    obtain ⟨l, rfl, hq⟩ := map_of (f := encE) (q := fun e => e.Ok ∧ e.In) fun x hx => ih m' (by omega) (hpe x hx).2
    refine ⟨.mk op col k n' l, by rw [encE_mk]; rfl, .mk ?_ fun x hx => (hq x hx).1, .mk hv fun x hx => (hq x hx).2⟩
    simp [reachBytes] at hle
    omega
end Go.Sim.Tryz
