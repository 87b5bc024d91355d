/- The operations that leave memory alone, over abstract values, and that they are right in every world that the abstract state tells. Conditions: none. -/
import Derived.Test.YtnoajklojkmonaaGreatSimA
import Derived.Laws.Panics
set_option linter.unusedVariables false
set_option linter.unusedSimpArgs false
namespace Go.Sim

/-! ### The types of a program, as numbers -/
def _root_.Go.Program.tsz (P : Program) (t : TypeId) : Nat := ((P.info? t).map (·.size)).getD 0
def _root_.Go.Program.tok (P : Program) (t : TypeId) : Bool := (P.info? t).isSome && (P.underlying t).isSome
def descAgg : Option TypeDesc → Bool
  | some (.struct _) => true
  | some (.array _ _) => true
  | _ => false
def _root_.Go.Program.tagg (P : Program) (t : TypeId) : Bool := descAgg (P.underlying t)
def _root_.Go.Program.tfields (P : Program) (t : TypeId) : Option (Array Field) :=
  match P.underlying t with
  | some (.struct fs) => some fs
  | _ => none
/-- A field's place, its type. -/
def _root_.Go.Program.tfld (P : Program) (t : TypeId) (f : Nat) : Option (Nat × TypeId) := (P.tfields t).bind fun fs => (fs[f]?).map fun x => (x.offset, x.type)
/-- A slice's type of elements. -/
def _root_.Go.Program.tel (P : Program) (t : TypeId) : Option TypeId :=
  match P.underlying t with
  | some (.slice e) => some e
  | _ => none
/-- An array's length, and type of elements. -/
def _root_.Go.Program.tarr (P : Program) (t : TypeId) : Option (Nat × TypeId) :=
  match P.underlying t with
  | some (.array n e) => some (n, e)
  | _ => none

/-! ### The state -/
abbrev Tm := List (Nat × AV)
def tget : Tm → Nat → AV
  | [], _ => .any
  | (i, v) :: T, j => if i = j then v else tget T j
def tput (T : Tm) (d : Option Nat) (v : AV) : Tm :=
  match d with
  | some d => (d, v) :: T
  | none => T
theorem tput_some (T : Tm) (d : Nat) (v : AV) : tput T (some d) v = (d, v) :: T := rfl
theorem tput_none (T : Tm) (v : AV) : tput T none v = T := rfl
theorem tget_cons (i : Nat) (v : AV) (T : Tm) (j : Nat) : tget ((i, v) :: T) j = if i = j then v else tget T j := rfl
theorem tget_nil (j : Nat) : tget [] j = .any := rfl

def RepT (ρ : Nat → Option Nat) (H : AH) (w : World) (T : Tm) (tmps : Array Value) : Prop := ∀ t, Rep ρ H w (tget T t) (tmps.getD t undef)

theorem RepT.ext {ρ : Nat → Option Nat} {H : AH} {w : World} {ρ' : Nat → Option Nat} {H' : AH} {w' : World} {T : Tm} {tmps : Array Value}
    (he : Ext ρ H w ρ' H' w') (h : RepT ρ H w T tmps) : RepT ρ' H' w' T tmps := fun t => (h t).ext he

theorem RepT.put {ρ : Nat → Option Nat} {H : AH} {w : World} {T : Tm} {a : Act} (h : RepT ρ H w T a.tmps) {d : Option Nat} {v : AV} {x : Value}
    (hd : ∀ i, d = some i → i < a.tmps.size) (hr : Rep ρ H w v x) : RepT ρ H w (tput T d v) (a.put d x).tmps := by
  cases d with
  | none => exact h
  | some d =>
    intro t
    have hlt := hd d rfl
    simp only [tput, tget, Act.put]
    by_cases e : d = t
    · subst e
      rw [if_pos rfl]
      have : (a.tmps.setIfInBounds d x).getD d undef = x := by simp [Array.getD, hlt]
      rw [this]
      exact hr
    · rw [if_neg e]
      have : (a.tmps.setIfInBounds d x).getD t undef = a.tmps.getD t undef := by
        simp only [Array.getD_eq_getD_getElem?, Array.getElem?_setIfInBounds]
        rw [if_neg e]
      rw [this]
      exact h t

/-- A constant. -/
def ofV : Value → AV
  | .agg cs => .agg (cs.toList.map .lit)
  | v => .lit v

theorem rep_lits (ρ : Nat → Option Nat) (H : AH) (w : World) : ∀ l : List Value, RepL ρ H w (l.map .lit) l
  | [] => by simp only [List.map_nil, RepL]
  | x :: l => by simp only [List.map_cons, RepL, Rep]; exact ⟨x, l, rfl, rfl, rep_lits ρ H w l⟩

theorem rep_ofV (ρ : Nat → Option Nat) (H : AH) (w : World) (v : Value) : Rep ρ H w (ofV v) v := by
  unfold ofV
  split
  · rename_i cs
    simp only [Rep]
    exact ⟨cs.toList, by simp, rep_lits ρ H w _⟩
  · simp only [Rep]

def ev (T : Tm) : Operand → AV
  | .tmp t => tget T t
  | .const v => ofV v
  | .func f => .clo (.func f) [] []
  | .global _ => .any

def AV.core : AV → AV
  | .gv _ v => v
  | v => v
def AV.grd : AV → Bool
  | .gv g _ => g
  | _ => true

theorem rep_ev {ρ : Nat → Option Nat} {H : AH} {w : World} {T : Tm} {a : Act} (h : RepT ρ H w T a.tmps) (x : Operand) : Rep ρ H w (ev T x) (a.eval x) := by
  cases x with
  | tmp t => exact h t
  | const v => exact rep_ofV ρ H w v
  | global g => simp only [ev, Rep]
  | func f => simp only [ev, Rep, Act.eval, RepL]; exact ⟨[], [], rfl, rfl, rfl⟩

theorem rep_core {ρ : Nat → Option Nat} {H : AH} {w : World} {v : AV} {x : Value} (h : Rep ρ H w v x) (hg : v.grd = true) : Rep ρ H w v.core x := by
  cases v with
  | gv g v => simp only [Rep] at h; exact h.1 hg
  | _ => exact h

/-- What is kept apart is at hand. -/
def gokL (T : Tm) : List Operand → Prop
  | [] => True
  | x :: xs => (ev T x).grd = true ∧ gokL T xs

theorem rep_evc {ρ : Nat → Option Nat} {H : AH} {w : World} {T : Tm} {a : Act} (h : RepT ρ H w T a.tmps) {x : Operand} (hg : (ev T x).grd = true) : Rep ρ H w (ev T x).core (a.eval x) :=
  rep_core (rep_ev h x) hg

/-! ### Numbers -/
def bitsOf (k : IntKind) (f : BitVec k.bits → BitVec k.bits → BitVec k.bits) (a b : Int) : Int := k.wrap (f (BitVec.ofInt k.bits a) (BitVec.ofInt k.bits b)).toNat
def band (k : IntKind) (a b : Int) : Int := bitsOf k (· &&& ·) a b
def bor (k : IntKind) (a b : Int) : Int := bitsOf k (· ||| ·) a b
def bxor (k : IntKind) (a b : Int) : Int := bitsOf k (· ^^^ ·) a b
def bandNot (k : IntKind) (a b : Int) : Int := bitsOf k (fun x y => x &&& ~~~y) a b
def bshl (k : IntKind) (a b : Int) : Int := k.wrap (a * 2 ^ (min b.toNat k.bits))
def bshr (k : IntKind) (a b : Int) : Int := a.fdiv (2 ^ (min b.toNat k.bits))

/-- Two numbers of one kind. -/
def aint (op : BinOp) (k : IntKind) (a b : Int) : Option (Prop × Value) :=
  match op with
  | .add => some (True, .int k (k.wrap (a + b)))
  | .sub => some (True, .int k (k.wrap (a - b)))
  | .mul => some (True, .int k (k.wrap (a * b)))
  | .quo => some (b ≠ 0, .int k (k.wrap (a.tdiv b)))
  | .rem => some (b ≠ 0, .int k (a.tmod b))
  | .and => some (True, .int k (band k a b))
  | .or => some (True, .int k (bor k a b))
  | .xor => some (True, .int k (bxor k a b))
  | .andNot => some (True, .int k (bandNot k a b))
  | .eql => some (True, .bool (decide (a = b)))
  | .neq => some (True, .bool (!decide (a = b)))
  | .lss => some (True, .bool (decide (a < b)))
  | .leq => some (True, .bool (decide (a ≤ b)))
  | .gtr => some (True, .bool (decide (b < a)))
  | .geq => some (True, .bool (decide (b ≤ a)))
  | .shl => some (0 ≤ b, .int k (bshl k a b))
  | .shr => some (0 ≤ b, .int k (bshr k a b))

theorem aint_ok {P : Program} {w : World} {t : TypeId} {op : BinOp} {k : IntKind} {a b : Int} {φ : Prop} {r : Value} (h : aint op k a b = some (φ, r)) (hφ : φ) :
    (binOp op t (.int k a) (.int k b)).run P w = .ok r w := by
  cases op <;> simp only [aint, Option.some.injEq, Prod.mk.injEq] at h <;> obtain ⟨rfl, rfl⟩ := h
  case shl => simp only [binOp, Op.shift, if_neg (show ¬ b < 0 by omega), bshl, Sem.run_pure]
  case shr => simp only [binOp, Op.shift, if_neg (show ¬ b < 0 by omega), bshr, Sem.run_pure]
  case quo => simp only [binOp, Op.intDiv, ne_eq, not_true, if_false, if_neg hφ, Sem.run_pure]
  case rem => simp only [binOp, Op.intDiv, ne_eq, not_true, if_false, if_neg hφ, Sem.run_pure]
  all_goals simp only [binOp, Op.intArith, Op.intBits, Op.intCmp, ne_eq, not_true, if_false, Sem.run_pure, band, bor, bxor, bandNot, bitsOf]
  all_goals rfl

/-- A shift by a number of another kind. -/
theorem ashift_ok {P : Program} {w : World} {t : TypeId} {k k' : IntKind} {a b : Int} (hb : 0 ≤ b) :
    (binOp .shl t (.int k a) (.int k' b)).run P w = .ok (.int k (bshl k a b)) w ∧ (binOp .shr t (.int k a) (.int k' b)).run P w = .ok (.int k (bshr k a b)) w := by
  constructor <;> simp only [binOp, Op.shift, if_neg (show ¬ b < 0 by omega), bshl, bshr, Sem.run_pure]

def astr (op : BinOp) (a b : ByteArray) : Option (Prop × Value) :=
  match op with
  | .add => some (a.size + b.size ≤ 9223372036854775807, .string (a ++ b))
  | .eql => some (True, .bool (a.toList == b.toList))
  | .neq => some (True, .bool (!(a.toList == b.toList)))
  | .lss => some (True, .bool (Op.bytesLess a.toList b.toList))
  | .geq => some (True, .bool (!Op.bytesLess a.toList b.toList))
  | _ => none

theorem astr_ok {P : Program} {w : World} {t : TypeId} {op : BinOp} {a b : ByteArray} {φ : Prop} {r : Value} (h : astr op a b = some (φ, r)) (hφ : φ) :
    (binOp op t (.string a) (.string b)).run P w = .ok r w := by
  cases op <;> simp only [astr, Option.some.injEq, Prod.mk.injEq, reduceCtorEq] at h <;> obtain ⟨rfl, rfl⟩ := h
  case add =>
    have : ¬ (((a.size + b.size : Nat) : Int) > IntKind.i64.max) := by
      have h64 : IntKind.i64.max = 9223372036854775807 := by decide
      rw [h64]
      omega
    simp only [binOp, Op.stringOp, if_neg this, Sem.run_pure]
  all_goals simp only [binOp, Op.stringOp, Sem.run_pure]

/-- Two structs, or arrays, of plain cells: what '==' tells. The fact 'Same P t xs ys b' is shown a type at a time. -/
def CmpAt (P : Program) (t : TypeId) (xs ys : List Value) (b : Bool) : Prop :=
  ∀ w : World, (Op.equal t (.agg xs.toArray) (.agg ys.toArray)).run P w = .ok b w ∧ (∀ x y : Operand, ∀ op : BinOp, (eqGuard op t x y (.agg xs.toArray) (.agg ys.toArray)).run P w = .ok () w)

/-- The cells of plain values. -/
def lits : List AV → Option (List Value)
  | [] => some []
  | .lit v :: l => (lits l).map (v :: ·)
  | _ => none

theorem rep_of_lits {ρ : Nat → Option Nat} {H : AH} {w : World} : ∀ {cs : List AV} {xs : List Value} {vs : List Value}, lits cs = some vs → RepL ρ H w cs xs → xs = vs
  | [], xs, vs, h, hr => by simp only [lits, Option.some.injEq] at h; simp only [RepL] at hr; subst h; exact hr
  | .lit v :: cs, xs, vs, h, hr => by
    simp only [lits, Option.map_eq_some_iff] at h
    obtain ⟨us, h1, rfl⟩ := h
    simp only [RepL, Rep] at hr
    obtain ⟨y, ys, rfl, rfl, h2⟩ := hr
    rw [rep_of_lits h1 h2]
  | .agg _ :: _, _, _, h, _ | .tup _ :: _, _, _, h, _ | .sl _ :: _, _, _, h, _ | .esl :: _, _, _, h, _ | .rsl .. :: _, _, _, h, _ | .ptr .. :: _, _, _, h, _
  | .iptr _ :: _, _, _, h, _ | .clo .. :: _, _, _, h, _ | .mp _ :: _, _, _, h, _ | .gv .. :: _, _, _, h, _ | .any :: _, _, _, h, _ => by simp [lits] at h

def cellEq : Value → Value → Bool
  | .int _ a, .int _ b => decide (a = b)
  | .bool a, .bool b => a == b
  | .string a, .string b => a.toList == b.toList
  | _, _ => false
def cellsEq : List Value → List Value → Bool
  | [], [] => true
  | x :: xs, y :: ys => cellEq x y && cellsEq xs ys
  | _, _ => false

def isEq : BinOp → Option Bool
  | .eql => some true
  | .neq => some false
  | _ => none

def abin (P : Program) (op : BinOp) (t : TypeId) : AV → AV → Option (Prop × AV)
  | .lit (.int k a), .lit (.int k' b) =>
    if k = k' then (aint op k a b).map fun (φ, r) => (φ, .lit r)
    else match op with
      | .shl => some (0 ≤ b, .lit (.int k (bshl k a b)))
      | .shr => some (0 ≤ b, .lit (.int k (bshr k a b)))
      | _ => none
  | .lit (.bool a), .lit (.bool b) => (isEq op).map fun e => (P.underlying t = some .bool, .bool (if e then a == b else !(a == b)))
  | .lit (.string a), .lit (.string b) => (astr op a b).map fun (φ, r) => (φ, .lit r)
  | .agg cs, .agg ds =>
    match isEq op, lits cs, lits ds with
    | some e, some xs, some ys => some (CmpAt P t xs ys (cellsEq xs ys), .bool (if e then cellsEq xs ys else !(cellsEq xs ys)))
    | _, _, _ => none
  | _, _ => none

theorem eqGuard_lit {P : Program} {w : World} {op : BinOp} {t : TypeId} {x y : Operand} {a b : Value}
    (h : (∀ c, a ≠ .agg c) ∧ a ≠ .nilIface) : (eqGuard op t x y a b).run P w = .ok () w := by
  cases op <;> cases a <;> first | rfl | exact absurd rfl h.2 | exact absurd rfl (h.1 _)

theorem equalIn_bool {P : Program} {w : World} {t : TypeId} (h : P.underlying t = some .bool) (n : Nat) (a b : Bool) : (Op.equalIn (n + 1) t (.bool a) (.bool b)).run P w = .ok (a == b) w := by
  simp only [Op.equalIn, Sem.run_bind, run_underlying h, Result.andThen_ok, Sem.run_pure]

theorem abin_ok {P : Program} {ρ : Nat → Option Nat} {H : AH} {w : World} {op : BinOp} {t : TypeId} {x y : Operand} {va vb : AV} {a b : Value} {φ : Prop} {r : AV}
    (h : abin P op t va vb = some (φ, r)) (hφ : φ) (ha : Rep ρ H w va a) (hb : Rep ρ H w vb b) :
    ∃ z, (do eqGuard op t x y a b; binOp op t a b : Sem Value).run P w = .ok z w ∧ Rep ρ H w r z := by
  unfold abin at h
  split at h
  · rename_i k a' k' b'
    simp only [Rep] at ha hb
    subst ha hb
    have hg : (eqGuard op t x y (.int k a') (.int k' b')).run P w = .ok () w := eqGuard_lit ⟨fun _ => by simp, by simp⟩
    simp only [Sem.run_bind, hg, Result.andThen_ok]
    split at h
    · rename_i hk
      subst hk
      simp only [Option.map_eq_some_iff, Prod.mk.injEq] at h
      obtain ⟨⟨ψ, v⟩, h1, rfl, rfl⟩ := h
      exact ⟨v, aint_ok h1 hφ, by simp only [Rep]⟩
    · split at h
      · simp only [Option.some.injEq, Prod.mk.injEq] at h
        obtain ⟨rfl, rfl⟩ := h
        exact ⟨_, (ashift_ok hφ).1, by simp only [Rep]⟩
      · simp only [Option.some.injEq, Prod.mk.injEq] at h
        obtain ⟨rfl, rfl⟩ := h
        exact ⟨_, (ashift_ok hφ).2, by simp only [Rep]⟩
      · cases h
  · rename_i a' b'
    simp only [Rep] at ha hb
    subst ha hb
    have hg : (eqGuard op t x y (.bool a') (.bool b')).run P w = .ok () w := eqGuard_lit ⟨fun _ => by simp, by simp⟩
    simp only [Sem.run_bind, hg, Result.andThen_ok]
    simp only [Option.map_eq_some_iff, Prod.mk.injEq] at h
    obtain ⟨e, h1, rfl, rfl⟩ := h
    have heq : (Op.equal t (.bool a') (.bool b')).run P w = .ok (a' == b') w := by
      exact equalIn_bool hφ 9999 a' b'
    cases op <;> simp only [isEq, Option.some.injEq, reduceCtorEq] at h1 <;> subst h1
    · exact ⟨.bool (a' == b'), by simp only [binOp, Sem.run_bind, heq, Result.andThen_ok, Sem.run_pure], by simp only [Rep, if_true]⟩
    · exact ⟨.bool (!(a' == b')), by simp only [binOp, Sem.run_bind, heq, Result.andThen_ok, Sem.run_pure], by simp [Rep]⟩
  · rename_i a' b'
    simp only [Rep] at ha hb
    subst ha hb
    have hg : (eqGuard op t x y (.string a') (.string b')).run P w = .ok () w := eqGuard_lit ⟨fun _ => by simp, by simp⟩
    simp only [Sem.run_bind, hg, Result.andThen_ok]
    simp only [Option.map_eq_some_iff, Prod.mk.injEq] at h
    obtain ⟨⟨ψ, v⟩, h1, rfl, rfl⟩ := h
    exact ⟨v, astr_ok h1 hφ, by simp only [Rep]⟩
  · rename_i cs ds
    split at h
    · rename_i e xs ys h1 h2 h3
      simp only [Option.some.injEq, Prod.mk.injEq] at h
      obtain ⟨rfl, rfl⟩ := h
      simp only [Rep] at ha hb
      obtain ⟨us, rfl, ha⟩ := ha
      obtain ⟨vs, rfl, hb⟩ := hb
      have e1 := rep_of_lits h2 ha
      have e2 := rep_of_lits h3 hb
      subst e1 e2
      obtain ⟨heq, hg⟩ := hφ w
      simp only [Sem.run_bind, hg x y op, Result.andThen_ok]
      cases op <;> simp only [isEq, Option.some.injEq, reduceCtorEq] at h1 <;> subst h1
      · exact ⟨.bool (cellsEq us vs), by simp only [binOp, Sem.run_bind, heq, Result.andThen_ok, Sem.run_pure], by simp only [Rep, if_true]⟩
      · exact ⟨.bool (!cellsEq us vs), by simp only [binOp, Sem.run_bind, heq, Result.andThen_ok, Sem.run_pure], by simp [Rep]⟩
    · cases h
  · cases h

/-! ### Places -/
theorem add_add (a : Addr) (m n : Nat) : (a.add m).add n = a.add (m + n) := by
  unfold Addr.add
  by_cases h1 : m = 0 <;> by_cases h2 : n = 0 <;> simp [h1, h2, Nat.add_assoc]
theorem add_zero (a : Addr) : a.add 0 = a := by simp [Addr.add]
theorem add_flat (b o n : Nat) : (⟨b, o, none⟩ : Addr).add n = ⟨b, o + n, none⟩ := by
  unfold Addr.add
  split
  · rename_i h; simp [h]
  · rfl
theorem add_block (a : Addr) (n : Nat) : (a.add n).block = a.block := by unfold Addr.add; split <;> rfl

theorem CellsAt.drop {ρ : Nat → Option Nat} {H : AH} {w : World} {a : Addr} {xs : List Value} (h : CellsAt ρ H w a xs) (n : Nat) : CellsAt ρ H w (a.add n) (xs.drop n) := by
  intro j v hv
  rw [List.getElem?_drop] at hv
  rw [add_add]
  exact h _ _ hv
theorem CellsAt.take {ρ : Nat → Option Nat} {H : AH} {w : World} {a : Addr} {xs : List Value} (h : CellsAt ρ H w a xs) (n : Nat) : CellsAt ρ H w a (xs.take n) := by
  intro j v hv
  rw [List.getElem?_take] at hv
  split at hv
  · exact h _ _ hv
  · cases hv

/-- The cells of an object's element. -/
theorem Holds.elem {ρ : Nat → Option Nat} {H : AH} {w : World} (hh : Holds ρ H w) {i z fz e b : Nat} {es : List (List AV)} {cs : List AV} (ho : H.obj i = some (.cells z es fz)) (hb : ρ i = some b) (he : es[e]? = some cs) :
    ∃ xs, RepL ρ H w cs xs ∧ cs.length = z ∧ ∀ (k : Nat) v, xs[k]? = some v → w.cell? ⟨b, e * z + k, none⟩ = some v ∧ w.frozen? ⟨b, e * z + k, none⟩ = false := by
  rcases hh.obj i _ ho with ⟨b', ccs, t, xss, h1, h2, h3, h4, h5, h6, h7⟩ | ⟨_, h, _⟩
  · rw [hb] at h1
    injection h1 with h1
    subst h1
    obtain ⟨xs, hx, hr⟩ := h4.get he
    refine ⟨xs, hr, h3 _ (List.mem_of_getElem? he), fun k v hv => ?_⟩
    have := h7 e k xs v hx hv
    exact ⟨by simp [World.cell?, h2, this], by simp [World.frozen?, h2]⟩
  · subst h
    simp at he

end Go.Sim
