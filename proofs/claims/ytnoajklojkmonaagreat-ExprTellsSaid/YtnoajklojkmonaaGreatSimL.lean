/- How the goals are computed: equations for 'simp', which look at what decides alone. Conditions: none. -/
import Derived.Test.YtnoajklojkmonaaGreatSimK
set_option linter.unusedVariables false
set_option linter.unusedSimpArgs false
namespace Go.Sim

variable {P : Program} {ρ : Nat → Option Nat} {H : AH} {w : World}

/-- A choice whose branches wait for an argument: 'simp' does not look into them ahead of time. -/
def opt {α : Type} (x : Option α) (s : α → Prop) (n : Unit → Prop) : Prop :=
  match x with
  | some a => s a
  | none => n ()
theorem opt_some {α : Type} {a : α} {s : α → Prop} {n : Unit → Prop} : opt (some a) s n = s a := rfl
theorem opt_none {α : Type} {s : α → Prop} {n : Unit → Prop} : opt none s n = n () := rfl
def no (_ : Unit) : Prop := False
theorem no_eq {u : Unit} : no u = False := rfl

def aopP (P : Program) (ops : Array Oper) (o : Oper) (l : List Oper) (K : Tm → AH → Prop) (T : Tm) (H : AH) (x : Prop × AV) : Prop := x.1 ∧ aops P ops l K (tput T o.dst x.2) H
def aopE (P : Program) (ops : Array Oper) (o : Oper) (l : List Oper) (K : Tm → AH → Prop) (T : Tm) (H : AH) (x : Prop × AV × AH) : Prop := x.1 ∧ aops P ops l K (tput T o.dst x.2.1) x.2.2
def aopC (P : Program) (ops : Array Oper) (o : Oper) (l : List Oper) (K : Tm → AH → Prop) (T : Tm) (H : AH) (x : Prop × FuncId × List AV) : Prop := x.1 ∧ ACallK P x.2.1 x.2.2 o.dst (aops P ops l K) T H
def aopC? (P : Program) (ops : Array Oper) (o : Oper) (l : List Oper) (K : Tm → AH → Prop) (T : Tm) (H : AH) (_ : Unit) : Prop := opt (acallee T o.op) (aopC P ops o l K T H) no
def aopE? (P : Program) (ops : Array Oper) (o : Oper) (l : List Oper) (K : Tm → AH → Prop) (T : Tm) (H : AH) (_ : Unit) : Prop := opt (aeff P T H o.op) (aopE P ops o l K T H) (aopC? P ops o l K T H)
def gopP (P : Program) (ops : Array Oper) (o : Oper) (l : List Oper) (K : Tm → AH → Prop) (T : Tm) (H : AH) (c : Bool) (x : Prop × AV) : Prop := (c = true → x.1) ∧ aops P ops l K (tput T o.dst (.gv c x.2)) H
def gopL (P : Program) (ops : Array Oper) (o : Oper) (l : List Oper) (K : Tm → AH → Prop) (T : Tm) (H : AH) (c : Bool) (_ : Unit) : Prop := GLeaf P c o.dst (aops P ops l K) T H (acallee T o.op) (aeff P T H o.op)
def aopG (P : Program) (ops : Array Oper) (o : Oper) (l : List Oper) (K : Tm → AH → Prop) (T : Tm) (H : AH) : Option Bool → Prop
  | none => opt (apure P H T o.op) (aopP P ops o l K T H) (aopE? P ops o l K T H)
  | some c => opt (apure P H T o.op) (gopP P ops o l K T H c) (gopL P ops o l K T H c)
section
variable {ops : Array Oper} {o : Oper} {l : List Oper} {K : Tm → AH → Prop} {T : Tm}
theorem aopP_eq {φ : Prop} {r : AV} : aopP P ops o l K T H (φ, r) = (φ ∧ aops P ops l K (tput T o.dst r) H) := rfl
theorem aopE_eq {φ : Prop} {r : AV} {H' : AH} : aopE P ops o l K T H (φ, r, H') = (φ ∧ aops P ops l K (tput T o.dst r) H') := rfl
theorem aopC_eq {φ : Prop} {f : FuncId} {as : List AV} : aopC P ops o l K T H (φ, f, as) = (φ ∧ ACallK P f as o.dst (aops P ops l K) T H) := rfl
theorem aopC?_eq {u : Unit} : aopC? P ops o l K T H u = opt (acallee T o.op) (aopC P ops o l K T H) no := rfl
theorem aopE?_eq {u : Unit} : aopE? P ops o l K T H u = opt (aeff P T H o.op) (aopE P ops o l K T H) (aopC? P ops o l K T H) := rfl
theorem gopP_eq {c : Bool} {φ : Prop} {r : AV} : gopP P ops o l K T H c (φ, r) = ((c = true → φ) ∧ aops P ops l K (tput T o.dst (.gv c r)) H) := rfl
theorem gopL_eq {c : Bool} {u : Unit} : gopL P ops o l K T H c u = GLeaf P c o.dst (aops P ops l K) T H (acallee T o.op) (aeff P T H o.op) := rfl
theorem aopG_none : aopG P ops o l K T H none = opt (apure P H T o.op) (aopP P ops o l K T H) (aopE? P ops o l K T H) := rfl
theorem aopG_some {c : Bool} : aopG P ops o l K T H (some c) = opt (apure P H T o.op) (gopP P ops o l K T H c) (gopL P ops o l K T H c) := rfl
theorem aops_cons : aops P ops (o :: l) K T H = opt (gcond ops T o) (aopG P ops o l K T H) no := by
  simp only [aops, opt, no]
  split
  · rename_i h; simp only [h]
  · rename_i h; simp only [h, aopG, opt]
    split
    · rename_i h2; simp only [h2, aopP]
    · rename_i h2; simp only [h2, aopE?, opt]
      split
      · rename_i h3; simp only [h3, aopE]
      · rename_i h3; simp only [h3, aopC?, opt]
        split
        · rename_i h4; simp only [h4, aopC]
        · rename_i h4; simp only [h4, no]
  · rename_i h; simp only [h, aopG, opt]
    split
    · rename_i h2; simp only [h2, gopP]
    · rename_i h2; simp only [h2, gopL]
theorem aops_nil : aops P ops [] K T H = K T H := rfl
end

def ahdP (P : Program) (ops : Array Oper) (H0 : AH) (o : Oper) (l : List Oper) (K : Tm → AH → Prop) (T : Tm) (H : AH) (x : Prop × AV) : Prop := x.1 ∧ ahead P ops H0 l K (tput T o.dst x.2) H
def ahdN (P : Program) (ops : Array Oper) (H0 : AH) (o : Oper) (l : List Oper) (K : Tm → AH → Prop) (T : Tm) (H : AH) (x : Prop × (Nat → AV) × AObj) : Prop := x.1 ∧ ahead P ops H0 l K (tput T o.dst (x.2.1 H.nxt)) (H.add x.2.2)
def ahdQ (P : Program) (f : FuncId) (args : List AV) (d : Option Nat) (C : Tm → AH → Prop) (T : Tm) (H : AH) : Prop := ∃ r, Quiet P f args r ∧ C (tput T d r) H
def ahdC (P : Program) (ops : Array Oper) (H0 : AH) (o : Oper) (l : List Oper) (K : Tm → AH → Prop) (T : Tm) (H : AH) (x : Prop × FuncId × List AV) : Prop := x.1 ∧ ahdQ P x.2.1 x.2.2 o.dst (ahead P ops H0 l K) T H
def ahdC? (P : Program) (ops : Array Oper) (H0 : AH) (o : Oper) (l : List Oper) (K : Tm → AH → Prop) (T : Tm) (H : AH) (_ : Unit) : Prop := opt (acallee T o.op) (ahdC P ops H0 o l K T H) no
def ahdS (P : Program) (ops : Array Oper) (H0 : AH) (o : Oper) (l : List Oper) (K : Tm → AH → Prop) (T : Tm) (H : AH) (x : Prop × Nat × AObj) : Prop := x.1 ∧ ahead P ops H0 l K (tput T o.dst .any) (H.set x.2.1 x.2.2)
def ahdS? (P : Program) (ops : Array Oper) (H0 : AH) (o : Oper) (l : List Oper) (K : Tm → AH → Prop) (T : Tm) (H : AH) (_ : Unit) : Prop := opt (astoreN P T o.op) (ahdS P ops H0 o l K T H) (ahdC? P ops H0 o l K T H)
def ahdN? (P : Program) (ops : Array Oper) (H0 : AH) (o : Oper) (l : List Oper) (K : Tm → AH → Prop) (T : Tm) (H : AH) (_ : Unit) : Prop := opt (anew P T o.op) (ahdN P ops H0 o l K T H) (ahdS? P ops H0 o l K T H)
def ghdP (P : Program) (ops : Array Oper) (H0 : AH) (o : Oper) (l : List Oper) (K : Tm → AH → Prop) (T : Tm) (H : AH) (c : Bool) (x : Prop × AV) : Prop := (c = true → x.1) ∧ ahead P ops H0 l K (tput T o.dst (.gv c x.2)) H
def ghdC (P : Program) (ops : Array Oper) (H0 : AH) (o : Oper) (l : List Oper) (K : Tm → AH → Prop) (T : Tm) (H : AH) (c : Bool) (x : Prop × FuncId × List AV) : Prop := (c = true → x.1) ∧ GCallK P c x.2.1 x.2.2 o.dst (ahead P ops H0 l K) T H
def ghdZ (P : Program) (ops : Array Oper) (H0 : AH) (o : Oper) (l : List Oper) (K : Tm → AH → Prop) (T : Tm) (H : AH) (c : Bool) (_ : Unit) : Prop := c = false ∧ ahead P ops H0 l K (tput T o.dst (.gv c .any)) H
def ghdC? (P : Program) (ops : Array Oper) (H0 : AH) (o : Oper) (l : List Oper) (K : Tm → AH → Prop) (T : Tm) (H : AH) (c : Bool) (_ : Unit) : Prop := opt (acallee T o.op) (ghdC P ops H0 o l K T H c) (ghdZ P ops H0 o l K T H c)
def ahdG (P : Program) (ops : Array Oper) (H0 : AH) (o : Oper) (l : List Oper) (K : Tm → AH → Prop) (T : Tm) (H : AH) : Option Bool → Prop
  | none => opt (apure P H0 T o.op) (ahdP P ops H0 o l K T H) (ahdN? P ops H0 o l K T H)
  | some c => opt (apure P H0 T o.op) (ghdP P ops H0 o l K T H c) (ghdC? P ops H0 o l K T H c)
section
variable {ops : Array Oper} {H0 : AH} {o : Oper} {l : List Oper} {K : Tm → AH → Prop} {T : Tm}
theorem ahdP_eq {φ : Prop} {r : AV} : ahdP P ops H0 o l K T H (φ, r) = (φ ∧ ahead P ops H0 l K (tput T o.dst r) H) := rfl
theorem ahdN_eq {φ : Prop} {f : Nat → AV} {ob : AObj} : ahdN P ops H0 o l K T H (φ, f, ob) = (φ ∧ ahead P ops H0 l K (tput T o.dst (f H.nxt)) (H.add ob)) := rfl
theorem ahdC_eq {φ : Prop} {f : FuncId} {as : List AV} : ahdC P ops H0 o l K T H (φ, f, as) = (φ ∧ ahdQ P f as o.dst (ahead P ops H0 l K) T H) := rfl
theorem ahdC?_eq {u : Unit} : ahdC? P ops H0 o l K T H u = opt (acallee T o.op) (ahdC P ops H0 o l K T H) no := rfl
theorem ahdN?_eq {u : Unit} : ahdN? P ops H0 o l K T H u = opt (anew P T o.op) (ahdN P ops H0 o l K T H) (ahdS? P ops H0 o l K T H) := rfl
theorem ahdS_eq {φ : Prop} {i : Nat} {ob : AObj} : ahdS P ops H0 o l K T H (φ, i, ob) = (φ ∧ ahead P ops H0 l K (tput T o.dst .any) (H.set i ob)) := rfl
theorem ahdS?_eq {u : Unit} : ahdS? P ops H0 o l K T H u = opt (astoreN P T o.op) (ahdS P ops H0 o l K T H) (ahdC? P ops H0 o l K T H) := rfl
theorem ghdP_eq {c : Bool} {φ : Prop} {r : AV} : ghdP P ops H0 o l K T H c (φ, r) = ((c = true → φ) ∧ ahead P ops H0 l K (tput T o.dst (.gv c r)) H) := rfl
theorem ghdC_eq {c : Bool} {φ : Prop} {f : FuncId} {as : List AV} : ghdC P ops H0 o l K T H c (φ, f, as) = ((c = true → φ) ∧ GCallK P c f as o.dst (ahead P ops H0 l K) T H) := rfl
theorem ghdC?_eq {c : Bool} {u : Unit} : ghdC? P ops H0 o l K T H c u = opt (acallee T o.op) (ghdC P ops H0 o l K T H c) (ghdZ P ops H0 o l K T H c) := rfl
theorem ghdZ_eq {c : Bool} {u : Unit} : ghdZ P ops H0 o l K T H c u = (c = false ∧ ahead P ops H0 l K (tput T o.dst (.gv c .any)) H) := rfl
theorem ahdG_none : ahdG P ops H0 o l K T H none = opt (apure P H0 T o.op) (ahdP P ops H0 o l K T H) (ahdN? P ops H0 o l K T H) := rfl
theorem ahdG_some {c : Bool} : ahdG P ops H0 o l K T H (some c) = opt (apure P H0 T o.op) (ghdP P ops H0 o l K T H c) (ghdC? P ops H0 o l K T H c) := rfl
theorem ahead_cons : ahead P ops H0 (o :: l) K T H = opt (gcond ops T o) (ahdG P ops H0 o l K T H) no := by
  simp only [ahead, opt, no]
  split
  · rename_i h; simp only [h]
  · rename_i h; simp only [h, ahdG, opt]
    split
    · rename_i h2; simp only [h2, ahdP]
    · rename_i h2; simp only [h2, ahdN?, opt]
      split
      · rename_i h3; simp only [h3, ahdN]
      · rename_i h3; simp only [h3, ahdS?, opt]
        split
        · rename_i h5; simp only [h5, ahdS]
        · rename_i h5; simp only [h5, ahdC?, opt]
          split
          · rename_i h4; simp only [h4, ahdC, ahdQ]
          · rename_i h4; simp only [h4, no]
  · rename_i h; simp only [h, ahdG, opt]
    split
    · rename_i h2; simp only [h2, ghdP]
    · rename_i h2; simp only [h2, ghdC?, opt]
      split
      · rename_i h4; simp only [h4, ghdC]
      · rename_i h4; simp only [h4, ghdZ]
theorem ahead_nil : ahead P ops H0 [] K T H = K T H := rfl
end

def acondT (v : AV) (A B : Tm → AH → Prop) (T : Tm) (H : AH) : Prop := acond v (A T H) (B T H)
theorem acondT_true {A B : Tm → AH → Prop} {T : Tm} {H : AH} : acondT (.lit (.bool true)) A B T H = A T H := by simp [acondT, acond]
theorem acondT_false {A B : Tm → AH → Prop} {T : Tm} {H : AH} : acondT (.lit (.bool false)) A B T H = B T H := by simp [acondT, acond]
theorem acondT_lit {b : Bool} {A B : Tm → AH → Prop} {T : Tm} {H : AH} : acondT (.lit (.bool b)) A B T H = ((b = true → A T H) ∧ (b = false → B T H)) := rfl
/-- The head in any order, the tail in its own: a goal for 'simp'. -/
theorem areg_at {n0 : Nat} {ops : Array Oper} {K : Tm → AH → Prop} {T : Tm} {H : AH} (n : Nat) (h1 : headOk ops n = true) (h2 : chainOk ops n = true) (h : ahead P ops H (ops.toList.take n) (aops P ops (ops.toList.drop n) K) T H) : Wk n0 (AReg P ops K) T H := .inl (areg_chain n h1 h2 h)
/-- The same, once the state is told otherwise: rows shut, slots forgotten. -/
theorem areg_wk (hs : HSc H) {ops : Array Oper} {K : Tm → AH → Prop} {T : Tm} {l : List (Option AObj)} (n : Nat) (T' : Tm) (l' : List (Option AObj)) (h1 : headOk ops n = true) (h2 : chainOk ops n = true) (ht : SealT some (H.plus l) (H.plus l') T T') (ho : SealOs (H.plus l) (H.plus l') l l')
    (h : ahead P ops (H.plus l') (ops.toList.take n) (aops P ops (ops.toList.drop n) K) T' (H.plus l')) : Wk H.nxt (AReg P ops K) T (H.plus l) := .inr (.inl ⟨some, T', _, weak_plus hs ht ho, areg_chain n h1 h2 h⟩)

theorem aw_skip {n0 : Nat} {Q : Exit → Tm → AH → Prop} {T : Tm} {H : AH} : aw P n0 .skip Q T H = Q .normal T H := rfl
theorem aw_region {n0 i : Nat} {ops : Array Oper} {Q : Exit → Tm → AH → Prop} {T : Tm} {H : AH} : aw P n0 (.region i ops false) Q T H = aops P ops ops.toList (Q .normal) T H := rfl
theorem aw_regionD {n0 i : Nat} {ops : Array Oper} {Q : Exit → Tm → AH → Prop} {T : Tm} {H : AH} : aw P n0 (.region i ops true) Q T H = Wk n0 (AReg P ops (Q .normal)) T H := rfl
theorem aw_seq {n0 : Nat} {a b : Code} {Q : Exit → Tm → AH → Prop} {T : Tm} {H : AH} : aw P n0 (.seq a b) Q T H = aw P n0 a (thn (aw P n0 b Q) Q) T H := rfl
theorem aw_cond {n0 : Nat} {c : Operand} {a b : Code} {Q : Exit → Tm → AH → Prop} {T : Tm} {H : AH} : aw P n0 (.cond c a b) Q T H = acondT (ev T c) (aw P n0 a Q) (aw P n0 b Q) T H := rfl
theorem aw_block {n0 i : Nat} {c : Code} {Q : Exit → Tm → AH → Prop} {T : Tm} {H : AH} : aw P n0 (.block i c) Q T H = aw P n0 c (inb i Q) T H := rfl
theorem aw_loop {n0 : Nat} {c : Code} {Q : Exit → Tm → AH → Prop} {T : Tm} {H : AH} : aw P n0 (.loop c) Q T H = ALoop n0 (aw P n0 c) Q T H := rfl
theorem aw_exit {n0 i : Nat} {Q : Exit → Tm → AH → Prop} {T : Tm} {H : AH} : aw P n0 (.exit i) Q T H = Q (.exit i) T H := rfl
theorem aw_label {n0 i : Nat} {Q : Exit → Tm → AH → Prop} {T : Tm} {H : AH} : aw P n0 (.label i) Q T H = Q .normal T H := rfl
theorem aw_ret {n0 : Nat} {Q : Exit → Tm → AH → Prop} {T : Tm} {H : AH} : aw P n0 .ret Q T H = Q .ret T H := rfl
theorem thn_normal {C : Tm → AH → Prop} {Q : Exit → Tm → AH → Prop} {T : Tm} {H : AH} : thn C Q .normal T H = C T H := rfl
theorem thn_exit {C : Tm → AH → Prop} {Q : Exit → Tm → AH → Prop} {i : Nat} {T : Tm} {H : AH} : thn C Q (.exit i) T H = Q (.exit i) T H := rfl
theorem thn_ret {C : Tm → AH → Prop} {Q : Exit → Tm → AH → Prop} {T : Tm} {H : AH} : thn C Q .ret T H = Q .ret T H := rfl
theorem inb_normal {id : Nat} {Q : Exit → Tm → AH → Prop} {T : Tm} {H : AH} : inb id Q .normal T H = Q .normal T H := rfl
theorem inb_exit {id i : Nat} {Q : Exit → Tm → AH → Prop} {T : Tm} {H : AH} : inb id Q (.exit i) T H = (if i = id then Q .normal else Q (.exit i)) T H := by simp only [inb]; split <;> rfl
theorem inb_ret {id : Nat} {Q : Exit → Tm → AH → Prop} {T : Tm} {H : AH} : inb id Q .ret T H = Q .ret T H := rfl

theorem ahdq {f : FuncId} {args : List AV} {r : AV} {d : Option Nat} {C : Tm → AH → Prop} {T : Tm} (hq : Quiet P f args r) (h : C (tput T d r) H) : ahdQ P f args d C T H := ⟨r, hq, h⟩

/-- A guarded call that is quiet. -/
theorem gcallq' {c : Bool} {f : FuncId} {args : List AV} {φ : Prop} (r : AV) {d : Option Nat} {C : Tm → AH → Prop} {T : Tm} {eff : Option (Prop × AV × AH)} (hφ : c = true → φ) (hq : c = true → Quiet P f args r) (h : C (tput T d (.gv c r)) H) : GLeaf P c d C T H (some (φ, f, args)) eff :=
  .inl ⟨_, _, _, rfl, hφ, r, hq, h⟩
/-- A guard that is met: as without it. -/
theorem gdo {d : Option Nat} {C : Tm → AH → Prop} {T : Tm} {cal : Option (Prop × FuncId × List AV)} {φ : Prop} {r : AV} {H' : AH} (hφ : φ) (h : C (tput T d r) H') : GLeaf P true d C T H cal (some (φ, r, H')) := .inr (.inl ⟨rfl, .inl ⟨_, _, _, rfl, hφ, h⟩⟩)
theorem gcall {d : Option Nat} {C : Tm → AH → Prop} {T : Tm} {f : FuncId} {args : List AV} {φ : Prop} {eff : Option (Prop × AV × AH)} (hφ : φ) (h : ACallK P f args d C T H) : GLeaf P true d C T H (some (φ, f, args)) eff := .inr (.inl ⟨rfl, .inr ⟨_, _, _, rfl, hφ, h⟩⟩)
theorem gskip {d : Option Nat} {C : Tm → AH → Prop} {T : Tm} {cal : Option (Prop × FuncId × List AV)} {eff : Option (Prop × AV × AH)} (h : C (tput T d (.gv false .any)) H) : GLeaf P false d C T H cal eff := .inr (.inr ⟨rfl, h⟩)
/-- What a quiet function leaves. -/
def qfin (H H' : AH) (r : AV) (x : Prop × AV) : Prop := x.1 ∧ Seal some H' (H.plus []) x.2 r
theorem qfin_eq {H H' : AH} {r v : AV} {φ : Prop} : qfin H H' r (φ, v) = (φ ∧ Seal some H' (H.plus []) v r) := rfl
def qret (P : Program) (H : AH) (rs : List ResultVar) (r : AV) : Exit → Tm → AH → Prop
  | .normal, T, H' => (∃ l, H' = H.plus l) ∧ opt (ares P H' rs T) (qfin H H' r) no
  | .ret, T, H' => (∃ l, H' = H.plus l) ∧ opt (ares P H' rs T) (qfin H H' r) no
  | _, _, _ => False
theorem qret_ret {H : AH} {rs : List ResultVar} {r : AV} {T : Tm} {l : List (Option AObj)} : qret P H rs r .ret T (H.plus l) = opt (ares P (H.plus l) rs T) (qfin H (H.plus l) r) no := by
  simp only [qret]
  exact propext ⟨fun h => h.2, fun h => ⟨⟨l, rfl⟩, h⟩⟩
theorem qret_normal {H : AH} {rs : List ResultVar} {r : AV} {T : Tm} {l : List (Option AObj)} : qret P H rs r .normal T (H.plus l) = opt (ares P (H.plus l) rs T) (qfin H (H.plus l) r) no := by
  simp only [qret]
  exact propext ⟨fun h => h.2, fun h => ⟨⟨l, rfl⟩, h⟩⟩

/-- What any function leaves: of the caller's objects, too. -/
def kfin (H H' : AH) (K : AV → AH → Prop) (n0 : Nat) (x : Prop × AV) : Prop := x.1 ∧ (K x.2 H' ∨ ∃ r' H2, K r' H2 ∧ Weak some n0 [(0, x.2)] H' [(0, r')] H2)
theorem kfin_eq {H H' : AH} {K : AV → AH → Prop} {n0 : Nat} {φ : Prop} {v : AV} : kfin H H' K n0 (φ, v) = (φ ∧ (K v H' ∨ ∃ r' H2, K r' H2 ∧ Weak some n0 [(0, v)] H' [(0, r')] H2)) := rfl
theorem retq_ret {n0 : Nat} {H : AH} {rs : List ResultVar} {K : AV → AH → Prop} {T : Tm} : retQ P n0 rs K .ret T H = opt (ares P H rs T) (kfin H H K n0) no := by
  simp only [retQ, RetOk, opt, kfin, no]
  cases ares P H rs T with
  | none => rfl
  | some x => rfl
theorem retk {K : AV → AH → Prop} {n0 : Nat} {v : AV} {φ : Prop} {H H' : AH} (hφ : φ) (h : K v H') : kfin H H' K n0 (φ, v) := ⟨hφ, .inl h⟩
theorem retq_normal {n0 : Nat} {H : AH} {rs : List ResultVar} {K : AV → AH → Prop} {T : Tm} : retQ P n0 rs K .normal T H = opt (ares P H rs T) (kfin H H K n0) no := by
  simp only [retQ, RetOk, opt, kfin, no]
  cases ares P H rs T with
  | none => rfl
  | some x => rfl

theorem quiet_of {f : FuncId} {fn : Func} {c : Code} {rs : Array ResultVar} {args : List AV} {r : AV} (hf : P.funcs[f]? = some fn) (hb : fn.body = some c) (hrs : fn.results = rs) (hcall : callable P f = true) (hm : P.follows .mixedOrders = true)
    (hok : okCode fn.ntmps c = true) (hargs : Nat.ble args.length fn.ntmps = true) (h : ∀ H, HSc H → aw P H.nxt c (qret P H rs.toList r) (initT 0 args) (H.plus [])) : Quiet P f args r :=
  quiet_sc hf hb hrs hcall hm hok (Nat.le_of_ble_eq_true hargs) fun H hs => by
    refine aw_mono _ _ _ _ _ (fun e T H' he => ?_) (h H hs)
    have fin : ∀ T H', ((∃ l, H' = H.plus l) ∧ opt (ares P H' rs.toList T) (qfin H H' r) no) → RetOk P H.nxt rs.toList (fun r' H' => r' = r ∧ H' = H) T H' := by
      rintro T H' ⟨⟨l, rfl⟩, h⟩
      cases hr : ares P (H.plus l) rs.toList T with
      | none => rw [hr] at h; exact h.elim
      | some v =>
        rw [hr] at h
        exact retok_plus hs hr h.1 (by have := h.2; rwa [plus_nil hs] at this) ⟨rfl, rfl⟩
    cases e with
    | normal => exact fin T H' he
    | ret => exact fin T H' he
    | exit id => exact he
    | goto l => exact he
    | panic ch => exact he
    | outgrown => exact he

/-! ### Values, a form at a time -/
theorem core_lit (v : Value) : AV.core (.lit v) = .lit v := rfl
theorem grd_lit (v : Value) : AV.grd (.lit v) = true := rfl
theorem acells_lit (v : Value) : acells (.lit v) = [.lit v] := rfl
theorem one_lit (v : Value) : AV.one (.lit v) = v.oneCell' := rfl
theorem core_agg (cs : List AV) : AV.core (.agg cs) = .agg cs := rfl
theorem grd_agg (cs : List AV) : AV.grd (.agg cs) = true := rfl
theorem acells_agg (cs : List AV) : acells (.agg cs) = cs := rfl
theorem one_agg (cs : List AV) : AV.one (.agg cs) = false := rfl
theorem core_tup (cs : List AV) : AV.core (.tup cs) = .tup cs := rfl
theorem grd_tup (cs : List AV) : AV.grd (.tup cs) = true := rfl
theorem acells_tup (cs : List AV) : acells (.tup cs) = [.tup cs] := rfl
theorem one_tup (cs : List AV) : AV.one (.tup cs) = false := rfl
theorem core_sl (es : List (List AV)) : AV.core (.sl es) = .sl es := rfl
theorem grd_sl (es : List (List AV)) : AV.grd (.sl es) = true := rfl
theorem acells_sl (es : List (List AV)) : acells (.sl es) = [.sl es] := rfl
theorem one_sl (es : List (List AV)) : AV.one (.sl es) = true := rfl
theorem core_esl  : AV.core (.esl) = .esl := rfl
theorem grd_esl  : AV.grd (.esl) = true := rfl
theorem acells_esl  : acells (.esl) = [.esl] := rfl
theorem one_esl  : AV.one (.esl) = true := rfl
theorem core_rsl (i z o n : Nat) : AV.core (.rsl i z o n) = .rsl i z o n := rfl
theorem grd_rsl (i z o n : Nat) : AV.grd (.rsl i z o n) = true := rfl
theorem acells_rsl (i z o n : Nat) : acells (.rsl i z o n) = [.rsl i z o n] := rfl
theorem one_rsl (i z o n : Nat) : AV.one (.rsl i z o n) = true := rfl
theorem core_ptr (i z e c : Nat) : AV.core (.ptr i z e c) = .ptr i z e c := rfl
theorem grd_ptr (i z e c : Nat) : AV.grd (.ptr i z e c) = true := rfl
theorem acells_ptr (i z e c : Nat) : acells (.ptr i z e c) = [.ptr i z e c] := rfl
theorem one_ptr (i z e c : Nat) : AV.one (.ptr i z e c) = true := rfl
theorem core_iptr (cs : List AV) : AV.core (.iptr cs) = .iptr cs := rfl
theorem grd_iptr (cs : List AV) : AV.grd (.iptr cs) = true := rfl
theorem acells_iptr (cs : List AV) : acells (.iptr cs) = [.iptr cs] := rfl
theorem one_iptr (cs : List AV) : AV.one (.iptr cs) = true := rfl
theorem core_clo (f : Fn) (a b : List AV) : AV.core (.clo f a b) = .clo f a b := rfl
theorem grd_clo (f : Fn) (a b : List AV) : AV.grd (.clo f a b) = true := rfl
theorem acells_clo (f : Fn) (a b : List AV) : acells (.clo f a b) = [.clo f a b] := rfl
theorem one_clo (f : Fn) (a b : List AV) : AV.one (.clo f a b) = true := rfl
theorem core_mp (i : Nat) : AV.core (.mp i) = .mp i := rfl
theorem grd_mp (i : Nat) : AV.grd (.mp i) = true := rfl
theorem acells_mp (i : Nat) : acells (.mp i) = [.mp i] := rfl
theorem one_mp (i : Nat) : AV.one (.mp i) = true := rfl
theorem core_any  : AV.core (.any) = .any := rfl
theorem grd_any  : AV.grd (.any) = true := rfl
theorem acells_any  : acells (.any) = [.any] := rfl
theorem one_any  : AV.one (.any) = false := rfl
theorem core_gv (g : Bool) (v : AV) : AV.core (.gv g v) = v := rfl
theorem grd_gv (g : Bool) (v : AV) : AV.grd (.gv g v) = g := rfl
theorem fit_agg (cs : List AV) : AV.fit (.agg cs) = true := rfl
theorem fit_lit (v : Value) : AV.fit (.lit v) = v.oneCell' := rfl
theorem fit_sl (es : List (List AV)) : AV.fit (.sl es) = true := rfl
theorem fit_esl  : AV.fit (.esl) = true := rfl
theorem fit_rsl (i z o n : Nat) : AV.fit (.rsl i z o n) = true := rfl
theorem fit_ptr (i z e c : Nat) : AV.fit (.ptr i z e c) = true := rfl
theorem fit_iptr (cs : List AV) : AV.fit (.iptr cs) = true := rfl
theorem fit_clo (f : Fn) (a b : List AV) : AV.fit (.clo f a b) = true := rfl
theorem fit_mp (i : Nat) : AV.fit (.mp i) = true := rfl

/-! ### A caller's object, set -/
section
variable {i k : Nat} {o o' : AObj} {l : List (Option AObj)}
theorem set_nxt : (H.set i o).nxt = H.nxt := rfl
theorem del_nxt : (H.del i).nxt = H.nxt := rfl
theorem plus_dellow (H : AH) (l : List (Option AObj)) {j : Nat} (h : j < H.nxt) : (H.plus l).del j = (H.del j).plus l := by
  refine ah_ext (fun q => ?_) rfl
  show (if q = j then none else (if q < H.nxt then H.obj q else (l[q - H.nxt]?).join)) = (if q < H.nxt then (if q = j then none else H.obj q) else (l[q - H.nxt]?).join)
  by_cases e : q = j
  · subst e; rw [if_pos rfl, if_pos h, if_pos rfl]
  · rw [if_neg e, if_neg e]
theorem set_set : (H.set i o).set i o' = H.set i o' := by
  refine ah_ext (fun q => ?_) rfl
  show (if q = i then some o' else (if q = i then some o else H.obj q)) = if q = i then some o' else H.obj q
  split <;> rfl
theorem plus_setobj (h : i < H.nxt) : ((H.set i o).plus l).obj i = some o := by
  rw [plus_low (H.set i o) l h]
  show (if i = i then some o else H.obj i) = some o
  rw [if_pos rfl]
theorem plus_obj_set : ((H.set i o).plus l).obj (H.nxt + k) = (l[k]?).join := plus_obj (H.set i o) l k
theorem plus_set_set (hk : k < l.length) : ((H.set i o).plus l).set (H.nxt + k) o' = (H.set i o).plus (l.set k (some o')) := plus_set (H.set i o) l k o' hk
/-- The state that lies in one object of one cell. -/
def stCell {σ : Type} (i : Nat) (f : σ → List AV) : St σ where
  inv s H B := H.obj i = some (.cells (f s).length [f s] 0) ∧ i < H.nxt ∧ B = fun q => q = i
  stable := by
    rintro s H H' B ⟨h1, h2, rfl⟩ h3 h4
    exact ⟨by rw [h3 i rfl]; exact h1, by omega, rfl⟩
  low := by
    rintro s H B ⟨h1, h2, rfl⟩ q rfl
    exact h2
theorem stCell_moves {σ : Type} {f : σ → List AV} {s : σ} {B : Nat → Prop} (hi : i < H.nxt) (hB : B = fun q => q = i) : Moves (stCell i f) s H B ((H.set i (.cells (f s).length [f s] 0)).plus l) := by
  subst hB
  refine ⟨Nat.le_add_right _ _, fun q hq hb => ?_, fun q => q = i, ⟨plus_setobj hi, Nat.lt_of_lt_of_le hi (Nat.le_add_right _ _), rfl⟩, fun q hq => .inl hq⟩
  rw [plus_low (H.set i _) l hq]
  show (if q = i then _ else H.obj q) = _
  rw [if_neg hb]
end
/-! ### Lists at a place -/
theorem getD_map {α β : Type} (f : α → β) (l : List α) (d : β) (i : Nat) (h : i < l.length) : (l.map f).getD i d = f l[i] := by
  simp [List.getD_eq_getElem?_getD, h]

theorem pickv_lit {p x y : Bool} : pickv p (.lit (.bool x)) (.lit (.bool y)) = .lit (.bool ((p && x) || (!p && y))) := by cases p <;> cases x <;> cases y <;> rfl
theorem beq_tt (b : Bool) : (b == true) = b := by cases b <;> rfl
theorem beq_ff (b : Bool) : (b == false) = !b := by cases b <;> rfl
theorem app_get0 {α : Type} (l m : List α) : (l ++ m)[l.length]? = m[0]? := by rw [List.getElem?_append_right (Nat.le_refl _), Nat.sub_self]
theorem app_get {α : Type} (l m : List α) (i : Nat) : (l ++ m)[l.length + i]? = m[i]? := by rw [List.getElem?_append_right (by omega), Nat.add_sub_cancel_left]
theorem app_set0 {α : Type} (l m : List α) (b : α) : (l ++ m).set l.length b = l ++ m.set 0 b := by rw [List.set_append_right _ _ (Nat.le_refl _), Nat.sub_self]
theorem app_set {α : Type} (l m : List α) (i : Nat) (b : α) : (l ++ m).set (l.length + i) b = l ++ m.set i b := by rw [List.set_append_right _ _ (by omega), Nat.add_sub_cancel_left]
theorem lt_s0 (n : Nat) : (0 < n + 1) = True := by simp
theorem lt_s1 (n : Nat) : (1 < n + 1 + 1) = True := by simp
theorem lt_s2 (n : Nat) : (2 < n + 1 + 1 + 1) = True := by simp
theorem lt_s3 (n : Nat) : (3 < n + 1 + 1 + 1 + 1) = True := by simp
theorem lt_s4 (n : Nat) : (4 < n + 1 + 1 + 1 + 1 + 1) = True := by simp
theorem lt_s5 (n : Nat) : (5 < n + 1 + 1 + 1 + 1 + 1 + 1) = True := by simp
theorem lt_s6 (n : Nat) : (6 < n + 1 + 1 + 1 + 1 + 1 + 1 + 1) = True := by simp
theorem lt_s7 (n : Nat) : (7 < n + 1 + 1 + 1 + 1 + 1 + 1 + 1 + 1) = True := by simp
theorem lt_s8 (n : Nat) : (8 < n + 1 + 1 + 1 + 1 + 1 + 1 + 1 + 1 + 1) = True := by simp
theorem toNat_ofNat (n : Nat) : (n : Int).toNat = n := rfl

theorem seal_self {π : Nat → Option Nat} {H H' : AH} {v : AV} (h : Pure v) : Seal π H H' v v = True := eq_true (seal_pure H H' v h)
theorem sealL_self {π : Nat → Option Nat} {H H' : AH} {v : List AV} (h : PureL v) : SealL π H H' v v = True := eq_true (sealL_pure H H' v h)
theorem sealLL_self {π : Nat → Option Nat} {H H' : AH} {v : List (List AV)} (h : PureLL v) : SealLL π H H' v v = True := eq_true (sealLL_pure H H' v h)
/-! ### 'Seal', a case at a time -/
section
variable {H H' : AH} {π : Nat → Option Nat}
theorem sl_lit {v : AV} {x : Value} : Seal π H H' v (.lit x) = (v = .lit x) := by simp only [Seal]
theorem sl_any {v : AV} : Seal π H H' v .any = True := by simp only [Seal]
theorem sl_agg {ds cs : List AV} : Seal π H H' (.agg ds) (.agg cs) = SealL π H H' ds cs := by simp only [Seal]
theorem sl_tup {ds cs : List AV} : Seal π H H' (.tup ds) (.tup cs) = SealL π H H' ds cs := by simp only [Seal]
theorem sl_sl {ds es : List (List AV)} : Seal π H H' (.sl ds) (.sl es) = SealLL π H H' ds es := by simp only [Seal]
def slO (π : Nat → Option Nat) (H H' : AH) (ob : Option AObj) (i z o n : Nat) (es : List (List AV)) : Prop :=
  match ob with
  | some (.cells z' ds _) => z' = z ∧ o + n ≤ ds.length ∧ SealLL π H H' ((ds.drop o).take n) es ∧ Shut π H H' i (o + n)
  | _ => False
theorem sl_rsl {i z o n : Nat} {es : List (List AV)} : Seal π H H' (.rsl i z o n) (.sl es) = slO π H H' (H.obj i) i z o n es := by
  simp only [Seal, slO]
  refine propext ⟨?_, ?_⟩
  · rintro ⟨ds, fz, h1, h2⟩
    rw [h1]
    exact ⟨rfl, h2⟩
  · intro h
    split at h
    · rename_i z' ds fz ho
      obtain ⟨rfl, h⟩ := h
      exact ⟨ds, fz, ho, h⟩
    · exact h.elim
theorem sl_esl {es : List (List AV)} : Seal π H H' .esl (.sl es) = (es = []) := by simp only [Seal]
theorem sl_nil {es : List (List AV)} : Seal π H H' (.lit (.slice none 0 0)) (.sl es) = (es = []) := by simp only [Seal]
theorem sl_eslesl : Seal π H H' .esl .esl = True := by simp [Seal]
theorem sl_eslnil : Seal π H H' (.lit (.slice none 0 0)) .esl = True := by simp [Seal]
theorem sl_rslrsl {i z o n j z' o' n' : Nat} : Seal π H H' (.rsl i z o n) (.rsl j z' o' n') = ((π j = some i ∧ z = z' ∧ o = o' ∧ n = n') ∧ j < H'.nxt) := by
  simp only [Seal, AV.rsl.injEq, reduceCtorEq, or_self, and_false, or_false]
  refine propext ⟨?_, ?_⟩
  · rintro ⟨k, h1, ⟨rfl, h2⟩, h3⟩
    exact ⟨⟨h1, h2⟩, h3⟩
  · rintro ⟨⟨h1, h2⟩, h3⟩
    exact ⟨i, h1, ⟨rfl, h2⟩, h3⟩
theorem sl_eslrsl {j z' o' n' : Nat} : Seal π H H' .esl (.rsl j z' o' n') = (n' = 0 ∧ j < H'.nxt) := by simp [Seal]
theorem sl_nilrsl {j z' o' n' : Nat} : Seal π H H' (.lit (.slice none 0 0)) (.rsl j z' o' n') = (n' = 0 ∧ j < H'.nxt) := by simp [Seal]
theorem sl_ptr {i z e c j z' e' c' : Nat} : Seal π H H' (.ptr i z e c) (.ptr j z' e' c') = ((π j = some i ∧ z = z' ∧ e = e' ∧ c = c') ∧ j < H'.nxt) := by
  simp only [Seal, AV.ptr.injEq]
  refine propext ⟨?_, ?_⟩
  · rintro ⟨k, h1, ⟨rfl, h2⟩, h3⟩
    exact ⟨⟨h1, h2⟩, h3⟩
  · rintro ⟨⟨h1, h2⟩, h3⟩
    exact ⟨i, h1, ⟨rfl, h2⟩, h3⟩
theorem sl_iptr {ds cs : List AV} : Seal π H H' (.iptr ds) (.iptr cs) = SealL π H H' ds cs := by simp only [Seal]
def slP (π : Nat → Option Nat) (H H' : AH) (ob : Option AObj) (i z e c : Nat) (cs : List AV) : Prop :=
  match ob with
  | some (.cells z' ds _) => z' = z ∧ e < ds.length ∧ SealL π H H' ((ds.getD e []).drop c) cs ∧ Shut π H H' i (e + 1)
  | _ => False
theorem sl_ptri {i z e c : Nat} {cs : List AV} : Seal π H H' (.ptr i z e c) (.iptr cs) = slP π H H' (H.obj i) i z e c cs := by
  simp only [Seal, slP]
  refine propext ⟨?_, ?_⟩
  · rintro ⟨ds, fz, h1, h2⟩
    rw [h1]
    exact ⟨rfl, h2⟩
  · intro h
    split at h
    · rename_i z' ds fz ho
      obtain ⟨rfl, h⟩ := h
      exact ⟨ds, fz, ho, h⟩
    · exact h.elim
theorem sl_clo {f f' : Fn} {a b a' b' : List AV} : Seal π H H' (.clo f a b) (.clo f' a' b') = (f = f' ∧ SealL π H H' a a' ∧ SealL π H H' b b') := by simp only [Seal]
theorem sl_mp {i j : Nat} : Seal π H H' (.mp i) (.mp j) = (π j = some i ∧ j < H'.nxt) := by
  simp only [Seal, AV.mp.injEq]
  refine propext ⟨?_, ?_⟩
  · rintro ⟨k, h1, rfl, h3⟩
    exact ⟨h1, h3⟩
  · rintro ⟨h1, h3⟩
    exact ⟨i, h1, rfl, h3⟩
theorem sl_gv {g g' : Bool} {v u : AV} : Seal π H H' (.gv g v) (.gv g' u) = (g = g' ∧ (g' = true → Seal π H H' v u)) := by simp only [Seal]
theorem sll_nil : SealL π H H' [] [] = True := by simp only [SealL]
theorem sll_cons {v u : AV} {vs us : List AV} : SealL π H H' (v :: vs) (u :: us) = (Seal π H H' v u ∧ SealL π H H' vs us) := by simp only [SealL]
theorem slll_nil : SealLL π H H' [] [] = True := by simp only [SealLL]
theorem slll_cons {v u : List AV} {vs us : List (List AV)} : SealLL π H H' (v :: vs) (u :: us) = (SealL π H H' v u ∧ SealLL π H H' vs us) := by simp only [SealLL]
def shutO (ob : Option AObj) (n : Nat) : Prop :=
  match ob with
  | none => True
  | some (.cells _ _ fz) => n ≤ fz
  | some (.amap _) => False
theorem shut_eq {i n : Nat} : Shut some H H' i n = shutO (H'.obj i) n := by
  simp only [Shut, shutO]
  refine propext ⟨?_, ?_⟩
  · intro h
    rcases h i rfl with h | ⟨z, es, fz, h, hn⟩
    · rw [h]; trivial
    · rw [h]; exact hn
  · intro h j hj
    injection hj with hj
    subst hj
    split at h
    · rename_i ho; exact .inl ho
    · rename_i z es fz ho; exact .inr ⟨z, es, fz, ho, h⟩
    · exact h.elim
end
theorem sealO_cells {π : Nat → Option Nat} {H H' : AH} {z z' fz fz' : Nat} {ds es : List (List AV)} : SealO π H H' (.cells z ds fz) (.cells z' es fz') = (z' = z ∧ SealLL π H H' ds es ∧ (∀ e ∈ es, e.length = z) ∧ fz ≤ fz' ∧ fz' ≤ es.length) := by
  simp only [SealO, AObj.cells.injEq]
  refine propext ⟨?_, ?_⟩
  · rintro ⟨es', fz'', ⟨h1, rfl, rfl⟩, h2⟩
    exact ⟨h1, h2⟩
  · rintro ⟨rfl, h2⟩
    exact ⟨_, _, ⟨rfl, rfl, rfl⟩, h2⟩
theorem sealO_self {π : Nat → Option Nat} {H H' : AH} {z fz : Nat} {es : List (List AV)} (h : PureLL es) : SealO π H H' (.cells z es fz) (.cells z es fz) = ((∀ e ∈ es, e.length = z) ∧ fz ≤ es.length) := by
  rw [sealO_cells, sealLL_self h]
  simp
/-- A number that fits. -/
theorem wrap64 {n : Int} (h0 : -9223372036854775808 ≤ n) (h1 : n ≤ 9223372036854775807) : IntKind.wrap .i64 n = n := by rw [IntKind.wrap_i64]; omega
end Go.Sim
