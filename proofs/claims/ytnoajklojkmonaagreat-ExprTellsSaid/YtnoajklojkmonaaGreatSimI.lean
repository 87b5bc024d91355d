/- Regions that draw their order, and code: what is shown over abstract states holds of the runs. Conditions: none. -/
import Derived.Test.YtnoajklojkmonaaGreatSimH
set_option linter.unusedVariables false
set_option linter.unusedSimpArgs false
namespace Go.Sim

variable {P : Program} {ρ : Nat → Option Nat} {H : AH} {w : World}

/-! ### What an operation hangs on -/
theorem gokL_congr {T T' : Tm} : ∀ {l : List Operand}, (∀ x ∈ l, ev T x = ev T' x) → (gokL T l ↔ gokL T' l)
  | [], _ => Iff.rfl
  | x :: l, h => by
    simp only [gokL]
    rw [h x (by simp), gokL_congr fun y hy => h y (by simp [hy])]
theorem evL_congr {T T' : Tm} {xs : Array Operand} (h : ∀ x ∈ xs.toList, ev T x = ev T' x) : evL T xs = evL T' xs := by
  unfold evL
  exact List.map_congr_left fun x hx => by rw [h x hx]
theorem parts_congr {T T' : Tm} {ps : Array (Nat × Operand)} (h : ∀ x ∈ ps.toList.map (·.2), ev T x = ev T' x) : (ps.toList.map fun (i, x) => (i, (ev T x).core)) = ps.toList.map fun (i, x) => (i, (ev T' x).core) :=
  List.map_congr_left fun p hp => by
    obtain ⟨i, x⟩ := p
    simp only [h x (List.mem_map.2 ⟨(i, x), hp, rfl⟩)]

theorem apure_congr {T T' : Tm} {op : Op} (h : ∀ x ∈ op.operands.toList, ev T x = ev T' x) : apure P H T op = apure P H T' op := by
  cases op <;> simp only [apure]
  case move x => rw [h x (by simp [Op.operands])]
  case assign x => rw [h x (by simp [Op.operands])]
  case pick c a b => simp only [apick, h c (by simp [Op.operands]), h a (by simp [Op.operands]), h b (by simp [Op.operands])]
  case binOp op t x y ty => simp only [gokL, h x (by simp [Op.operands]), h y (by simp [Op.operands])]
  case unOp op t x => simp only [gokL, h x (by simp [Op.operands])]
  case load t x => simp only [gokL, h x (by simp [Op.operands])]
  case fieldAddr t x f => simp only [gokL, h x (by simp [Op.operands])]
  case field t x f => simp only [gokL, h x (by simp [Op.operands])]
  case indexAddr t x i => simp only [gokL, h x (by simp [Op.operands]), h i (by simp [Op.operands])]
  case index t x i => simp only [gokL, h x (by simp [Op.operands]), h i (by simp [Op.operands])]
  case extract x n => simp only [gokL, h x (by simp [Op.operands])]
  case convert s d x => simp only [gokL, h x (by simp [Op.operands])]
  case nilCheck x => simp only [gokL, h x (by simp [Op.operands])]
  case slice t x lo hi mx =>
    have hx := h x (by simp [Op.operands])
    have hl : lo.map (fun x => (ev T x).core) = lo.map fun x => (ev T' x).core := by
      cases lo with
      | none => rfl
      | some y => simp only [Option.map_some]; rw [h y (by simp [Op.operands])]
    have hh : hi.map (fun x => (ev T x).core) = hi.map fun x => (ev T' x).core := by
      cases hi with
      | none => rfl
      | some y => simp only [Option.map_some]; rw [h y (by simp [Op.operands])]
    have hm : mx.map (fun x => (ev T x).core) = mx.map fun x => (ev T' x).core := by
      cases mx with
      | none => rfl
      | some y => simp only [Option.map_some]; rw [h y (by simp [Op.operands])]
    have hg : gokL T ([x] ++ lo.toList ++ hi.toList ++ mx.toList) ↔ gokL T' ([x] ++ lo.toList ++ hi.toList ++ mx.toList) := gokL_congr fun y hy => h y (by simpa [Op.operands] using hy)
    rw [hx, hl, hh, hm]
    simp only [hg]
  case makeFunc fn f c =>
    have h1 : ∀ x ∈ f.toList, ev T x = ev T' x := fun x hx => h x (by simp [Op.operands] at hx ⊢; exact .inl hx)
    have h2 : ∀ x ∈ c.toList, ev T x = ev T' x := fun x hx => h x (by simp [Op.operands] at hx ⊢; exact .inr hx)
    rw [evL_congr h1, evL_congr h2]
    simp only [gokL_congr h1, gokL_congr h2]
  case build t ps =>
    have h1 : ∀ x ∈ ps.toList.map (·.2), ev T x = ev T' x := fun x hx => h x (by simpa [Op.operands] using hx)
    rw [parts_congr h1]
    simp only [gokL_congr h1]
  case call c =>
    obtain ⟨callee, args, ts⟩ := c
    cases callee with
    | builtin b =>
      have h1 : ∀ x ∈ args.toList, ev T x = ev T' x := fun x hx => h x (by simpa [Op.operands, Call.operands] using hx)
      simp only [evL_congr h1, gokL_congr h1]
    | _ => rfl

theorem anew_congr {T T' : Tm} {op : Op} (h : ∀ x ∈ op.operands.toList, ev T x = ev T' x) : anew P T op = anew P T' op := by
  cases op <;> simp only [anew]
  case box t x => simp only [gokL, h x (by simp [Op.operands])]
  case buildSlice t n ps =>
    have h1 : ∀ x ∈ ps.toList.map (·.2), ev T x = ev T' x := fun x hx => h x (by simpa [Op.operands] using hx)
    rw [parts_congr h1]
    simp only [gokL_congr h1]

theorem acallee_congr {T T' : Tm} {op : Op} (h : ∀ x ∈ op.operands.toList, ev T x = ev T' x) : acallee T op = acallee T' op := by
  cases op <;> simp only [acallee]
  case call c =>
    obtain ⟨callee, args, ts⟩ := c
    cases callee with
    | value f =>
      have h0 : ev T f = ev T' f := h f (by simp [Op.operands, Call.operands])
      have h1 : ∀ x ∈ args.toList, ev T x = ev T' x := fun x hx => h x (by simp [Op.operands, Call.operands] at hx ⊢; exact .inr hx)
      have hg : gokL T (f :: args.toList) = gokL T' (f :: args.toList) := propext (gokL_congr fun x hx => by rcases List.mem_cons.1 hx with rfl | hx; exact h0; exact h1 x hx)
      simp only [evL_congr h1, hg, h0]
    | _ => rfl

theorem astoreN_congr {T T' : Tm} {op : Op} (h : ∀ x ∈ op.operands.toList, ev T x = ev T' x) : astoreN P T op = astoreN P T' op := by
  cases op <;> try rfl
  rename_i t x v
  have hx := h x (by simp [Op.operands])
  have hv := h v (by simp [Op.operands])
  simp only [astoreN, gokL, hx, hv]

theorem headStep_congr {ops : Array Oper} {H0 : AH} {T T' : Tm} {nid : Nat} {o : Oper} {r : AV} {ob : Option (Bool × Nat × AObj)} (h : ∀ t ∈ o.looksAt ops, tget T t = tget T' t) (hs : HeadStep P ops H0 T nid o r ob) : HeadStep P ops H0 T' nid o r ob := by
  have he : ∀ x ∈ o.op.operands.toList, ev T x = ev T' x := by
    intro x hx
    cases x with
    | tmp t => exact h t (List.mem_append_left _ (List.mem_filterMap.2 ⟨.tmp t, hx, rfl⟩))
    | const v => rfl
    | global g => rfl
    | func f => rfl
  have hg : gcond ops T o = gcond ops T' o := by
    unfold gcond
    cases hgd : o.guard with
    | none => rfl
    | some gw =>
      obtain ⟨j, want⟩ := gw
      simp only []
      cases hd : (ops[j]?).bind (·.dst) with
      | none => rfl
      | some d =>
        have := h d (List.mem_append_right _ (by simp [hgd, hd]))
        simp only [this]
  unfold HeadStep at *
  rw [← hg, ← apure_congr he, ← anew_congr he, ← acallee_congr he, ← astoreN_congr he]
  exact hs

theorem apure_mono {H' : AH} {T : Tm} {op : Op} {x : Prop × AV} (hs : ∀ i o, H.obj i = some o → H'.obj i = some o) (h : apure P H T op = some x) : apure P H' T op = some x := by
  have hl : ∀ t v y, aload P t H v = some y → aload P t H' v = some y := by
    intro t v y h
    unfold aload at *
    split at h
    · split at h
      · rename_i ho ht
        simp only [hs _ _ ho, ht]
        exact h
      · cases h
    · exact h
    · cases h
  have hn : ∀ t v y, alen P t H v = some y → alen P t H' v = some y := by
    intro t v y h
    unfold alen at *
    split at h
    all_goals first | exact h | skip
    split at h
    · rename_i kvs ho
      simp only [hs _ _ ho]
      exact h
    · cases h
  cases op <;> simp only [apure] at h ⊢ <;> try exact h
  case load t y =>
    simp only [Option.map_eq_some_iff] at h ⊢
    obtain ⟨z, h1, h2⟩ := h
    exact ⟨z, hl _ _ _ h1, h2⟩
  case call c =>
    obtain ⟨callee, args, ts⟩ := c
    cases callee with
    | builtin b =>
      simp only [Option.map_eq_some_iff] at h ⊢
      obtain ⟨z, h1, h2⟩ := h
      refine ⟨z, ?_, h2⟩
      unfold abuiltin at *
      split at h1
      · simp only [Option.bind_eq_some_iff, Option.map_eq_some_iff] at h1 ⊢
        obtain ⟨t, ht, y, hy, he⟩ := h1
        exact ⟨t, ht, y, hn _ _ _ hy, he⟩
      · exact h1
      · exact h1
      · cases h1
    | _ => exact h

/-! ### The steps, by their numbers -/
theorem TD_shift {T : Tm} {dst : Nat → Option Nat} {r : Nat → AV} : ∀ k, TD (tput T (dst 0) (r 0)) (fun i => dst (i + 1)) (fun i => r (i + 1)) (fun _ => true) k = TD T dst r (fun _ => true) (k + 1)
  | 0 => by simp [TD]
  | k + 1 => by
    have ih := TD_shift (T := T) (dst := dst) (r := r) k
    simp only [TD, if_true] at ih ⊢
    rw [ih]

def Hat (H : AH) (ob : Nat → Option (Bool × Nat × AObj)) : Nat → AH
  | 0 => H
  | k + 1 => addO (Hat H ob k) (ob k)
theorem Hat_shift {H : AH} {ob : Nat → Option (Bool × Nat × AObj)} : ∀ k, Hat (addO H (ob 0)) (fun i => ob (i + 1)) k = Hat H ob (k + 1)
  | 0 => rfl
  | k + 1 => by simp only [Hat]; rw [Hat_shift k]; rfl
/-- It adds an object. -/
def isN : Option (Bool × Nat × AObj) → Bool
  | some (b, _) => b
  | none => false
def cnt (ob : Nat → Option (Bool × Nat × AObj)) : Nat → Nat
  | 0 => 0
  | k + 1 => cnt ob k + if isN (ob k) then 1 else 0
theorem Hat_nxt {H : AH} {ob : Nat → Option (Bool × Nat × AObj)} : ∀ k, (Hat H ob k).nxt = H.nxt + cnt ob k
  | 0 => rfl
  | k + 1 => by
    simp only [Hat, cnt]
    cases h : ob k with
    | none => simp [addO, isN, Hat_nxt k]
    | some o =>
      obtain ⟨b, i, o⟩ := o
      cases b
      · simp [addO, isN, AH.set, Hat_nxt k]
      · simp [addO, isN, AH.add, Hat_nxt k, Nat.add_assoc]

theorem cnt_mono {ob : Nat → Option (Bool × Nat × AObj)} {i : Nat} : ∀ j, i ≤ j → cnt ob i ≤ cnt ob j
  | 0, h => by obtain rfl : i = 0 := by omega
               exact Nat.le_refl _
  | j + 1, h => by
    by_cases e : i = j + 1
    · rw [e]; exact Nat.le_refl _
    · have := cnt_mono (ob := ob) (i := i) j (by omega)
      simp only [cnt]
      omega
theorem cnt_lt {ob : Nat → Option (Bool × Nat × AObj)} {i j : Nat} (h : i < j) (ho : isN (ob i) = true) : cnt ob i < cnt ob j := by
  have h1 := cnt_mono (ob := ob) (i := i + 1) j h
  simp only [cnt, ho, if_true] at h1
  omega

def idO (ob : Nat → Option (Bool × Nat × AObj)) (k : Nat) : Nat := ((ob k).map (·.2.1)).getD 0
def obO (ob : Nat → Option (Bool × Nat × AObj)) (k : Nat) : Option AObj := (ob k).map (·.2.2)
theorem HD_true {H0 : AH} {m : Nat} {ob : Nat → Option (Bool × Nat × AObj)} : ∀ k, (∀ j i o, j < k → ob j = some (true, i, o) → i = H0.nxt + cnt ob j) → (HD H0 m (idO ob) (obO ob) (fun _ => true) k).obj = (Hat H0 ob k).obj
  | 0, _ => rfl
  | k + 1, hn => by
    have ih := HD_true (H0 := H0) (m := m) (ob := ob) k fun j i o hj => hn j i o (by omega)
    simp only [HD, Hat]
    cases h : ob k with
    | none => simp [addO, obO, h, ih]
    | some o =>
      obtain ⟨b, i, o⟩ := o
      cases b
      · simp only [addO, obO, idO, h, Option.map_some, Option.getD_some, AH.set]
        funext q
        rw [ih]
      · have := hn k i o (by omega) h
        simp only [addO, obO, idO, h, Option.map_some, Option.getD_some, AH.set, AH.add, Hat_nxt]
        funext q
        rw [ih, this]

def dL (l : List Oper) (k : Nat) : Option Nat := (l[k]?).bind (·.dst)
def rL (rs : List (AV × Option (Bool × Nat × AObj))) (k : Nat) : AV := ((rs[k]?).map (·.1)).getD .any
def oL (rs : List (AV × Option (Bool × Nat × AObj))) (k : Nat) : Option (Bool × Nat × AObj) := (rs[k]?).bind (·.2)

theorem steps_at {ops : Array Oper} {H0 : AH} : ∀ {l : List Oper} {rs : List (AV × Option (Bool × Nat × AObj))} {T : Tm} {H : AH} {T' : Tm} {H' : AH}, HSteps P ops H0 l rs T H T' H' →
    (∀ k o, l[k]? = some o → HeadStep P ops H0 (TD T (dL l) (rL rs) (fun _ => true) k) (H.nxt + cnt (oL rs) k) o (rL rs k) (oL rs k)) ∧ T' = TD T (dL l) (rL rs) (fun _ => true) l.length ∧ H' = Hat H (oL rs) l.length
  | [], rs, T, H, T', H', h => by
    obtain ⟨rfl, rfl, rfl⟩ := h
    exact ⟨fun k o h => by simp at h, rfl, rfl⟩
  | o :: l, rs, T, H, T', H', h => by
    obtain ⟨r, ob, rs', rfl, h1, h2⟩ := h
    obtain ⟨h3, h4, h5⟩ := steps_at h2
    have e1 : (fun i => dL (o :: l) (i + 1)) = dL l := rfl
    have e2 : (fun i => rL ((r, ob) :: rs') (i + 1)) = rL rs' := rfl
    have e3 : (fun i => oL ((r, ob) :: rs') (i + 1)) = oL rs' := rfl
    have d0 : dL (o :: l) 0 = o.dst := rfl
    have r0 : rL ((r, ob) :: rs') 0 = r := rfl
    have o0 : oL ((r, ob) :: rs') 0 = ob := rfl
    have sT := fun k => TD_shift (T := T) (dst := dL (o :: l)) (r := rL ((r, ob) :: rs')) k
    have sH := fun k => Hat_shift (H := H) (ob := oL ((r, ob) :: rs')) k
    simp only [e1, e2, d0, r0] at sT
    simp only [e3, o0] at sH
    refine ⟨fun k o' hk => ?_, ?_, ?_⟩
    · cases k with
      | zero =>
        simp only [List.getElem?_cons_zero, Option.some.injEq] at hk
        subst hk
        exact h1
      | succ k =>
        have := h3 k o' (by simpa using hk)
        rw [sT k] at this
        have hn : (addO H ob).nxt + cnt (oL rs') k = H.nxt + cnt (oL ((r, ob) :: rs')) (k + 1) := by
          have h6 := Hat_nxt (H := addO H ob) (ob := oL rs') k
          rw [sH k, Hat_nxt] at h6
          exact h6.symm
        rw [hn] at this
        exact this
    · rw [h4, sT]; rfl
    · rw [h5, sH]; rfl


theorem TD_congr {T : Tm} {dst : Nat → Option Nat} {r : Nat → AV} {p q : Nat → Bool} : ∀ n, (∀ k, k < n → p k = q k) → TD T dst r p n = TD T dst r q n
  | 0, _ => rfl
  | n + 1, h => by simp only [TD, h n (by omega), TD_congr n fun k hk => h k (by omega)]
theorem HD_congr {H0 : AH} {m : Nat} {id : Nat → Nat} {ob : Nat → Option AObj} {p q : Nat → Bool} : ∀ n, (∀ k, k < n → p k = q k) → HD H0 m id ob p n = HD H0 m id ob q n
  | 0, _ => rfl
  | n + 1, h => by simp only [HD, h n (by omega), HD_congr (H0 := H0) (m := m) n fun k hk => h k (by omega)]

theorem TD_put {T : Tm} {dst : Nat → Option Nat} {r : Nat → AV} {p : Nat → Bool} {i t : Nat} : ∀ n, i < n → p i = false → (∀ k, i < k → k < n → dst i = some t → dst k = some t → p k = false) →
    tget (TD T dst r (fun k => p k || decide (k = i)) n) t = if dst i = some t then r i else tget (TD T dst r p n) t
  | 0, h, _, _ => by omega
  | n + 1, h, hi, hk => by
    have skip : ∀ (b : Bool) (X : Tm), dst n ≠ some t → tget (if b then tput X (dst n) (r n) else X) t = tget X t := by
      intro b X hd
      cases b
      · rfl
      · cases hdn : dst n with
        | none => simp [tput]
        | some d =>
          simp only [if_true, tput, tget]
          rw [if_neg (by intro e; subst e; exact hd hdn)]
    by_cases hin : i = n
    · subst hin
      have same : TD T dst r (fun k => p k || decide (k = i)) i = TD T dst r p i := TD_congr i fun k hk => by simp; omega
      simp only [TD, same, hi, decide_true, Bool.or_true, if_true, Bool.false_eq_true, if_false]
      by_cases hd : dst i = some t
      · rw [if_pos hd, hd]
        simp [tput, tget]
      · rw [if_neg hd]
        have := skip true (TD T dst r p i) hd
        simpa using this
    · have ih := TD_put (T := T) (r := r) (p := p) (t := t) n (by omega) hi fun k h1 h2 => hk k h1 (by omega)
      have e : (p n || decide (n = i)) = p n := by simp [Ne.symm hin]
      simp only [TD, e]
      by_cases hd : dst n = some t
      · by_cases hdi : dst i = some t
        · have hpn := hk n (by omega) (by omega) hdi hd
          rw [hpn]
          simp only [Bool.false_eq_true, if_false]
          exact ih
        · rw [if_neg hdi]
          cases hp : p n with
          | true => simp [hd, tput, tget]
          | false =>
            rw [if_neg hdi] at ih
            simpa using ih
      · rw [skip _ _ hd, skip _ _ hd]
        exact ih

def isAl : Op → Bool
  | .alloc _ => true
  | .box _ _ => true
  | _ => false
theorem TD_only {T : Tm} {dst : Nat → Option Nat} {r : Nat → AV} {j d : Nat} (hj : dst j = some d) : ∀ k, j < k → (∀ i, i < k → dst i = some d → i = j) → tget (TD T dst r (fun _ => true) k) d = r j
  | 0, h, _ => by omega
  | k + 1, h, hu => by
    simp only [TD, if_true]
    by_cases e : j = k
    · subst e
      simp [hj, tput, tget]
    · have ih := TD_only (T := T) (r := r) hj k (by omega) fun i hi hd => hu i (by omega) hd
      cases hdk : dst k with
      | none => simpa [tput] using ih
      | some d' =>
        simp only [tput, tget]
        rw [if_neg (by intro e2; subst e2; exact e (hu k (by omega) hdk).symm)]
        exact ih
theorem anew_al {T : Tm} {op : Op} {φ : Prop} {f : Nat → AV} {o : AObj} (h : anew P T op = some (φ, f, o)) (ha : isAl op = true) : ∃ z c, o = .cells z [c] 0 ∧ c.length = z ∧ f = fun i => .ptr i z 0 0 := by
  cases op <;> simp only [isAl, Bool.false_eq_true] at ha
  · rename_i t
    simp only [anew, Option.map_eq_some_iff, Prod.mk.injEq] at h
    obtain ⟨zs, _, _, rfl, rfl⟩ := h
    exact ⟨_, _, rfl, by simp, rfl⟩
  · rename_i t x
    simp only [anew, Option.some.injEq, Prod.mk.injEq] at h
    obtain ⟨_, rfl, rfl⟩ := h
    exact ⟨_, _, rfl, rfl, rfl⟩
theorem apure_al {T : Tm} {op : Op} (ha : isAl op = true) : apure P H T op = none := by
  cases op <;> simp only [isAl, Bool.false_eq_true] at ha <;> rfl

/-! ### The check, and the theorem -/
def waits (ops : Array Oper) (j i : Nat) : Bool :=
  match ops[j]? with
  | some o => o.after.any fun e => Region.binds .any e && e.on == i
  | none => false
def writesTo (ops : Array Oper) (d i : Nat) : Bool := match ops[i]? with | some o => o.dst == some d | none => false
def storesTo (ops : Array Oper) (d i : Nat) : Bool := match ops[i]? with | some o => (match o.op with | .store _ (.tmp e) _ => e == d | _ => false) | none => false
def makes (ops : Array Oper) (j : Nat) : Bool := match ops[j]? with | some o => o.guard.isNone && isAl o.op | none => false
/-- A store of the head sets a new object that it alone sets. -/
def stOk (ops : Array Oper) (n : Nat) : Bool :=
  (List.range n).all fun k => match ops[k]? with
    | some o => (match o.op with
      | .store _ (.tmp d) _ => (List.range k).any (fun j => writesTo ops d j && makes ops j && (List.range n).all fun i => !writesTo ops d i || i == j) && (List.range n).all fun k' => !storesTo ops d k' || k' == k
      | .store _ _ _ => false
      | _ => true)
    | none => true
def headOk (ops : Array Oper) (n : Nat) : Bool :=
  stOk ops n && decide (n ≤ ops.size) && (List.range ops.size).all fun j =>
    (match ops[j]? with
     | some o => (o.after.toList.all fun e => !Region.binds .any e || decide (e.on < j)) &&
        (List.range j).all fun i => (match ops[i]? with | some o' => (decide (j < n) && o'.apart ops o) || waits ops j i || decide (n ≤ i) | none => true)
     | none => true)

theorem waits_spec {ops : Array Oper} {j i : Nat} (h : waits ops j i = true) : ∃ o, ops[j]? = some o ∧ ∃ e ∈ o.after, Region.binds .any e = true ∧ e.on = i := by
  unfold waits at h
  split at h
  · rename_i o ho
    obtain ⟨k, hk, hke⟩ := Array.any_eq_true.1 h
    simp only [Bool.and_eq_true, beq_iff_eq] at hke
    exact ⟨o, ho, o.after[k], Array.getElem_mem hk, hke.1, hke.2⟩
  · cases h

structure HeadOk (ops : Array Oper) (n : Nat) : Prop where
  le : n ≤ ops.size
  back : ∀ (j : Nat) o, ops[j]? = some o → ∀ e ∈ o.after, Region.binds .any e = true → e.on < j
  tail : ∀ i j : Nat, i < n → n ≤ j → j < ops.size → waits ops j i = true
  head : ∀ (i j : Nat) o o', i < j → j < n → ops[i]? = some o' → ops[j]? = some o → o'.apart ops o = true ∨ waits ops j i = true
  st : ∀ (k : Nat) o t x v, k < n → ops[k]? = some o → o.op = .store t x v → ∃ d j oj, x = .tmp d ∧ j < k ∧ ops[j]? = some oj ∧ oj.dst = some d ∧ oj.guard = none ∧ isAl oj.op = true ∧
    (∀ (i : Nat) oi, i < n → ops[i]? = some oi → oi.dst = some d → i = j) ∧ ∀ (k' : Nat) o' t' v', k' < n → ops[k']? = some o' → o'.op = .store t' (.tmp d) v' → k' = k

theorem stOk_spec {ops : Array Oper} {n : Nat} (h : stOk ops n = true) : ∀ (k : Nat) o t x v, k < n → ops[k]? = some o → o.op = .store t x v → ∃ d j oj, x = .tmp d ∧ j < k ∧ ops[j]? = some oj ∧ oj.dst = some d ∧ oj.guard = none ∧ isAl oj.op = true ∧
    (∀ (i : Nat) oi, i < n → ops[i]? = some oi → oi.dst = some d → i = j) ∧ ∀ (k' : Nat) o' t' v', k' < n → ops[k']? = some o' → o'.op = .store t' (.tmp d) v' → k' = k := by
  intro k o t x v hk ho hop
  have h1 := List.all_eq_true.1 h k (List.mem_range.2 hk)
  simp only [ho, hop] at h1
  cases x with
  | tmp d =>
    simp only [Bool.and_eq_true] at h1
    obtain ⟨h2, h3⟩ := h1
    obtain ⟨j, hj, h4⟩ := List.any_eq_true.1 h2
    simp only [Bool.and_eq_true] at h4
    obtain ⟨⟨h5, h6⟩, h7⟩ := h4
    unfold writesTo at h5
    unfold makes at h6
    cases hoj : ops[j]? with
    | none => rw [hoj] at h5; cases h5
    | some oj =>
      simp only [hoj, beq_iff_eq, Bool.and_eq_true, Option.isNone_iff_eq_none] at h5 h6
      refine ⟨d, j, oj, rfl, List.mem_range.1 hj, hoj, h5, h6.1, h6.2, fun i oi hi hoi hdi => ?_, fun k' o' t' v' hk' ho' hop' => ?_⟩
      · have h8 := List.all_eq_true.1 h7 i (List.mem_range.2 hi)
        simpa [writesTo, hoi, hdi] using h8
      · have h8 := List.all_eq_true.1 h3 k' (List.mem_range.2 hk')
        simpa [storesTo, ho', hop'] using h8
  | const c => simp at h1
  | global g => simp at h1
  | func f => simp at h1
theorem headOk_spec {ops : Array Oper} {n : Nat} (h : headOk ops n = true) : HeadOk ops n := by
  simp only [headOk, Bool.and_eq_true, decide_eq_true_eq, List.all_eq_true, List.mem_range] at h
  obtain ⟨⟨hst, h1⟩, h2⟩ := h
  have get : ∀ (j : Nat) o, ops[j]? = some o → j < ops.size := fun j o h => (Array.getElem?_eq_some_iff.1 h).1
  refine ⟨h1, fun j o ho e he hb => ?_, fun i j hi hj hjs => ?_, fun i j o o' hij hjn hi hj => ?_, stOk_spec hst⟩
  · have := h2 j (get j o ho)
    simp only [ho, Bool.and_eq_true, List.all_eq_true] at this
    have h3 := this.1 e (by simpa using he)
    simpa [hb] using h3
  · have ho : ops[j]? = some ops[j] := Array.getElem?_eq_getElem hjs
    have := h2 j hjs
    simp only [ho, Bool.and_eq_true, List.all_eq_true] at this
    have h3 := this.2 i (List.mem_range.2 (by omega))
    have hoi : ops[i]? = some (ops[i]'(by omega)) := Array.getElem?_eq_getElem (by omega)
    simp only [hoi] at h3
    rw [show decide (j < n) = false by simp; omega, show decide (n ≤ i) = false by simp; omega] at h3
    simpa using h3
  · have := h2 j (get j o hj)
    simp only [hj, Bool.and_eq_true, List.all_eq_true] at this
    have h3 := this.2 i (List.mem_range.2 hij)
    simp only [hi] at h3
    rw [show decide (j < n) = true by simp; omega, show decide (n ≤ i) = false by simp; omega] at h3
    simpa using h3

def count (p : Nat → Bool) : Nat → Nat
  | 0 => 0
  | n + 1 => count p n + (p n).toNat
theorem count_le (p : Nat → Bool) : ∀ n, count p n ≤ n
  | 0 => Nat.le_refl _
  | n + 1 => by have := count_le p n; have := Bool.toNat_le (p n); simp only [count]; omega
theorem count_all {p : Nat → Bool} : ∀ {n}, count p n = n → ∀ k, k < n → p k = true
  | 0, _, k, hk => by omega
  | n + 1, h, k, hk => by
    simp only [count] at h
    have := count_le p n
    cases hp : p n with
    | true =>
      rw [hp] at h
      simp only [Bool.toNat_true] at h
      by_cases e : k = n
      · rw [e]; exact hp
      · exact count_all (n := n) (by omega) k (by omega)
    | false => rw [hp] at h; simp only [Bool.toNat_false] at h; omega
theorem count_put {p : Nat → Bool} {i : Nat} (hi : p i = false) : ∀ n, i < n → count (fun k => p k || decide (k = i)) n = count p n + 1
  | 0, h => by omega
  | n + 1, h => by
    have same : ∀ k, k ≤ i → count (fun k => p k || decide (k = i)) k = count p k := by
      intro k
      induction k with
      | zero => intro _; rfl
      | succ k ih =>
        intro hk
        have e : (p k || decide (k = i)) = p k := by simp; omega
        simp only [count, ih (by omega), e]
    by_cases e : i = n
    · subst e
      simp only [count, same i (Nat.le_refl _), hi]
      simp
    · have ih := count_put hi n (by omega)
      have e2 : (p n || decide (n = i)) = p n := by simp [Ne.symm e]
      simp only [count, ih, e2]
      omega
theorem exists_least_false {p : Nat → Bool} : ∀ {n}, count p n < n → ∃ j, j < n ∧ p j = false ∧ ∀ k, k < j → p k = true
  | 0, h => by omega
  | n + 1, h => by
    by_cases hc : count p n < n
    · obtain ⟨j, h1, h2, h3⟩ := exists_least_false hc
      exact ⟨j, by omega, h2, h3⟩
    · have hn : count p n = n := by have := count_le p n; omega
      have hall := count_all hn
      refine ⟨n, by omega, ?_, hall⟩
      simp only [count, hn] at h
      cases hp : p n with
      | false => rfl
      | true => rw [hp] at h; simp at h

def tailStart (n m : Nat) : Array Bool := (Array.range m).map fun i => decide (i < n)

theorem rep_false (m k : Nat) : (Array.replicate m false).getD k false = false := by
  rw [Array.getD_eq_getD_getElem?, Array.getElem?_replicate]
  split <;> rfl

theorem ahead_ok {ρ0 : Nat → Option Nat} {Hb : AH} {w0 : World} {N : Nat} {ops : Array Oper} {n : Nat} {K : Tm → AH → Prop} {Q : Exit → Act → World → Prop} (hk : HeadOk ops n) (hd : ∀ o ∈ ops.toList, ∀ d, o.dst = some d → d < N)
    {T0 : Tm} {H0 : AH} (h : ahead P ops H0 (ops.toList.take n) K T0 H0)
    (htail : ∀ a w, Conc ρ0 Hb w0 N K a w → wpAny P .any ops Q (ops.size - n) (tailStart n ops.size) a w)
    {ρs : Nat → Option Nat} {a : Act} (hT : RepT ρs H0 w T0 a.tmps) (hh : Holds ρs H0 w) (hbase : Ext ρ0 Hb w0 ρs H0 w) (hdf : a.defers = []) (hN : a.tmps.size = N) :
    wpAny P .any ops Q ops.size (Array.replicate ops.size false) a w := by
  obtain ⟨rs, T', H', hst, hK⟩ := ahead_steps _ _ _ h
  obtain ⟨hsteps, hT', hH'⟩ := steps_at hst
  have hlen : (ops.toList.take n).length = n := by have := hk.le; simp; omega
  rw [hlen] at hT' hH'
  generalize hdst : dL (ops.toList.take n) = dst at *
  generalize hrr : rL rs = r at *
  generalize hoo : oL rs = en at *
  have hops : ∀ (k : Nat) o, k < n → ops[k]? = some o → (ops.toList.take n)[k]? = some o ∧ dst k = o.dst := by
    intro k o hkn ho
    have h1 : (ops.toList.take n)[k]? = some o := by rw [List.getElem?_take, if_pos hkn, Array.getElem?_toList]; exact ho
    exact ⟨h1, by rw [← hdst]; simp [dL, h1]⟩
  have hget : ∀ k, k < n → ∃ o, ops[k]? = some o := fun k hkn => ⟨_, Array.getElem?_eq_getElem (by have := hk.le; omega)⟩
  let id : Nat → Nat := idO en
  let ob : Nat → Option AObj := obO en
  let m := cnt en n
  have hent : ∀ (k : Nat) b i o, en k = some (b, i, o) → id k = i ∧ ob k = some o := fun k b i o h => by simp only [id, ob, idO, obO, h]; exact ⟨rfl, rfl⟩
  have hsome : ∀ k, (ob k).isSome = true → ∃ b o, en k = some (b, id k, o) ∧ ob k = some o := by
    intro k h
    cases he : en k with
    | none => simp [ob, obO, he] at h
    | some x =>
      obtain ⟨b, i, o⟩ := x
      obtain ⟨h1, h2⟩ := hent k b i o he
      exact ⟨b, o, by rw [h1], h2⟩
  -- what adds, and what sets
  have hnew : ∀ (k : Nat) i o, k < n → en k = some (true, i, o) → i = H0.nxt + cnt en k := by
    intro k i o hkn he
    obtain ⟨ok, hok⟩ := hget k hkn
    have hs := hsteps k ok (hops k ok hkn hok).1
    unfold HeadStep at hs
    split at hs
    · exact hs.elim
    · split at hs
      · rw [he] at hs; cases hs.2.2
      · rcases hs with ⟨_, φ, f, o', _, _, _, h⟩ | ⟨_, φ, i', o', _, _, _, h⟩ | ⟨h, _⟩
        · rw [he] at h
          simp only [Option.some.injEq, Prod.mk.injEq, true_and] at h
          exact h.1
        · rw [he] at h
          simp at h
        · rw [he] at h
          cases h
  have hst0 : ∀ (k : Nat) i o, k < n → en k = some (false, i, o) → ∃ (j : Nat) (z : Nat) (c cs : List AV) (d : Nat) (oj ok : Oper) (tt : TypeId) (v : Operand), j < k ∧ en j = some (true, i, .cells z [c] 0) ∧ c.length = z ∧ o = .cells z [cs] 0 ∧ cs.length = z ∧ waits ops k j = true ∧
      ops[j]? = some oj ∧ oj.dst = some d ∧ ops[k]? = some ok ∧ ok.op = .store tt (.tmp d) v := by
    intro k i o hkn he
    obtain ⟨ok, hok⟩ := hget k hkn
    have hs := hsteps k ok (hops k ok hkn hok).1
    unfold HeadStep at hs
    split at hs
    · exact hs.elim
    · split at hs
      · rw [he] at hs; cases hs.2.2
      · rcases hs with ⟨_, φ, f, o', _, _, _, h⟩ | ⟨_, φ, i', o', h1, h2, _, h⟩ | ⟨h, _⟩
        · rw [he] at h
          simp at h
        · rw [he] at h
          simp only [Option.some.injEq, Prod.mk.injEq, true_and] at h
          obtain ⟨rfl, rfl⟩ := h
          cases hop : ok.op with
          | store tt x v =>
            obtain ⟨d, j, oj, rfl, hjk, hoj, hdj, hgj, haj, hu1, hu2⟩ := hk.st k ok tt x v hkn hok hop
            have hdst := (hops j oj (by omega) hoj).2
            have hT : tget (TD T0 dst r (fun _ => true) k) d = r j := TD_only (by rw [hdst, hdj]) k hjk fun q hq hdq => by
              obtain ⟨oq, hoq⟩ := hget q (by omega)
              rw [(hops q oq (by omega) hoq).2] at hdq
              exact hu1 q oq (by omega) hoq hdq
            have hsj := hsteps j oj (hops j oj (by omega) hoj).1
            unfold HeadStep at hsj
            have hg0 : gcond ops (TD T0 dst r (fun _ => true) j) oj = some none := by unfold gcond; rw [hgj]
            simp only [hg0, apure_al haj] at hsj
            have hn2 : ∀ T, astoreN P T oj.op = none := by intro T; cases hx : oj.op <;> rw [hx] at haj <;> first | rfl | cases haj
            have hn3 : ∀ T, acallee T oj.op = none := by intro T; cases hx : oj.op <;> rw [hx] at haj <;> first | rfl | cases haj
            rcases hsj with ⟨_, ψ, f, o2, k1, k2, k3, k4⟩ | ⟨_, ψ, i2, o2, k1, _⟩ | ⟨_, ⟨k0, _⟩ | ⟨ψ, f, args, r2, k1, _⟩⟩
            · obtain ⟨z, c, rfl, hcz, rfl⟩ := anew_al k1 haj
              simp only [hop, astoreN, ev, hT, k3, AV.core, Option.some.injEq, Prod.mk.injEq] at h1
              obtain ⟨rfl, rfl, rfl⟩ := h1
              refine ⟨j, z, c, _, d, oj, ok, tt, v, hjk, k4, hcz, rfl, h2.2.2.2.2, ?_, hoj, hdj, hok, hop⟩
              rcases hk.head j k ok oj hjk hkn hoj hok with hap | hw
              · obtain ⟨a1, _, _⟩ := Oper.apart_spec hap
                exact absurd (by simp [Oper.looksAt, hop, Op.operands]) (a1 d hdj)
              · exact hw
            · rw [hn2] at k1; cases k1
            · cases k0
            · rw [hn3] at k1; cases k1
          | _ => rw [hop] at h1; simp [astoreN] at h1
        · rw [he] at h
          cases h
  have hstore : ∀ (k : Nat) i o, k < n → en k = some (false, i, o) → ∃ (j : Nat) (z : Nat) (c cs : List AV), j < k ∧ en j = some (true, i, .cells z [c] 0) ∧ c.length = z ∧ o = .cells z [cs] 0 ∧ cs.length = z ∧ waits ops k j = true ∧
      (∀ (k' : Nat) o', k' < n → en k' = some (false, i, o') → k' = k) := by
    intro k i o hkn he
    obtain ⟨j, z, c, cs, d, oj, ok, tt, v, h1, h2, h3, h4, h5, h6, h7, h8, h9, h10⟩ := hst0 k i o hkn he
    refine ⟨j, z, c, cs, h1, h2, h3, h4, h5, h6, fun k' o' hkn' he' => ?_⟩
    obtain ⟨j', z', c', cs', d', oj', ok', tt', v', g1, g2, g3, g4, g5, g6, g7, g8, g9, g10⟩ := hst0 k' i o' hkn' he'
    have e1 := hnew j i _ (by omega) h2
    have e2 := hnew j' i _ (by omega) g2
    have hjj : j' = j := by
      rcases Nat.lt_trichotomy j j' with h | h | h
      · have := cnt_lt (ob := en) h (by rw [h2]; rfl); omega
      · exact h.symm
      · have := cnt_lt (ob := en) h (by rw [g2]; rfl); omega
    subst hjj
    rw [h7] at g7
    injection g7 with g7
    subst g7
    rw [h8] at g8
    injection g8 with g8
    subst g8
    obtain ⟨_, _, _, hx, _, _, _, _, _, _, hu⟩ := hk.st k ok tt (.tmp d) v hkn h9 h10
    injection hx with hx
    subst hx
    exact hu k' ok' tt' v' hkn' g9 g10
  have hdist : ∀ j k, j < n → k < n → k ≠ j → isN (en k) = true → isN (en j) = true → id k ≠ id j := by
    intro j k hj hkn hne hok hoj
    have nid : ∀ q, q < n → isN (en q) = true → id q = H0.nxt + cnt en q := by
      intro q hq hi
      cases he : en q with
      | none => rw [he] at hi; cases hi
      | some x =>
        obtain ⟨b, i, o⟩ := x
        rw [he] at hi
        simp only [isN] at hi
        subst hi
        rw [(hent q _ _ _ he).1, hnew q i o hq he]
    rw [nid k hkn hok, nid j hj hoj]
    rcases Nat.lt_or_gt_of_ne hne with h | h
    · have := cnt_lt h hok; omega
    · have := cnt_lt h hoj; omega
  have hge : ∀ k, k < n → (ob k).isSome = true → H0.nxt ≤ id k ∧ id k < H0.nxt + m := by
    intro k hkn hs
    have new : ∀ (q : Nat) i o, q < n → en q = some (true, i, o) → H0.nxt ≤ i ∧ i < H0.nxt + m := by
      intro q i o hq he
      have h1 := hnew q i o hq he
      have h2 := cnt_lt (ob := en) hq (by rw [he]; rfl)
      simp only [m]
      omega
    obtain ⟨b, o, he, _⟩ := hsome k hs
    cases b with
    | true => exact new k _ _ hkn he
    | false =>
      obtain ⟨j, z, c, cs, hjk, hj, _⟩ := hstore k _ _ hkn he
      exact new j _ _ (by omega) hj
  -- the invariant
  have main : ∀ (fuel : Nat) (listed : Array Bool) (a : Act) (w' : World) (ρ : Nat → Option Nat), listed.size = ops.size → (∀ k, n ≤ k → listed.getD k false = false) →
      fuel + count (fun k => listed.getD k false) n = ops.size →
      RepT ρ (HD H0 m id ob (fun k => listed.getD k false) n) w' (TD T0 dst r (fun k => listed.getD k false) n) a.tmps →
      Holds ρ (HD H0 m id ob (fun k => listed.getD k false) n) w' → Ext ρs H0 w ρ (HD H0 m id ob (fun k => listed.getD k false) n) w' → a.defers = [] → a.tmps.size = N →
      (∀ k, k < n → isN (en k) = true → listed.getD k false = false → ρ (id k) = none) →
      (∀ (k : Nat) o, ops[k]? = some o → listed.getD k false = true → ∀ e ∈ o.after, Region.binds .any e = true → listed.getD e.on false = true) → wpAny P .any ops Q fuel listed a w' := by
    intro fuel
    induction fuel with
    | zero =>
      intro listed a w' ρ hsz htl hfc hrep hho hext hdf hN hres hdown
      have hcl := count_le (fun k => listed.getD k false) n
      have hnn : n = ops.size := by have := hk.le; omega
      have hall := count_all (p := fun k => listed.getD k false) (n := n) (by omega)
      have e1 : HD H0 m id ob (fun k => listed.getD k false) n = H' := by
        rw [HD_congr (q := fun _ => true) n hall, hH']
        have h1 := HD_true (H0 := H0) (m := m) (ob := en) n (fun j i o hj he => hnew j i o hj he)
        have h2 := HD_nxt (H0 := H0) (m := m) (id := id) (ob := ob) (p := fun _ => true) n
        have h3 := Hat_nxt (H := H0) (ob := en) n
        cases h4 : HD H0 m id ob (fun _ => true) n
        cases h5 : Hat H0 en n
        rw [h4] at h2
        rw [h5] at h3
        have h1' : (HD H0 m id ob (fun _ => true) n).obj = (Hat H0 en n).obj := h1
        rw [h4, h5] at h1'
        simp only [AH.mk.injEq]
        exact ⟨h1', h2.trans h3.symm⟩
      have e2 : TD T0 dst r (fun k => listed.getD k false) n = T' := by rw [TD_congr (q := fun _ => true) n hall, hT']
      have e3 : listed = tailStart n ops.size := by
        apply Array.ext
        · simp [tailStart, hsz]
        · intro k h1 h2
          have := hall k (by omega)
          simp only [Array.getD_eq_getD_getElem?, Array.getElem?_eq_getElem h1, Option.getD_some] at this
          rw [this]
          simp [tailStart]
          omega
      rw [e1] at hrep hho hext
      rw [e2] at hrep
      rw [e3]
      have := htail a w' ⟨T', H', ρ, hK, hrep, hho, hbase.trans hext, hdf, hN⟩
      rwa [show ops.size - n = 0 by omega] at this
    | succ fuel ih =>
      intro listed a w' ρ hsz htl hfc hrep hho hext hdf hN hres hdown
      have hcl := count_le (fun k => listed.getD k false) n
      by_cases hcn : count (fun k => listed.getD k false) n = n
      · have hall := count_all (p := fun k => listed.getD k false) (n := n) hcn
        have e1 : HD H0 m id ob (fun k => listed.getD k false) n = H' := by
          rw [HD_congr (q := fun _ => true) n hall, hH']
          have h1 := HD_true (H0 := H0) (m := m) (ob := en) n (fun j i o hj he => hnew j i o hj he)
          have h2 := HD_nxt (H0 := H0) (m := m) (id := id) (ob := ob) (p := fun _ => true) n
          have h3 := Hat_nxt (H := H0) (ob := en) n
          cases h4 : HD H0 m id ob (fun _ => true) n
          cases h5 : Hat H0 en n
          rw [h4] at h2
          rw [h5] at h3
          have h1' : (HD H0 m id ob (fun _ => true) n).obj = (Hat H0 en n).obj := h1
          rw [h4, h5] at h1'
          simp only [AH.mk.injEq]
          exact ⟨h1', h2.trans h3.symm⟩
        have e2 : TD T0 dst r (fun k => listed.getD k false) n = T' := by rw [TD_congr (q := fun _ => true) n hall, hT']
        have e3 : listed = tailStart n ops.size := by
          apply Array.ext
          · simp [tailStart, hsz]
          · intro k h1 h2
            by_cases hkn : k < n
            · have := hall k hkn
              simp only [Array.getD_eq_getD_getElem?, Array.getElem?_eq_getElem h1, Option.getD_some] at this
              rw [this]
              simp [tailStart, hkn]
            · have := htl k (by omega)
              simp only [Array.getD_eq_getD_getElem?, Array.getElem?_eq_getElem h1, Option.getD_some] at this
              rw [this]
              simp [tailStart, hkn]
        rw [e1] at hrep hho hext
        rw [e2] at hrep
        rw [e3]
        have := htail a w' ⟨T', H', ρ, hK, hrep, hho, hbase.trans hext, hdf, hN⟩
        rwa [show ops.size - n = fuel + 1 by omega] at this
      · obtain ⟨j, hjn, hj0, hjall⟩ := exists_least_false (p := fun k => listed.getD k false) (n := n) (by omega)
        refine ⟨fun hr => ?_, fun i hi => ?_⟩
        · obtain ⟨o, ho⟩ := hget j hjn
          have : j ∈ Region.ready .any ops listed := by
            rw [mem_ready]
            refine ⟨?_, o, ho, fun e he hb => hjall _ (hk.back j o ho e he hb)⟩
            have hlt : j < listed.size := by rw [hsz]; have := hk.le; omega
            simp only [Array.getD_eq_getD_getElem?, Array.getElem?_eq_getElem hlt, Option.getD_some] at hj0 ⊢
            exact hj0
          rw [hr] at this
          cases this
        · rw [mem_ready] at hi
          obtain ⟨hi0, o, ho, hio⟩ := hi
          have his : i < ops.size := (Array.getElem?_eq_some_iff.1 ho).1
          have hi0' : listed.getD i false = false := by
            have hlt : i < listed.size := by rw [hsz]; exact his
            simp only [Array.getD_eq_getD_getElem?, Array.getElem?_eq_getElem hlt, Option.getD_some] at hi0 ⊢
            exact hi0
          have hin : i < n := by
            rcases Nat.lt_or_ge i n with h | h
            · exact h
            · obtain ⟨o', ho', e, he, hb, heq⟩ := waits_spec (hk.tail j i hjn h his)
              rw [ho] at ho'
              injection ho' with ho'
              subst ho'
              have := hio e he hb
              rw [heq] at this
              have hj0' : listed.getD j false = false := hj0
              rw [hj0'] at this
              cases this
          obtain ⟨hl, hdi⟩ := hops i o hin ho
          -- what stands in the slots that it looks at
          have hwr : ∀ k, k < n → k ≠ i → ∀ d, dst k = some d → (d ∈ o.looksAt ops ∨ o.dst = some d) → (k < i → listed.getD k false = true) ∧ (i < k → listed.getD k false = false) := by
            intro k hkn hne d hd' hlook
            obtain ⟨ok, hok⟩ := hget k hkn
            have hdk := (hops k ok hkn hok).2
            rw [hdk] at hd'
            constructor
            · intro hlt
              rcases hk.head k i o ok hlt hin hok ho with hap | hw
              · obtain ⟨a1, a2, _⟩ := Oper.apart_spec hap
                rcases hlook with h | h
                · exact absurd h (a1 d hd')
                · exact absurd h (a2 d hd')
              · obtain ⟨o', ho', e, he, hb, heq⟩ := waits_spec hw
                rw [ho] at ho'
                injection ho' with ho'
                subst ho'
                rw [← heq]
                exact hio e he hb
            · intro hlt
              rcases hk.head i k ok o hlt hkn ho hok with hap | hw
              · obtain ⟨_, a2, a3⟩ := Oper.apart_spec hap
                rcases hlook with h | h
                · exact absurd h (a3 d hd')
                · exact absurd hd' (a2 d h)
              · cases hlk : listed.getD k false with
                | false => rfl
                | true =>
                  exfalso
                  obtain ⟨o', ho', e, he, hb, heq⟩ := waits_spec hw
                  rw [hok] at ho'
                  injection ho' with ho'
                  subst ho'
                  have := hdown k ok hok hlk e he hb
                  rw [heq, hi0'] at this
                  cases this
          have hs := hsteps i o hl
          have hs' : HeadStep P ops H0 (TD T0 dst r (fun k => listed.getD k false) n) (H0.nxt + cnt en i) o (r i) (en i) := by
            refine headStep_congr (fun t ht => ?_) hs
            rw [← TD_upto (T0 := T0) (dst := dst) (r := r) n (Nat.le_of_lt hin)]
            refine TD_agree n fun k hkn hdk => ?_
            by_cases hki : k = i
            · subst hki
              simp only [Nat.lt_irrefl, decide_false]
              exact hi0'.symm
            · obtain ⟨h1, h2⟩ := hwr k hkn hki t hdk (.inl ht)
              rcases Nat.lt_or_gt_of_ne hki with h | h
              · rw [h1 h]; simp [h]
              · rw [h2 h]; simp; omega
          have hp' : (fun k => (listed.setIfInBounds i true).getD k false) = fun k => listed.getD k false || decide (k = i) := by
            funext k
            by_cases hki : k = i
            · subst hki
              have hlt : k < listed.size := by rw [hsz]; exact his
              simp [Array.getD_eq_getD_getElem?, hlt]
            · rw [getD_set_ne false (Ne.symm hki)]
              simp [hki]
          have hsub : ∀ j o', H0.obj j = some o' → (HD H0 m id ob (fun k => listed.getD k false) n).obj j = some o' := by
            intro j o' ho'
            rw [HD_low n fun k hkn _ hsk => ?_]
            · exact ho'
            · have := hh.lt j o' ho'
              have := (hge k hkn hsk).1
              omega
          have next : ∀ (x : Value) (w2 : World) (ρ2 : Nat → Option Nat), Rep ρ2 (HD H0 m id ob (fun k => listed.getD k false || decide (k = i)) n) w2 (r i) x →
              Ext0 ρ (HD H0 m id ob (fun k => listed.getD k false) n) w' ρ2 (HD H0 m id ob (fun k => listed.getD k false || decide (k = i)) n) w2 →
              Holds ρ2 (HD H0 m id ob (fun k => listed.getD k false || decide (k = i)) n) w2 → Ext ρs H0 w ρ2 (HD H0 m id ob (fun k => listed.getD k false || decide (k = i)) n) w2 →
              (∀ k, k < n → isN (en k) = true → k ≠ i → listed.getD k false = false → ρ2 (id k) = none) → wpAny P .any ops Q fuel (listed.setIfInBounds i true) (a.put o.dst x) w2 := by
            intro x w2 ρ2 h1 h2 h3 h4 h5
            refine ih _ _ w2 ρ2 (by simp [hsz]) (fun k hk' => ?_) ?_ ?_ ?_ ?_ (by rw [defers_put]; exact hdf) (by rw [size_put]; exact hN) (fun k hkn hok hlk => ?_) fun k ok hok hlk e he hb => ?_
            · rw [getD_set_ne false (by omega)]; exact htl k hk'
            · rw [hp', count_put (p := fun k => listed.getD k false) hi0' n hin]; omega
            · rw [hp']
              intro t
              rw [TD_put n hin hi0' fun k hik hkn hdit hdkt => ((hwr k hkn (by omega) t hdkt (.inr (by rw [← hdi]; exact hdit))).2 hik)]
              by_cases hdt : dst i = some t
              · rw [if_pos hdt]
                rw [hdi] at hdt
                have hlt : t < a.tmps.size := by rw [hN]; exact hd o (by rw [← Array.getElem?_toList] at ho; exact List.mem_of_getElem? ho) t hdt
                rw [hdt]
                have : (a.put (some t) x).tmps.getD t undef = x := by simp [Act.put, Array.getD, hlt]
                rw [this]
                exact h1
              · rw [if_neg hdt]
                rw [hdi] at hdt
                have : (a.put o.dst x).tmps.getD t undef = a.tmps.getD t undef := by
                  cases hod : o.dst with
                  | none => rfl
                  | some d =>
                    simp only [Act.put, Array.getD_eq_getD_getElem?, Array.getElem?_setIfInBounds]
                    rw [if_neg (by intro e; subst e; exact hdt hod)]
                rw [this]
                exact Rep.ext0 h2 _ _ (hrep t)
            · rw [hp']; exact h3
            · rw [hp']; exact h4
            · by_cases hki : k = i
              · subst hki
                have hlt : k < listed.size := by rw [hsz]; exact his
                simp [Array.getD_eq_getD_getElem?, hlt] at hlk
              · rw [getD_set_ne false (Ne.symm hki)] at hlk
                exact h5 k hkn hok hki hlk
            · by_cases hki : k = i
              · subst hki
                rw [ho] at hok
                injection hok with hok
                subst hok
                exact getD_set_true (hio e he hb)
              · rw [getD_set_ne false (Ne.symm hki)] at hlk
                exact getD_set_true (hdown k ok hok hlk e he hb)
          have noobj : ∀ (x : Value) (w2 : World) (ρ2 : Nat → Option Nat), ob i = none → Rep ρ2 (HD H0 m id ob (fun k => listed.getD k false) n) w2 (r i) x → Holds ρ2 (HD H0 m id ob (fun k => listed.getD k false) n) w2 →
              Ext ρ (HD H0 m id ob (fun k => listed.getD k false) n) w' ρ2 (HD H0 m id ob (fun k => listed.getD k false) n) w2 → wpAny P .any ops Q fuel (listed.setIfInBounds i true) (a.put o.dst x) w2 := by
            intro x w2 ρ2 h0 h1 h2 h3
            have e := HD_none (H0 := H0) (m := m) (id := id) (p := fun k => listed.getD k false) h0 n
            refine next x w2 ρ2 (by rw [e]; exact h1) (by rw [e]; exact h3.to0) (by rw [e]; exact h2) (by rw [e]; exact hext.trans h3) fun k hkn hok hki hlk => ?_
            have hρ := hres k hkn hok hlk
            cases h4 : ρ2 (id k) with
            | none => rfl
            | some b =>
              rcases h3.new _ b h4 with h5 | ⟨h5, _⟩
              · rw [hρ] at h5; cases h5
              · rw [HD_nxt] at h5
                have hsk : (ob k).isSome = true := by
                  cases he : en k with
                  | none => rw [he] at hok; cases hok
                  | some x => simp [ob, obO, he]
                have := (hge k hkn hsk).2
                omega
          simp only [wpOp, ho]
          unfold HeadStep at hs'
          split at hs'
          · exact hs'.elim
          · rename_i c hg
            have hwant : Region.wanted o (yielded ops a.tmps) = on c := by
              cases c with
              | none => exact gcond_none hg _
              | some g => exact gcond_ok hrep hg
            have off : ob i = none → (∃ r', r i = mk c r') → on c = false → wpAny P .any ops Q fuel (listed.setIfInBounds i true) (a.put o.dst undef) w' := by
              rintro h0 ⟨r', h1⟩ h2
              refine noobj undef w' ρ h0 ?_ hho (Ext.refl hho)
              rw [h1]
              cases c with
              | none => cases h2
              | some g =>
                simp only [on, Option.getD_some] at h2
                subst h2
                simp only [mk, Rep]
                exact ⟨fun h => (by cases h), fun _ => trivial⟩
            have yes : ∀ {ρ2 : Nat → Option Nat} {H2 : AH} {w2 : World} {r' : AV} {x : Value}, on c = true → r i = mk c r' → Rep ρ2 H2 w2 r' x → Rep ρ2 H2 w2 (r i) x := by
              intro ρ2 H2 w2 r' x h1 h2 h3
              rw [h2]
              cases c with
              | none => exact h3
              | some g =>
                simp only [on, Option.getD_some] at h1
                subst h1
                simp only [mk, Rep]
                exact ⟨fun _ => h3, fun h => (by cases h)⟩
            have hobn : en i = none → ob i = none := fun h => by simp only [ob, obO, h, Option.map_none]
            have later : isN (en i) = true → ∀ k, i ≠ k → k < n → listed.getD k false = true → (ob k).isSome = true → id k ≠ id i := by
              intro hni k hne hkn hlk hsk heq
              obtain ⟨b, o2, hek, _⟩ := hsome k hsk
              cases b with
              | true => exact hdist i k hin hkn (Ne.symm hne) (by rw [hek]; rfl) hni heq
              | false =>
                obtain ⟨j2, z2, c2, cs2, q1, q2, _, _, _, q6, _⟩ := hstore k _ _ hkn hek
                have hji : j2 = i := by
                  rcases Nat.decEq j2 i with h | h
                  · exact absurd (by rw [(hent j2 _ _ _ q2).1, heq]) (hdist i j2 hin (by omega) h (by rw [q2]; rfl) hni)
                  · exact h
                subst hji
                obtain ⟨ok, hok, e, he, hb, heq2⟩ := waits_spec q6
                have := hdown k ok hok hlk e he hb
                rw [heq2, hi0'] at this
                cases this
            split at hs'
            · rename_i φ r' hp
              obtain ⟨h1, h2, h3⟩ := hs'
              cases hon : on c with
              | true =>
                simp only [hwant, hon, if_true]
                refine .inl ?_
                obtain ⟨x, hx, hr⟩ := apure_ok hho hrep (apure_mono hsub hp) (h1 hon)
                simp only [Oper.wp, hx, Oper.upon]
                exact noobj x w' ρ (hobn h3) (yes hon h2 hr) hho (Ext.refl hho)
              | false =>
                simp only [hwant, hon, Bool.false_eq_true, if_false]
                exact off (hobn h3) ⟨r', h2⟩ hon
            · rename_i hp
              rcases hs' with ⟨rfl, φ, f, o', hn, h1, h2, h3⟩ | ⟨rfl, φ, idx, o', hst, h1, h2, h3⟩ | ⟨h2, ⟨hon, r', hr'⟩ | ⟨φ, f, args, r', hc, h1, h3, h4⟩⟩
              ·
                simp only [hwant, on, Option.getD_none, if_true]
                refine .inl ?_
                obtain ⟨obj, x, hx, hfact⟩ := anew_ok hrep hn h1
                simp only [Oper.wp, hx, Oper.upon]
                have hni : isN (en i) = true := by rw [h3]; rfl
                obtain ⟨hidi, hobi⟩ := hent i _ _ _ h3
                have hsome' : (ob i).isSome = true := by rw [hobi]; rfl
                have hρi := hres i hin hni hi0'
                have hHD := HD_put (H0 := H0) (m := m) (id := id) (p := fun k => listed.getD k false) hi0' hobi n (fun k h4 h5 h6 h7 => later hni k (by omega) h5 h6 h7) hin
                have hlti : id i < (HD H0 m id ob (fun k => listed.getD k false) n).nxt := by
                  rw [HD_nxt]
                  exact (hge i hin hsome').2
                have hfree : (HD H0 m id ob (fun k => listed.getD k false) n).obj (id i) = none := by
                  rw [HD_low n fun k hkn hlk hok => ?_]
                  · cases h4 : H0.obj (id i) with
                    | none => rfl
                    | some o2 =>
                      have := hh.lt _ o2 h4
                      have := (hge i hin hsome').1
                      omega
                  · refine later hni k ?_ hkn hlk hok
                    intro e
                    subst e
                    rw [hi0'] at hlk
                    cases hlk
                have he0 := Ext0.allocAt hho obj o' hρi
                obtain ⟨k1, k2⟩ := hfact _ _ (id i) he0 (upd_self _ _)
                refine next x _ (upd ρ (id i) (some w'.heap.size)) ?_ ?_ ?_ ?_ fun k hkn hok hki hlk => ?_
                · rw [hHD, h2, ← hidi]; exact k1
                · rw [hHD]; exact he0
                · rw [hHD]; exact hho.allocAt obj o' hρi hlti hfree k2
                · rw [hHD]; exact hext.thenAlloc hho obj o' hρi (hge i hin hsome').1
                · simp only [upd]
                  rw [if_neg (hdist i k hin hkn hki hok hni)]
                  exact hres k hkn hok hlk
              · simp only [hwant, on, Option.getD_none, if_true]
                refine .inl ?_
                obtain ⟨j2, z, c2, cs, q1, q2, q3, q4, q5, q6, q7⟩ := hstore i _ _ hin h3
                obtain ⟨hidi, hobi⟩ := hent i _ _ _ h3
                obtain ⟨hidj, hobj⟩ := hent j2 _ _ _ q2
                have hlj : listed.getD j2 false = true := by
                  obtain ⟨oi, hoi, e, he, hb, heq⟩ := waits_spec q6
                  rw [ho] at hoi
                  injection hoi with hoi
                  subst hoi
                  rw [← heq]
                  exact hio e he hb
                have hsole : ∀ k, k ≠ i → k ≠ j2 → k < n → (ob k).isSome = true → id k ≠ idx := by
                  intro k hki hkj hkn hsk heq
                  obtain ⟨b, o2, hek, _⟩ := hsome k hsk
                  cases b with
                  | true => exact hdist j2 k (by omega) hkn hkj (by rw [hek]; rfl) (by rw [q2]; rfl) (by rw [heq, hidj])
                  | false => rw [heq] at hek; exact hki (q7 k o2 hkn hek)
                have hat := HD_at (H0 := H0) (m := m) (id := id) (p := fun k => listed.getD k false) hlj hobj n (fun k k1 k2 k3 k4 => by
                  rw [hidj]
                  refine hsole k ?_ (by omega) k2 k4
                  intro e
                  subst e
                  rw [hi0'] at k3
                  cases k3) (by omega)
                rw [hidj] at hat
                subst q4
                have haeff : ∃ ψ, aeff P (TD T0 dst r (fun k => listed.getD k false) n) (HD H0 m id ob (fun k => listed.getD k false) n) o.op = some (ψ, .any, (HD H0 m id ob (fun k => listed.getD k false) n).set idx (.cells z [cs] 0)) ∧ ψ := by
                  cases hop : o.op with
                  | store tt x v =>
                    rw [hop] at hst
                    simp only [astoreN] at hst
                    split at hst
                    · rename_i ix zx hcx
                      simp only [Option.some.injEq, Prod.mk.injEq, AObj.cells.injEq, List.cons.injEq, and_true] at hst
                      obtain ⟨rfl, rfl, rfl, rfl⟩ := hst
                      obtain ⟨g1, g2, g3, g4, g5⟩ := h1
                      simp only [aeff, astore, hcx, hat, Option.map_some]
                      have hsp : [c2].set 0 (splice ([c2].getD 0 []) 0 (acells (ev (TD T0 dst r (fun k => listed.getD k false) n) v).core)) = [acells (ev (TD T0 dst r (fun k => listed.getD k false) n) v).core] := by
                        simp only [splice, List.getD_cons_zero, List.take_zero, List.nil_append, Nat.zero_add, List.set_cons_zero]
                        rw [List.drop_of_length_le (by omega), List.append_nil]
                      rw [hsp]
                      exact ⟨_, rfl, g1, trivial, Nat.le_refl _, by simp, by omega, g2, g3, by rw [g4, g5]⟩
                    · cases hst
                  | _ => rw [hop] at hst; simp [astoreN] at hst
                obtain ⟨ψ, ha1, ha2⟩ := haeff
                obtain ⟨nx, w2, ρ2, x, hx, hnx, hr, k3, k4⟩ := aeff_ok hho hrep ha1 ha2
                have hHD := HD_put (H0 := H0) (m := m) (id := id) (p := fun k => listed.getD k false) hi0' hobi n (fun k k1 k2 _ k4 => by rw [hidi]; exact hsole k (by omega) (by omega) k2 k4) hin
                rw [hidi] at hHD
                have fin : wpAny P .any ops Q fuel (listed.setIfInBounds i true) (a.put o.dst x) w2 := by
                  refine next x w2 ρ2 ?_ ?_ ?_ ?_ fun k hkn hok hki hlk => ?_
                  · rw [hHD, h2]; exact hr
                  · rw [hHD]; exact k4.to0
                  · rw [hHD]; exact k3
                  · rw [hHD]; exact hext.trans k4
                  · have hρ := hres k hkn hok hlk
                    cases h4 : ρ2 (id k) with
                    | none => rfl
                    | some b =>
                      rcases k4.new _ b h4 with h5 | ⟨h5, _⟩
                      · rw [hρ] at h5; cases h5
                      · rw [HD_nxt] at h5
                        have hsk : (ob k).isSome = true := by
                          cases he : en k with
                          | none => rw [he] at hok; cases hok
                          | some x => simp [ob, obO, he]
                        have := (hge k hkn hsk).2
                        omega
                rcases hnx with rfl | ⟨rfl, rfl⟩
                · simp only [Oper.wp, hx, Oper.upon]; exact fin
                · simp only [Oper.wp, hx, Oper.upon]; exact fin
              · simp only [hwant, hon, Bool.false_eq_true, if_false]
                exact off (hobn h2) ⟨r', hr'⟩ hon
              · cases hon : on c with
                | true =>
                  simp only [hwant, hon, if_true]
                  refine .inl ?_
                  obtain ⟨q1, q2⟩ := h3 hon (HD H0 m id ob (fun k => listed.getD k false) n)
                  obtain ⟨xs, hx, hr⟩ := acall_run hrep hc (h1 hon) q1
                  simp only [Oper.wp, hx, Oper.upon]
                  refine (q2 ρ w' xs hho hr).mono ?_
                  rintro e w2 ⟨r2, H2, ρ2, x, ⟨rfl, rfl⟩, rfl, k2, k3, k4⟩
                  exact noobj x w2 ρ2 (hobn h2) (yes hon h4 k4) k2 k3
                | false =>
                  simp only [hwant, hon, Bool.false_eq_true, if_false]
                  exact off (hobn h2) ⟨r', h4⟩ hon
  -- the start
  have hH0 : HD H0 m id ob (fun k => (Array.replicate ops.size false).getD k false) n = { H0 with nxt := H0.nxt + m } := by
    rw [HD_congr (q := fun _ => false) n fun k _ => rep_false _ _]
    have : ∀ k, HD H0 m id ob (fun _ => false) k = { H0 with nxt := H0.nxt + m } := by
      intro k
      induction k with
      | zero => rfl
      | succ k ih => simp only [HD, ih]
    exact this n
  have hT0 : TD T0 dst r (fun k => (Array.replicate ops.size false).getD k false) n = T0 := by
    rw [TD_congr (q := fun _ => false) n fun k _ => rep_false _ _]
    have : ∀ k, TD T0 dst r (fun _ => false) k = T0 := by
      intro k
      induction k with
      | zero => rfl
      | succ k ih => simp only [TD, ih, Bool.false_eq_true, if_false]
    exact this n
  have hc0 : count (fun k => (Array.replicate ops.size false).getD k false) n = 0 := by
    have : ∀ k, count (fun k => (Array.replicate ops.size false).getD k false) k = 0 := by
      intro k
      induction k with
      | zero => rfl
      | succ k ih =>
        simp only [count, ih]
        have : (Array.replicate ops.size false).getD k false = false := rep_false _ _
        rw [this]
        rfl
    exact this n
  have hebump : Ext ρs H0 w ρs { H0 with nxt := H0.nxt + m } w := ⟨fun i b hi => (hh.bound i b hi).1, fun _ _ h => h, fun _ _ h => .inl h, fun _ o h _ => ⟨o, h⟩, Nat.le_add_right _ _, fun _ _ h k => ⟨h, k⟩, Nat.le_refl _, fun _ _ _ => rfl, fun _ cs _ _ h => ⟨cs, h, rfl⟩, rfl, rfl, rfl⟩
  have hhbump : Holds ρs { H0 with nxt := H0.nxt + m } w := ⟨fun i o ho => (hh.obj i o ho).ext hebump (hh.lt i o ho) (fun _ _ => rfl), hh.inj, fun i o ho => by have := hh.lt i o ho; show i < H0.nxt + m; omega,
    fun i b hi => by have := hh.bound i b hi; exact ⟨by show i < H0.nxt + m; omega, this.2⟩⟩
  refine main ops.size _ a w ρs (by simp) (fun k _ => rep_false _ _) (by rw [hc0]; rfl) ?_ ?_ ?_ hdf hN (fun k hkn hok _ => ?_) fun k o _ hl => ?_
  · rw [hH0, hT0]; exact hT.ext hebump
  · rw [hH0]; exact hhbump
  · rw [hH0]; exact hebump
  · cases h : ρs (id k) with
    | none => rfl
    | some b =>
      have := (hh.bound _ b h).1
      have hsk : (ob k).isSome = true := by
        cases he : en k with
        | none => rw [he] at hok; cases hok
        | some x => simp [ob, obO, he]
      have := (hge k hkn hsk).1
      omega
  · have : (Array.replicate ops.size false).getD k false = false := rep_false _ _
    rw [this] at hl
    cases hl

end Go.Sim
