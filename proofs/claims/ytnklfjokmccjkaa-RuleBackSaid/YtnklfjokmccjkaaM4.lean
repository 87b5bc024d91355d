/- What the row rests on, part 4. Conditions: none. -/
import Derived.Test.YtnklfjokmccjkaaM3
set_option linter.unusedSimpArgs false
set_option linter.unusedVariables false
set_option maxRecDepth 100000
namespace Go.Sim.Try
open Go Go.Sim
section
theorem setT_join {d : Nat} {x y : Tr} (h : (setT (d + 1) (.join x y)).2 = true) : (setT d x).2 = true ∧ (setT d y).2 = true ∧ band .i64 (setT d x).1 (setT d y).1 = 0 := by
  rw [Tr.join, setT_two, if_pos rfl] at h
  simp only [Bool.and_eq_true, decide_eq_true_eq] at h
  exact ⟨h.1.1, h.1.2, h.2⟩
theorem tr_form {d : Nat} {t : Tr} (h : (setT (d + 1) t).2 = true) : (∃ o, t = .leaf o) ∨ ∃ a b, t = .join a b := by
  obtain ⟨o, l⟩ := t
  match l, h with
  | [], _ => exact .inl ⟨o, rfl⟩
  | [a], h => rw [setT_one] at h; cases h
  | [a, b], h =>
    rw [setT_two] at h
    by_cases ho : o = 0
    · subst ho; exact .inr ⟨a, b, rfl⟩
    · rw [if_neg ho] at h; cases h
  | a :: b :: e :: l, h => rw [setT_more] at h; cases h
theorem cut16 {a b : Int} (a0 : 1 ≤ a) (a1 : a ≤ 15) (b0 : 1 ≤ b) (b1 : b ≤ 15) (h : band .i64 a b = 0) : bor .i64 a b = a + b ∧ a + b ≤ 15 ∧ band .i64 a (a + b) = a := by
  obtain ⟨i, rfl⟩ : ∃ i : Fin 16, a = (i.val : Int) := ⟨⟨a.toNat, by omega⟩, by simp; omega⟩
  obtain ⟨j, rfl⟩ : ∃ j : Fin 16, b = (j.val : Int) := ⟨⟨b.toNat, by omega⟩, by simp; omega⟩
  clear a0 a1 b0 b1
  revert i j
  decide +kernel
theorem uncut16 {a s : Int} (a0 : 1 ≤ a) (s1 : s ≤ 15) (h : a < s) (hb : band .i64 a s = a) : band .i64 a (s - a) = 0 ∧ bor .i64 a (s - a) = s := by
  obtain ⟨i, rfl⟩ : ∃ i : Fin 16, a = (i.val : Int) := ⟨⟨a.toNat, by omega⟩, by simp; omega⟩
  obtain ⟨j, rfl⟩ : ∃ j : Fin 16, s = (j.val : Int) := ⟨⟨s.toNat, by omega⟩, by simp; omega⟩
  clear a0 s1
  revert i j
  decide +kernel
theorem setT_pos : ∀ (d : Nat) (t : Tr), (setT d t).2 = true → 1 ≤ (setT d t).1
  | 0, _, h => by simp [setT] at h
  | d + 1, t, h => by
    rcases tr_form h with ⟨o, rfl⟩ | ⟨a, b, rfl⟩
    · rw [Tr.leaf, setT_nil]
      have h1 := tmod4 o
      have := pow2_cases (n := (max (o.tmod 4) 0).toNat) (by omega)
      dsimp only
      omega
    · obtain ⟨ha, hb, h0⟩ := setT_join h
      have pa := setT_pos d a ha
      have pb := setT_pos d b hb
      have ra := setT_range d a
      have rb := setT_range d b
      rw [Tr.join, setT_two, if_pos rfl]
      have := cut16 pa ra.2 pb rb.2 h0
      dsimp only
      omega
theorem leafSet_mem {s : Int} {t : Tr} : t ∈ leafSet s ↔ ∃ o : Nat, o < 4 ∧ s = 2 ^ o ∧ t = .leaf (o : Int) := by
  unfold leafSet
  simp only [List.mem_map, List.mem_filter, List.mem_range, decide_eq_true_eq]
  constructor
  · rintro ⟨o, ⟨h1, h2⟩, rfl⟩; exact ⟨o, h1, h2, rfl⟩
  · rintro ⟨o, h1, h2, rfl⟩; exact ⟨o, ⟨h1, h2⟩, rfl⟩
theorem cutT_mem {f : Int → List Tr} {s a : Int} {t : Tr} : t ∈ cutT f s a ↔ (a < s ∧ band .i64 a s = a) ∧ ∃ x ∈ f a, ∃ y ∈ f (s - a), t = .join x y := by
  unfold cutT
  simp only [Bool.and_eq_true, decide_eq_true_eq]
  split
  · rename_i h
    simp only [List.mem_flatMap, List.mem_map]
    constructor
    · rintro ⟨x, hx, y, hy, rfl⟩; exact ⟨h, x, hx, y, hy, rfl⟩
    · rintro ⟨_, x, hx, y, hy, rfl⟩; exact ⟨x, hx, y, hy, rfl⟩
  · rename_i h
    constructor
    · intro h; cases h
    · rintro ⟨h2, _⟩; exact absurd h2 h
theorem allT_mem : ∀ (d : Nat) (s : Int) (t : Tr), t ∈ allT d s ↔ (setT d t).2 = true ∧ (setT d t).1 = s
  | 0, s, t => by simp [allT, setT]
  | d + 1, s, t => by
    rw [allT]
    constructor
    · intro h
      split at h
      · rename_i hs
        rcases List.mem_append.1 h with h | h
        · obtain ⟨o, ho, rfl, rfl⟩ := leafSet_mem.1 h
          rw [Tr.leaf, setT_nil]
          have hc : o = 0 ∨ o = 1 ∨ o = 2 ∨ o = 3 := by omega
          rcases hc with rfl | rfl | rfl | rfl <;> decide
        · obtain ⟨k, _, hk⟩ := List.mem_flatMap.1 h
          obtain ⟨⟨h1, h2⟩, x, hx, y, hy, rfl⟩ := cutT_mem.1 hk
          obtain ⟨x1, x2⟩ := (allT_mem d _ x).1 hx
          obtain ⟨y1, y2⟩ := (allT_mem d _ y).1 hy
          have hu := uncut16 (a := (k : Int) + 1) (s := s) (by omega) (by omega) h1 h2
          rw [Tr.join, setT_two, if_pos rfl, x1, x2, y1, y2, hu.1, hu.2]
          exact ⟨rfl, rfl⟩
      · cases h
    · rintro ⟨h1, h2⟩
      have hp := setT_pos _ _ h1
      have hr := setT_range (d + 1) t
      rw [h2] at hp hr
      rw [if_pos ⟨hp, by omega⟩]
      rcases tr_form h1 with ⟨o, rfl⟩ | ⟨a, b, rfl⟩
      · refine List.mem_append.2 (.inl (leafSet_mem.2 ?_))
        rw [Tr.leaf, setT_nil] at h1 h2
        simp only [Bool.and_eq_true, decide_eq_true_eq] at h1
        refine ⟨o.toNat, by omega, ?_, by rw [Int.toNat_of_nonneg h1.1]⟩
        dsimp only at h2
        rw [← h2]
        have hc : o = 0 ∨ o = 1 ∨ o = 2 ∨ o = 3 := by omega
        rcases hc with rfl | rfl | rfl | rfl <;> decide
      · obtain ⟨ha, hb, h0⟩ := setT_join h1
        have pa := setT_pos d a ha
        have pb := setT_pos d b hb
        have ra := setT_range d a
        have rb := setT_range d b
        have hc := cut16 pa ra.2 pb rb.2 h0
        rw [Tr.join, setT_two, if_pos rfl] at h2
        dsimp only at h2
        rw [hc.1] at h2
        refine List.mem_append.2 (.inr (List.mem_flatMap.2 ⟨((setT d a).1 - 1).toNat, List.mem_range.2 (by omega), ?_⟩))
        have e : ((((setT d a).1 - 1).toNat : Nat) : Int) + 1 = (setT d a).1 := by omega
        rw [e]
        refine cutT_mem.2 ⟨⟨by omega, by rw [← h2]; exact hc.2.2⟩, a, (allT_mem d _ a).2 ⟨ha, rfl⟩, b, (allT_mem d _ b).2 ⟨hb, by omega⟩, rfl⟩
end
attribute [local push_cast] aops_cons aops_nil aopG_none aopG_some aopP_eq aopE_eq aopC_eq aopE?_eq aopC?_eq aopB_eq aopB?_eq abr anilq gopP_eq gopL_eq ahead_cons ahead_nil ahdG_none ahdG_some ahdP_eq ahdN_eq ahdC_eq ahdN?_eq ahdS_eq ahdS?_eq astoreN ahdC?_eq ghdP_eq ghdC_eq ghdC?_eq ghdZ_f ghdZ_t ahdI_eq ahdI?_eq ghdN?_eq aim_nil aim_cons isIn_nil isIn_none isIn_cons aimm aheP_eq aheA_eq aheC_eq aheC?_eq aheI?_eq aheA?_eq gheP_eq gheC_eq gheC?_eq gheZ_eq aheG_none aheG_some aheff_cons aheff_nil aapp gro_rsl gro_lit gro_esl opt_some opt_none no_eq acondT_true acondT_false acondT_lit aw_skip aw_region aw_regionD aw_seq aw_cond aw_block aw_loop aw_exit aw_label aw_ret thn_normal thn_exit thn_ret inb_normal inb_exit inb_ret qret_ret qret_normal gcond apure aeff anew acallee ares aresT aresL aresC ares1 qfin_eq ev ofV evL gokL tget tput_some tput_none initT abin aint aun aload afaddr aiaddr afield aindex aextract apick pickv_lit Bool.or_false Bool.false_or Bool.or_true Bool.true_or imp_self aslice chunk roomB abound aconv abuild afill splice alen aminmax abuiltin anil apart Value.oneCell' astore aappend srcEs abuildSlice amakeSlice amapPut alookup aput afind mget keyV sameV_int Option.isSome_some Option.isSome_none cond_true cond_false asets isEq plus_obj plus_nxt plus_add plus_set plus_del IntKind.bits Option.map_some Option.map_none Option.bind_some Option.bind_none Option.join_some Option.getD_some Option.getD_none Option.toList List.getElem?_toArray List.getElem?_cons_zero List.getElem?_cons_succ List.getElem?_nil List.length_cons List.length_nil List.length_map List.head?_cons List.cons_append List.nil_append List.append_nil List.map_cons List.map_nil List.getD_cons_zero List.getD_cons_succ List.replicate_succ List.replicate_zero List.set_cons_zero List.set_cons_succ List.take_succ_cons List.take_zero List.drop_succ_cons List.drop_zero List.all_cons List.all_nil Nat.zero_add if_true if_false true_and and_true false_and and_false true_implies implies_true forall_const Bool.and_true Bool.true_and Bool.false_and Bool.and_false Bool.true_beq Bool.false_beq Bool.not_not beq_tt beq_ff Int.toNat_natCast decide_true decide_false Bool.not_true Bool.not_false Bool.true_eq_false Bool.false_eq_true false_implies exists_prop eq_self bne_self_eq_false beq_self_eq_true decide_eq_true_eq decide_eq_false_iff_not Bool.not_eq_true' Bool.not_eq_false' AV.int AV.bool AV.nilS ne_eq not_false_eq_true not_true_eq_false exists_eq_left exists_eq_left' Nat.lt_irrefl core_lit grd_lit acells_lit one_lit core_agg grd_agg acells_agg one_agg core_tup grd_tup acells_tup one_tup core_sl grd_sl acells_sl one_sl core_esl grd_esl acells_esl one_esl core_rsl grd_rsl acells_rsl one_rsl core_ptr grd_ptr acells_ptr one_ptr core_iptr grd_iptr acells_iptr one_iptr core_clo grd_clo acells_clo one_clo core_mp grd_mp acells_mp one_mp core_any grd_any acells_any one_any core_gv grd_gv fit_agg fit_lit fit_sl fit_esl fit_rsl fit_ptr fit_iptr fit_clo fit_mp retq_ret retq_normal set_nxt set_set plus_obj_set plus_set_set app_get0 app_get app_set0 app_set List.append_assoc List.length_append List.length_set Nat.lt_add_one Nat.add_lt_add_iff_right Nat.lt_add_right_iff_pos Nat.add_lt_add_iff_left List.mem_cons List.not_mem_nil or_false forall_eq forall_eq_or_imp lt_s0 lt_s1 lt_s2 lt_s3 lt_s4 lt_s5 lt_s6 lt_s7 lt_s8 pickv_t pickv_f or_nand or_nand2 imp_and_l SealT SealOs sealO_cells sl_lit sl_any sl_agg sl_tup sl_sl sl_rsl slO sl_esl sl_nil sl_eslesl sl_eslnil sl_rslrsl sl_eslrsl sl_nilrsl sl_ptr sl_iptr sl_ptri slP sl_clo sl_mp sl_gv sll_nil sll_cons slll_nil slll_cons shut_eq shutO Option.join_none Fn.func.injEq and_self sealL_self sealLL_self seal_self PureL PureLL Pure Nat.le_refl Nat.zero_le AV.lit.injEq Value.int.injEq Value.bool.injEq false_or or_true true_or Int.natCast_zero Int.ofNat_zero Int.cast_ofNat_Int Int.natCast_add Int.natCast_one Option.some.injEq piL_is sop_nil sop_cons sop_none sop_some sopO_some sop_new shut_pi shutL_nil shutL_cons exQ_exit exQ_ret exQ_normal Go.Sim.Try.ty_load1 Go.Sim.Try.ty_zero1 Go.Sim.Try.ty_load2 Go.Sim.Try.ty_zero2 Go.Sim.Try.ty_und2 Go.Sim.Try.ty_load3 Go.Sim.Try.ty_zero3 Go.Sim.Try.ty_und3 Go.Sim.Try.ty_load4 Go.Sim.Try.ty_zero4 Go.Sim.Try.ty_und4 Go.Sim.Try.ty_load9 Go.Sim.Try.ty_zero9 Go.Sim.Try.ty_und9 Go.Sim.Try.ty_load21 Go.Sim.Try.ty_zero21 Go.Sim.Try.ty_und21 Go.Sim.Try.ty_load22 Go.Sim.Try.ty_zero22 Go.Sim.Try.ty_el22 Go.Sim.Try.ty_zeroE22 Go.Sim.Try.ty_load24 Go.Sim.Try.ty_zero24 Go.Sim.Try.ty_fld24_0 Go.Sim.Try.ty_part24_0 Go.Sim.Try.ty_fld24_1 Go.Sim.Try.ty_part24_1 Go.Sim.Try.ty_struct24 Go.Sim.Try.ty_load27 Go.Sim.Try.ty_zero27 Go.Sim.Try.ty_load32 Go.Sim.Try.ty_zero32 Go.Sim.Try.ty_load45 Go.Sim.Try.ty_zero45 Go.Sim.Try.ty_load48 Go.Sim.Try.ty_zero48 Go.Sim.Try.ty_fld48_0 Go.Sim.Try.ty_part48_0 Go.Sim.Try.ty_struct48 Go.Sim.Try.ty_load50 Go.Sim.Try.ty_zero50 Go.Sim.Try.ty_und50 Go.Sim.Try.ty_vzero4 Go.Sim.Try.ty_load52 Go.Sim.Try.ty_zero52 Go.Sim.Try.ty_el52 Go.Sim.Try.ty_zeroE52 Go.Sim.Try.ty_load55 Go.Sim.Try.ty_zero55 Go.Sim.Try.ty_el55 Go.Sim.Try.ty_zeroE55
section
attribute [local push_cast] encT_mk encT_take encT_len encT_one encTs_pure encT_pure
def dgT (o : Int) : ByteArray := Utf8.encode (IntKind.wrap .i32 (IntKind.wrap .i64 (48 + o)))
theorem dg_ok (o : Int) : Quiet Go.Proofs.Try.prog 38 [.agg (encT (Tr.leaf o))] (.lit (.string (dgT o))) := by
  rw [Tr.leaf, encT_mk]
  refine quiet_of (rs := #[.tmp 2]) Go.Proofs.Try.func38 rfl rfl rfl mixed rfl rfl fun H hs => ?_
  push_cast -implicitDefEqProofs [eq_self, iff_self, dgT, List.map_nil, List.length_nil]
def jnT (a b : ByteArray) : ByteArray := (⟨#[40]⟩ : ByteArray) ++ a ++ b ++ (⟨#[41]⟩ : ByteArray)
theorem jnT_size (a b : ByteArray) : (jnT a b).size = a.size + b.size + 2 := by
  have h1 : (⟨#[40]⟩ : ByteArray).size = 1 := rfl
  have h2 : (⟨#[41]⟩ : ByteArray).size = 1 := rfl
  simp only [jnT, ByteArray.size_append]
  omega
theorem jn_ok (a b : Tr) (x y : ByteArray) (hx : x.size ≤ 100) (hy : y.size ≤ 100) (h1 : Quiet Go.Proofs.Try.prog 38 [.agg (encT a)] (.lit (.string x))) (h2 : Quiet Go.Proofs.Try.prog 38 [.agg (encT b)] (.lit (.string y))) : Quiet Go.Proofs.Try.prog 38 [.agg (encT (Tr.join a b))] (.lit (.string (jnT x y))) := by
  rw [Tr.join, encT_mk]
  refine quiet_of (rs := #[.tmp 2]) Go.Proofs.Try.func38 rfl rfl rfl mixed rfl rfl fun H hs => ?_
  push_cast -implicitDefEqProofs [eq_self, iff_self, List.map_cons, List.map_nil, List.length_cons, List.length_nil]
  refine areg_at 14 (by kernel_rfl) (by kernel_rfl) ?_
  push_cast -implicitDefEqProofs [eq_self, iff_self, encT_pure, encT_len, encT_one, encT_take]
  refine ahdq h1 ?_
  push_cast -implicitDefEqProofs [eq_self, iff_self, encT_pure, encT_len, encT_one, encT_take, astr]
  refine ⟨?_, ahdq h2 ?_⟩
  · have : (⟨#[40]⟩ : ByteArray).size = 1 := rfl
    omega
  push_cast -implicitDefEqProofs [eq_self, iff_self, encT_pure, encT_len, encT_one, encT_take, astr, jnT, ByteArray.size_append]
  have : (⟨#[40]⟩ : ByteArray).size = 1 := rfl
  have : (⟨#[41]⟩ : ByteArray).size = 1 := rfl
  omega
def txt : Nat → Tr → ByteArray
  | 0, _ => ByteArray.empty
  | d + 1, .mk o l =>
    match l with
    | [a, b] => jnT (txt d a) (txt d b)
    | _ => dgT o
theorem dgT_size (o : Int) (h0 : 0 ≤ o) (h1 : o < 4) : (dgT o).size = 1 := by
  have hc : o = 0 ∨ o = 1 ∨ o = 2 ∨ o = 3 := by omega
  rcases hc with rfl | rfl | rfl | rfl <;> decide +kernel
theorem txt_ok : ∀ (d : Nat) (t : Tr), d ≤ 4 → (setT d t).2 = true → Quiet Go.Proofs.Try.prog 38 [.agg (encT t)] (.lit (.string (txt d t))) ∧ (txt d t).size + 2 ≤ 3 * 2 ^ d
  | 0, _, _, h => by simp [setT] at h
  | d + 1, t, hd, h => by
    have hp : 1 ≤ 2 ^ d := Nat.one_le_two_pow
    have h16 : 2 ^ d ≤ 16 := Nat.le_trans (Nat.pow_le_pow_right (by decide) (show d ≤ 4 by omega)) (by decide)
    rcases tr_form h with ⟨o, rfl⟩ | ⟨a, b, rfl⟩
    · rw [Tr.leaf, setT_nil] at h
      simp only [Bool.and_eq_true, decide_eq_true_eq] at h
      refine ⟨dg_ok o, ?_⟩
      show (dgT o).size + 2 ≤ _
      rw [dgT_size o h.1 h.2, Nat.pow_succ]
      omega
    · obtain ⟨ha, hb, _⟩ := setT_join h
      obtain ⟨a1, a2⟩ := txt_ok d a (by omega) ha
      obtain ⟨b1, b2⟩ := txt_ok d b (by omega) hb
      refine ⟨jn_ok a b _ _ (by omega) (by omega) a1 b1, ?_⟩
      show (jnT _ _).size + 2 ≤ _
      rw [jnT_size, Nat.pow_succ]
      omega
theorem TextT_ok (t : Tr) (ht : t.Ok) (hm : t.may = true) : Quiet Go.Proofs.Try.prog 27 [.agg (encT t)] (.lit (.string (txt 4 t))) := by
  have h1 := MayT_ok t ht
  have h2 := (txt_ok 4 t (by decide) hm).1
  rw [hm] at h1
  refine quiet_of (rs := #[.tmp 2]) Go.Proofs.Try.func27 rfl rfl rfl mixed rfl rfl fun H hs => ?_
  push_cast -implicitDefEqProofs [eq_self, iff_self]
  refine callq h1 ?_
  push_cast -implicitDefEqProofs [eq_self, iff_self]
  refine callq h2 ?_
  push_cast -implicitDefEqProofs [eq_self, iff_self]
end
section
attribute [local push_cast] encT_mk encT_take encT_len encT_one encTs_pure encT_pure awY_skip awY_region awY_regionD awY_seq awY_cond awY_block awY_loop awY_exit awY_ret awY_range aopsY_nil aopsY_cons acy ayl xq_eq rq_normal
theorem encT_inj : ∀ s t : Tr, encT s = encT t → s = t := by
  intro s
  induction s using Tr.ind with
  | h o l ih =>
    intro t h
    obtain ⟨o', l'⟩ := t
    rw [encT_mk, encT_mk] at h
    simp only [List.cons.injEq, AV.lit.injEq, Value.int.injEq, true_and, AV.sl.injEq, and_true] at h
    obtain ⟨rfl, h⟩ := h
    congr 1
    induction l generalizing l' with
    | nil =>
      cases l' with
      | nil => rfl
      | cons y l' => simp at h
    | cons x l ih2 =>
      cases l' with
      | nil => simp at h
      | cons y l' =>
        simp only [List.map_cons, List.cons.injEq] at h
        rw [ih x (.head _) y h.1, ih2 (fun z hz => ih z (.tail _ hz)) l' h.2]
open Classical in
noncomputable def decT (c : List AV) : Tr := if h : ∃ t, encT t = c then h.choose else trO
theorem decT_enc (t : Tr) : decT (encT t) = t := by
  have h : ∃ x, encT x = encT t := ⟨t, rfl⟩
  unfold decT
  rw [dif_pos h]
  exact encT_inj _ _ h.choose_spec
def addT (s : List Tr) (x : Tr) : List Tr := if s.any (fun t => txt 4 x == txt 4 t) then s else s ++ [x]
noncomputable def stepC (s : List Tr) : List AV → List Tr
  | [.agg c] => addT s (decT c)
  | _ => s
theorem stepC_fold (l : List Tr) : ∀ s, (l.map argT).foldl stepC s = l.foldl addT s := by
  induction l with
  | nil => intro s; rfl
  | cons x l ih =>
    intro s
    simp only [List.map_cons, List.foldl_cons]
    rw [ih]
    simp only [argT, stepC, decT_enc]
def kvT (t : Tr) : Value × AV := (.string (txt 4 t), .bool true)
theorem sameV_str (a b : ByteArray) : sameV (.string a) (.string b) = (a == b) := rfl
theorem kv_find (k : ByteArray) (s : List Tr) : afind (.string k) (s.map kvT) = if (s.any fun t => k == txt 4 t) = true then some (.bool true) else none := by
  induction s with
  | nil => rfl
  | cons t s ih =>
    rw [List.map_cons, kvT, afind, List.any_cons, sameV_str]
    cases h : (k == txt 4 t)
    · rw [if_neg (by decide), ih, Bool.false_or]
    · rw [if_pos rfl, Bool.true_or, if_pos rfl]
theorem kv_put (x : Tr) (s : List Tr) (h : (s.any fun t => txt 4 x == txt 4 t) = false) : aput (.string (txt 4 x)) (.bool true) (s.map kvT) = (s ++ [x]).map kvT := by
  induction s with
  | nil => rfl
  | cons t s ih =>
    rw [List.any_cons, Bool.or_eq_false_iff] at h
    rw [List.map_cons, kvT, aput, sameV_str, h.1, if_neg (by decide), ih h.2]
    rfl
theorem kv_at (k : ByteArray) (s : List Tr) : FindAt Go.Proofs.Try.prog 9 (.string k) ((s.map kvT).map (·.1)) :=
  findAt_key Go.Proofs.Try.underlying9 trivial (by
    simp only [List.mem_map]
    rintro _ ⟨_, ⟨t, _, rfl⟩, rfl⟩
    trivial)
end
section
theorem nodup_len {α : Type} : ∀ {l m : List α}, l.Nodup → (∀ x ∈ l, x ∈ m) → l.length ≤ m.length
  | [], m, _, _ => Nat.zero_le _
  | x :: l, m, h, hs => by
    rw [List.nodup_cons] at h
    obtain ⟨m1, m2, rfl⟩ := List.append_of_mem (hs x (.head _))
    have := nodup_len (l := l) (m := m1 ++ m2) h.2 fun y hy => by
      have hy2 := hs y (.tail _ hy)
      simp only [List.mem_append, List.mem_cons] at hy2 ⊢
      rcases hy2 with h1 | rfl | h1
      · exact .inl h1
      · exact absurd hy h.1
      · exact .inr h1
    simp only [List.length_append, List.length_cons] at this ⊢
    omega
theorem next_all' : ∀ a : Fin 16, ((allT 4 (a.val : Int)).all fun t => (nextT 4 t).all fun x => (setT 4 x).2 && decide ((setT 4 x).1 = (a.val : Int))) = true := by decide +kernel
theorem next_all {a : Int} {t x : Tr} (ht : t ∈ allT 4 a) (hx : x ∈ nextT 4 t) : x ∈ allT 4 a := by
  have h1 := (allT_mem 4 a t).1 ht
  have h2 := setT_range 4 t
  rw [h1.2] at h2
  have h3 := next_all' ⟨a.toNat, by omega⟩
  have e : ((a.toNat : Nat) : Int) = a := by omega
  dsimp only at h3
  rw [e, List.all_eq_true] at h3
  have h4 := List.all_eq_true.1 (h3 t ht) x hx
  simp only [Bool.and_eq_true, decide_eq_true_eq] at h4
  exact (allT_mem 4 a x).2 h4
theorem all_120' : ∀ a : Fin 16, (allT 4 (a.val : Int)).length ≤ 120 := by decide +kernel
theorem all_120 (a : Int) : (allT 4 a).length ≤ 120 := by
  by_cases h : 0 ≤ a ∧ a < 16
  · have h3 := all_120' ⟨a.toNat, by omega⟩
    have e : ((a.toNat : Nat) : Int) = a := by omega
    dsimp only at h3
    rw [e] at h3
    exact h3
  · rw [allT, if_neg (by omega)]; simp
def Cl (a : Int) (s : List Tr) : Prop := s.Nodup ∧ ∀ x ∈ s, x ∈ allT 4 a
theorem Cl.len {a : Int} {s : List Tr} (h : Cl a s) : s.length ≤ 120 := Nat.le_trans (nodup_len h.1 h.2) (all_120 a)
theorem addT_cl {a : Int} {s : List Tr} {x : Tr} (h : Cl a s) (hx : x ∈ allT 4 a) : Cl a (addT s x) := by
  unfold addT
  split
  · exact h
  · rename_i hn
    refine ⟨?_, fun y hy => ?_⟩
    · rw [List.nodup_append]
      refine ⟨h.1, by simp, fun y hy z hz => ?_⟩
      rw [List.mem_singleton] at hz
      subst hz
      rintro rfl
      apply hn
      rw [List.any_eq_true]
      exact ⟨y, hy, by rw [MapKept.bytes_beq]⟩
    · rcases List.mem_append.1 hy with hy | hy
      · exact h.2 y hy
      · rw [List.mem_singleton] at hy; subst hy; exact hx
theorem fold_cl {a : Int} : ∀ {l s : List Tr}, Cl a s → (∀ x ∈ l, x ∈ allT 4 a) → Cl a (l.foldl addT s)
  | [], s, h, _ => h
  | x :: l, s, h, hl => by
    rw [List.foldl_cons]
    exact fold_cl (addT_cl h (hl x (List.mem_cons_self ..))) fun y hy => hl y (List.mem_cons_of_mem _ hy)
def closeSt (t : Tr) : Nat → List Tr
  | 0 => [t]
  | k + 1 => match (closeSt t k)[k]? with
    | some y => (nextT 4 y).foldl addT (closeSt t k)
    | none => closeSt t k
theorem closeSt_cl {a : Int} {t : Tr} (h : t ∈ allT 4 a) : ∀ k, Cl a (closeSt t k)
  | 0 => ⟨by simp [closeSt], fun x hx => by rw [closeSt, List.mem_singleton] at hx; subst hx; exact h⟩
  | k + 1 => by
    have ih := closeSt_cl h k
    rw [closeSt]
    split
    · rename_i y hy
      exact fold_cl ih fun x hx => next_all (ih.2 y (List.mem_of_getElem? hy)) hx
    · exact ih
theorem closeSt_succ {t : Tr} {k : Nat} (h : k < (closeSt t k).length) : closeSt t (k + 1) = (nextT 4 (closeSt t k)[k]).foldl addT (closeSt t k) := by
  rw [closeSt, List.getElem?_eq_getElem h]
theorem addT_pre (s : List Tr) (x : Tr) : ∃ m, addT s x = s ++ m := by
  unfold addT
  split
  · exact ⟨[], by simp⟩
  · exact ⟨[x], rfl⟩
theorem fold_pre : ∀ (l s : List Tr), ∃ m, l.foldl addT s = s ++ m
  | [], s => ⟨[], by simp⟩
  | x :: l, s => by
    obtain ⟨m, hm⟩ := addT_pre s x
    obtain ⟨m2, hm2⟩ := fold_pre l (addT s x)
    exact ⟨m ++ m2, by rw [List.foldl_cons, hm2, hm, List.append_assoc]⟩
theorem closeSt_stay {t : Tr} {k : Nat} (h : (closeSt t k).length ≤ k) : ∀ n, closeSt t (k + n) = closeSt t k
  | 0 => rfl
  | n + 1 => by
    have ih := closeSt_stay h n
    rw [← Nat.add_assoc, closeSt, ih, List.getElem?_eq_none (by omega)]
def closeR (t : Tr) : List Tr := if t.may then closeSt t 121 else []
theorem closeR_at {t : Tr} (hm : t.may = true) {k : Nat} (hk : k ≤ 121) (h : (closeSt t k).length ≤ k) : closeR t = closeSt t k := by
  rw [closeR, if_pos hm, ← closeSt_stay h (121 - k), Nat.add_sub_cancel' hk]
theorem setT_ok2 : ∀ (d : Nat) (t : Tr), (setT d t).2 = true → t.Ok
  | 0, _, h => by simp [setT] at h
  | d + 1, t, h => by
    rcases tr_form h with ⟨o, rfl⟩ | ⟨a, b, rfl⟩
    · exact .mk (by simp) (by simp)
    · obtain ⟨ha, hb, _⟩ := setT_join h
      exact join_ok (setT_ok2 d a ha) (setT_ok2 d b hb)
end
section
attribute [local push_cast] encT_mk encT_take encT_len encT_one encTs_pure encT_pure awY_skip awY_region awY_regionD awY_seq awY_cond awY_block awY_loop awY_exit awY_ret awY_range aopsY_nil aopsY_cons acy ayl xq_eq rq_normal
def stCl (i m0 m : Nat) : St (List Tr) where
  inv s H B := (i < H.nxt ∧ m0 < H.nxt ∧ m < H.nxt ∧ i ≠ m0 ∧ i ≠ m ∧ m0 ≠ m) ∧ H.obj m0 = some (.cells 1 [[.mp m]] 0) ∧ H.obj m = some (.amap (s.map kvT)) ∧
    ∃ j, H.obj i = some (.cells 1 [[.rsl j 2 0 s.length]] 0) ∧ H.obj j = some (.cells 2 (s.map encT) 0) ∧ j < H.nxt ∧ j ≠ i ∧ j ≠ m0 ∧ j ≠ m ∧ B = fun q => q = i ∨ q = m0 ∨ q = m ∨ q = j
  stable := by
    rintro s H H' B ⟨⟨h1, h2, h3, h4⟩, k1, k2, j, k3, k4, k5, k6, k7, k8, rfl⟩ hq hn
    refine ⟨⟨by omega, by omega, by omega, h4⟩, ?_, ?_, j, ?_, ?_, by omega, k6, k7, k8, rfl⟩
    · rw [hq m0 (.inr (.inl rfl))]; exact k1
    · rw [hq m (.inr (.inr (.inl rfl)))]; exact k2
    · rw [hq i (.inl rfl)]; exact k3
    · rw [hq j (.inr (.inr (.inr rfl)))]; exact k4
  low := by
    rintro s H B ⟨⟨h1, h2, h3, h4⟩, k1, k2, j, k3, k4, k5, k6, k7, k8, rfl⟩ q hq
    rcases hq with rfl | rfl | rfl | rfl <;> omega
set_option maxHeartbeats 4000000 in
theorem Close_ok (t : Tr) (ht : t.Ok) : Quiet Go.Proofs.Try.prog 20 [.agg (encT t)] (.sl ((closeR t).map encT)) := by
  have hM := MayT_ok t ht
  cases hm : t.may
  · rw [hm] at hM
    refine quietY_of (rs := #[.tmp 2]) Go.Proofs.Try.func20 rfl rfl rfl mixed rfl rfl (Nat.le_of_ble_eq_true rfl) fun H hs => ?_
    push_cast -implicitDefEqProofs [eq_self, iff_self]
    refine callq hM ?_
    push_cast -implicitDefEqProofs [eq_self, iff_self, closeR, hm, Bool.false_eq_true, if_false, List.map_nil]
  rw [hm] at hM
  have hmem : t ∈ allT 4 (setT 4 t).1 := (allT_mem 4 _ t).2 ⟨hm, rfl⟩
  have hT := TextT_ok t ht hm
  have hFA := kv_at
  have hF0 := kv_at (txt 4 t) []
  rw [List.map_nil, List.map_nil] at hF0
  refine quietY_of (rs := #[.tmp 2]) Go.Proofs.Try.func20 rfl rfl rfl mixed rfl rfl (Nat.le_of_ble_eq_true rfl) fun H hs => ?_
  push_cast -implicitDefEqProofs [eq_self, iff_self]
  refine callq hM ?_
  push_cast -implicitDefEqProofs [eq_self, iff_self]
  refine callq hT ?_
  push_cast -implicitDefEqProofs [eq_self, iff_self, hF0, aput]
  refine loop_ruleY (fun n T' H' => ∃ (k : Nat) (B' : Nat → Prop), n = 121 - k ∧ k ≤ 121 ∧ k ≤ (closeSt t k).length ∧ (∃ l', H' = H.plus l') ∧ Lw H' ∧ tget T' 5 = .int k ∧ tget T' 3 = .ptr (H.nxt + 2) 1 0 0 ∧ tget T' 4 = .ptr (H.nxt + 4) 1 0 0 ∧ (stCl (H.nxt + 2) (H.nxt + 4) (H.nxt + 3)).inv (closeSt t k) H' B' ∧ ∀ q, B' q → H.nxt ≤ q) 121 ⟨0, _, rfl, by omega, by simp, ⟨_, rfl⟩, lw_plus _ _, rfl, rfl, rfl, ⟨⟨?_, ?_, ?_, by omega, by omega, by omega⟩, ?_, ?_, H.nxt + 1, ?_, ?_, ?_, by omega, by omega, by omega, rfl⟩, fun q hq => by omega⟩ ?_
  · simp [plus_nxt]
  · simp [plus_nxt]
  · simp [plus_nxt]
  · rw [plus_obj]; rfl
  · rw [plus_obj]; rfl
  · rw [plus_obj]; rfl
  · rw [plus_obj]; rfl
  · simp [plus_nxt]
  rintro n T' H' ⟨k, B', rfl, hk, hkl, ⟨l', hl'⟩, hsc', t5, t3, t4, hI, hB⟩
  have hI0 := hI
  obtain ⟨⟨g1, g2, g3, g4⟩, k1, k2, j, k3, k4, k5, k6, k7, k8, hB'⟩ := hI0
  have hcl := closeSt_cl hmem k
  have hlen := hcl.len
  rw [← plus_none hsc']
  have p3 : ∀ l, (H'.plus l).obj (H.nxt + 2) = some (.cells 1 [[.rsl j 2 0 (closeSt t k).length]] 0) := fun l => by rw [plus_low H' l g1]; exact k3
  have pj : ∀ l, (H'.plus l).obj j = some (.cells 2 ((closeSt t k).map encT) 0) := fun l => by rw [plus_low H' l k5]; exact k4
  have p4 : ∀ l, (H'.plus l).obj (H.nxt + 4) = some (.cells 1 [[.mp (H.nxt + 3)]] 0) := fun l => by rw [plus_low H' l g2]; exact k1
  have pm : ∀ l, (H'.plus l).obj (H.nxt + 3) = some (.amap ((closeSt t k).map kvT)) := fun l => by rw [plus_low H' l g3]; exact k2
  by_cases hkk : k < (closeSt t k).length
  · have hk' : ((k : Int) < ((closeSt t k).length : Int)) = True := by simp; omega
    have hk0 : (0 ≤ (k : Int)) = True := by simp
    have hget := encTs_get (closeSt t k) k hkk
    push_cast -implicitDefEqProofs [eq_self, iff_self, t5, t3, t4, p3, pj, hk', hk0, hget]
    have hy : (setT 4 (closeSt t k)[k]).2 = true := ((allT_mem 4 _ _).1 (hcl.2 _ (List.getElem_mem hkk))).1
    have hsu := closeSt_succ hkk
    have hym : (closeSt t k)[k] ∈ allT 4 (setT 4 t).1 := hcl.2 _ (List.getElem_mem hkk)
    refine ⟨hkk, callq (eachR_ok _) ?_⟩
    generalize (closeSt t k)[k] = y at hy hsu hym
    push_cast -implicitDefEqProofs [eq_self, iff_self, t5, t3, t4, p3, pj]
    rw [plus_none hsc']
    refine arange mixed 39 [.iptr (encT y)] ((nextT 4 y).map argT) rfl rfl (each1_ok 4 y (setT_ok2 4 y hy) hy) (stCl (H.nxt + 2) (H.nxt + 4) (H.nxt + 3)) stepC (closeSt t k) B' hI ?_ rfl rfl ?_ ?_
    · intro x hx
      obtain ⟨c, _, rfl⟩ := List.mem_map.1 hx
      rfl
    · intro L1 x L2 H1 B1 hx hn1 hsc1 hI1
      obtain ⟨l1, l2', hl, rfl, hl2⟩ := List.map_eq_append_iff.1 hx
      obtain ⟨c, l2, rfl, rfl, rfl⟩ := List.map_eq_cons_iff.1 hl2
      have hcm : c ∈ allT 4 (setT 4 t).1 := next_all hym (by rw [hl]; simp)
      have hcy := ((allT_mem 4 _ _).1 hcm).1
      have hTc := TextT_ok c (setT_ok2 4 c hcy) hcy
      have hcs : Cl (setT 4 t).1 (l1.foldl addT (closeSt t k)) := fold_cl hcl fun x hx => next_all hym (by rw [hl]; simp [hx])
      rw [stepC_fold] at hI1 ⊢
      have hst : stepC (l1.foldl addT (closeSt t k)) (argT c) = addT (l1.foldl addT (closeSt t k)) c := by simp only [argT, stepC, decT_enc]
      rw [hst]
      have hsl := hcs.len
      generalize l1.foldl addT (closeSt t k) = s at hI1 hcs hsl ⊢
      have hI2 := hI1
      obtain ⟨⟨g1, g2, g3, g4, g5, g6⟩, k1, k2, j, k3, k4, k5, k6, k7, k8, hB'⟩ := hI2
      rw [← plus_none (lw_hsc hsc1)]
      have p3 : ∀ l, (H1.plus l).obj (H.nxt + 2) = some (.cells 1 [[.rsl j 2 0 s.length]] 0) := fun l => by rw [plus_low H1 l g1]; exact k3
      have pj : ∀ l, (H1.plus l).obj j = some (.cells 2 (s.map encT) 0) := fun l => by rw [plus_low H1 l k5]; exact k4
      have p4 : ∀ l, (H1.plus l).obj (H.nxt + 4) = some (.cells 1 [[.mp (H.nxt + 3)]] 0) := fun l => by rw [plus_low H1 l g2]; exact k1
      have pm : ∀ l, (H1.plus l).obj (H.nxt + 3) = some (.amap (s.map kvT)) := fun l => by rw [plus_low H1 l g3]; exact k2
      have hFAs := hFA (txt 4 c) s
      push_cast -implicitDefEqProofs [eq_self, iff_self, t5, t3, t4, argT, psT, List.zip_cons_cons, List.zip_nil_left, List.zip_nil_right, List.foldl_cons, List.foldl_nil]
      refine callq hTc ?_
      have hfind := kv_find (txt 4 c) s
      cases hany : s.any fun t => txt 4 c == txt 4 t
      · rw [hany, if_neg (by decide)] at hfind
        have hput := kv_put c s hany
        have hadd : addT s c = s ++ [c] := by rw [addT, hany, if_neg (by decide)]
        push_cast -implicitDefEqProofs [eq_self, iff_self, t5, t3, t4, p3, pj, p4, pm, hFAs, hfind, hput]
        rw [plus_setlow H1 _ g3]
        obtain ⟨E, hE⟩ : ∃ E, E = H1.set (H.nxt + 3) (.amap ((s ++ [c]).map kvT)) := ⟨_, rfl⟩
        rw [← hE]
        have eE : ∀ q, q ≠ H.nxt + 3 → E.obj q = H1.obj q := fun q hq => by rw [hE]; show (if q = H.nxt + 3 then _ else H1.obj q) = _; rw [if_neg hq]
        have eM : E.obj (H.nxt + 3) = some (.amap ((s ++ [c]).map kvT)) := by rw [hE]; show (if H.nxt + 3 = H.nxt + 3 then _ else _) = _; rw [if_pos rfl]
        have nE : E.nxt = H1.nxt := by rw [hE]; rfl
        obtain ⟨D, hD⟩ : ∃ D, D = E.del j := ⟨_, rfl⟩
        have hnD : H1.nxt = D.nxt := by rw [hD, ← nE]; rfl
        have hnE : E.nxt = D.nxt := by rw [nE, hnD]
        have eD : ∀ q, q ≠ j → D.obj q = E.obj q := fun q hq => by rw [hD]; show (if q = j then none else E.obj q) = _; rw [if_neg hq]
        have q0 : ∀ l, (E.plus l).obj (H.nxt + 2) = some (.cells 1 [[.rsl j 2 0 s.length]] 0) := fun l => by rw [plus_low E l (by omega), eE _ (by omega)]; exact k3
        have q1 : ∀ l, (E.plus l).obj j = some (.cells 2 (s.map encT) 0) := fun l => by rw [plus_low E l (by omega), eE _ k8]; exact k4
        have d0 : ∀ l, (D.plus l).obj (H.nxt + 2) = some (.cells 1 [[.rsl j 2 0 s.length]] 0) := fun l => by rw [plus_low D l (by omega), eD _ (Ne.symm k6), eE _ (by omega)]; exact k3
        have d1 : ∀ l, (D.plus l).obj j = none := fun l => by rw [plus_low D l (by omega), hD]; show (if j = j then none else E.obj j) = _; rw [if_pos rfl]
        have hdel : ∀ l, (E.plus l).del j = D.plus l := fun l => by rw [plus_dellow E l (by omega), hD]
        have hset : ∀ l o, (D.plus l).set (H.nxt + 2) o = (D.set (H.nxt + 2) o).plus l := fun l o => plus_setlow D l (by omega) o
        have hso : ∀ l o, ((D.set (H.nxt + 2) o).plus l).obj (H.nxt + 2) = some o := fun l o => plus_setobj (by omega)
        refine aregY_plain ?_
        refine areg_late (D.plus [some (.cells 2 [encT c] 0)]) 5 (fun q o hq => ?_) (by kernel_rfl) (by kernel_rfl) (by kernel_rfl) ?_
        · simp only [AH.plus] at hq ⊢
          rw [hnE]
          split at hq
          · rename_i h
            rw [if_pos h]
            rw [hD] at hq
            change (if q = j then none else E.obj q) = some o at hq
            split at hq
            · cases hq
            · exact hq
          · rename_i h
            rw [if_neg h]; exact hq
        push_cast -implicitDefEqProofs [eq_self, iff_self, t5, t3, t4, hnD, hnE, q0, q1, d0, d1, hdel, hset, hso, aLate_eq, gro_rsl]
        rw [plus_none (lw_hsc hsc1), List.take_of_length_le (by simp), hadd]
        refine ⟨by omega, ⟨by omega, by omega⟩, by simp, ?_⟩
        have hrow : ((List.map encT s ++ [[AV.lit (Value.int IntKind.i64 0), AV.lit (Value.slice none 0 0)]]).set s.length (encT c ++ List.drop 2 ((List.map encT s ++ [[AV.lit (Value.int IntKind.i64 0), AV.lit (Value.slice none 0 0)]]).getD s.length []))) = (s ++ [c]).map encT := by simp [List.set_append]
        rw [hrow]
        have hlow : ∀ o l q, q < H1.nxt → q ≠ H.nxt + 2 → ((D.set (H.nxt + 2) o).plus l).obj q = D.obj q := fun o l q hq hne => by
          rw [plus_low _ _ (by rw [set_nxt]; omega)]
          show (if q = H.nxt + 2 then _ else D.obj q) = _
          rw [if_neg hne]
        refine ⟨by rw [plus_nxt, set_nxt]; omega, fun q hq hb => ?_, fun q => q = H.nxt + 2 ∨ q = H.nxt + 4 ∨ q = H.nxt + 3 ∨ q = D.nxt + 1, ⟨⟨?_, ?_, ?_, by omega, by omega, by omega⟩, ?_, ?_, D.nxt + 1, ?_, ?_, ?_, by omega, by omega, by omega, rfl⟩, fun q hq => ?_⟩
        · rw [hB'] at hb
          rw [hlow _ _ _ hq (by omega), eD _ (by omega), eE _ (by omega)]
        · rw [plus_nxt, set_nxt]; omega
        · rw [plus_nxt, set_nxt]; omega
        · rw [plus_nxt, set_nxt]; omega
        · rw [hlow _ _ _ g2 (by omega), eD _ (Ne.symm k7), eE _ (by omega)]; exact k1
        · rw [hlow _ _ _ g3 (by omega), eD _ (Ne.symm k8)]; exact eM
        · rw [hso, List.length_append]; rfl
        · rw [plus_obj_set]; rfl
        · rw [plus_nxt, set_nxt]; simp
        · rw [hB']; omega
      · rw [hany, if_pos rfl] at hfind
        have hadd : addT s c = s := by rw [addT, hany, if_pos rfl]
        rw [hadd]
        push_cast -implicitDefEqProofs [eq_self, iff_self, t5, t3, t4, p3, pj, p4, pm, hFAs, hfind]
        rw [plus_none (lw_hsc hsc1)]
        exact moves_stay hI1 _
    · intro H2 hsc2 hm2
      rw [stepC_fold] at hm2
      rw [hl'] at hm2
      obtain ⟨l2, rfl⟩ := hm2.is_plus hB hsc2
      obtain ⟨_, _, B2, hI2, hBn⟩ := hm2
      rw [← hsu] at hI2
      push_cast -implicitDefEqProofs [eq_self, iff_self, t5, t3, t4]
      rw [wrap64 (n := (k : Int) + 1) (by omega) (by omega)]
      refine ⟨121 - (k + 1), by omega, k + 1, B2, rfl, by omega, ?_, ⟨_, rfl⟩, lw_plus _ _, rfl, t3, t4, hI2, fun q hq => ?_⟩
      · obtain ⟨m, hm⟩ := fold_pre (nextT 4 y) (closeSt t k)
        rw [hsu, hm, List.length_append]
        omega
      · rcases hBn q hq with h | h
        · exact hB q h
        · rw [plus_nxt] at h; omega
  · have hk' : ((k : Int) < ((closeSt t k).length : Int)) = False := by simp; omega
    rw [closeR_at hm hk (by omega)]
    push_cast -implicitDefEqProofs [eq_self, iff_self, t5, t3, t4, p3, pj, hk']
    rw [plus_none hsc']
    subst hl'
    push_cast -implicitDefEqProofs [eq_self, iff_self, k3, k4]
    have hj : (H.plus []).obj j = none := by
      have := hB j (by rw [hB']; exact .inr (.inr (.inr rfl)))
      simp only [AH.plus]
      rw [if_neg (by omega)]
      rfl
    rw [hj, List.take_of_length_le (by simp)]
    exact ⟨sealLL_pure _ _ _ (encTs_pure _), trivial⟩
end
section
attribute [local push_cast] encT_mk encT_take encT_len encT_one encTs_pure encT_pure
theorem JoinR_ok (x y : Tr) : Quiet Go.Proofs.Try.prog 33 [.agg (encT x), .agg (encT y)] (.agg (encT (.join x y))) := by
  refine quiet_of (rs := #[.cell 4 24]) Go.Proofs.Try.func33 rfl rfl rfl mixed rfl rfl fun H hs => ?_
  push_cast -implicitDefEqProofs [eq_self, iff_self, Tr.join]
theorem lvsT_len : ∀ (d : Nat) (t : Tr), d ≤ 4 → (lvsT d t).1.length ≤ 2 ^ d
  | 0, _, _ => by simp [lvsT]
  | d + 1, .mk o [], _ => by rw [lvsT_nil]; simp; exact Nat.one_le_two_pow
  | d + 1, .mk o [a, b], h => by
    rw [lvsT_two]
    have ha := lvsT_len d a (by omega)
    have hb := lvsT_len d b (by omega)
    split
    · rw [List.length_append, Nat.pow_succ]; omega
    · simp
  | d + 1, .mk o [a], _ => by rw [lvsT_one]; simp
  | d + 1, .mk o (a :: b :: c :: l), _ => by rw [lvsT_more]; simp
theorem pow_16 {d : Nat} (h : d ≤ 4) : 2 ^ d ≤ 16 := by
  have hc : d = 0 ∨ d = 1 ∨ d = 2 ∨ d = 3 ∨ d = 4 := by omega
  rcases hc with rfl | rfl | rfl | rfl | rfl <;> decide
theorem isL1 (l : List Int) : ∀ e ∈ l.map encI, e.length = 1 := by
  simp only [List.mem_map]
  rintro _ ⟨x, _, rfl⟩
  rfl
theorem isA1 (l : List Int) : ∀ e ∈ l.map encI, e.all AV.one = true := by
  simp only [List.mem_map]
  rintro _ ⟨x, _, rfl⟩
  rfl
set_option maxHeartbeats 4000000 in
theorem leaves_ok : ∀ (d : Nat) (t : Tr), d ≤ 4 → t.Ok → Quiet Go.Proofs.Try.prog 41 [.agg (encT t), .int ((5 - d : Nat) : Int)] (.tup [.sl ((lvsT d t).1.map encI), .bool (lvsT d t).2])
  | 0, .mk o l, _, _ => by
    refine quiet_of (rs := #[.tmp 4, .tmp 5]) Go.Proofs.Try.func41 rfl rfl rfl mixed rfl rfl fun H hs => ?_
    simp -implicitDefEqProofs only [push_cast, Nat.reduceAdd, Nat.reduceSub, Nat.reduceMul, Nat.reduceLT, Nat.reduceLeDiff, Nat.reduceEqDiff, Nat.reduceBEq, reduceCtorEq, reduceIte, Int.reduceLE, Int.reduceLT, Int.reduceNeg, Int.reduceToNat, lvsT, List.map_nil, Int.reduceAdd]
  | d + 1, .mk o [], hd, ht => by
    have hd0 : (4 < ((5 - (d + 1) : Nat) : Int)) = False := by simp; omega
    refine quiet_of (rs := #[.tmp 4, .tmp 5]) Go.Proofs.Try.func41 rfl rfl rfl mixed rfl rfl fun H hs => ?_
    rw [lvsT_nil]
    simp -implicitDefEqProofs only [push_cast, Nat.reduceAdd, Nat.reduceSub, Nat.reduceMul, Nat.reduceLT, Nat.reduceLeDiff, Nat.reduceEqDiff, Nat.reduceBEq, reduceCtorEq, reduceIte, Int.reduceLE, Int.reduceLT, Int.reduceNeg, Int.reduceToNat, hd0, List.length_nil, List.map_nil, Int.reduceEq]
    refine areg_at 12 (by kernel_rfl) (by kernel_rfl) ?_
    simp -implicitDefEqProofs only [push_cast, Nat.reduceAdd, Nat.reduceSub, Nat.reduceMul, Nat.reduceLT, Nat.reduceLeDiff, Nat.reduceEqDiff, Nat.reduceBEq, reduceCtorEq, reduceIte, Int.reduceLE, Int.reduceLT, Int.reduceNeg, Int.reduceToNat]
    exact sealL_pure _ _ _ (by simp [PureL, Pure])
  | d + 1, .mk o [a], hd, ht => by
    have hd0 : (4 < ((5 - (d + 1) : Nat) : Int)) = False := by simp; omega
    refine quiet_of (rs := #[.tmp 4, .tmp 5]) Go.Proofs.Try.func41 rfl rfl rfl mixed rfl rfl fun H hs => ?_
    rw [lvsT_one]
    simp -implicitDefEqProofs only [push_cast, Nat.reduceAdd, Nat.reduceSub, Nat.reduceMul, Nat.reduceLT, Nat.reduceLeDiff, Nat.reduceEqDiff, Nat.reduceBEq, reduceCtorEq, reduceIte, Int.reduceLE, Int.reduceLT, Int.reduceNeg, Int.reduceToNat, hd0, List.length_cons, List.length_nil, List.map_nil, List.map_cons, Int.reduceEq, Int.reduceAdd]
  | d + 1, .mk o (a :: b :: c :: l), hd, ht => by
    have hd0 : (4 < ((5 - (d + 1) : Nat) : Int)) = False := by simp; omega
    have e0 : ((l.length : Int) + 1 + 1 + 1 = 0) = False := by simp; omega
    have e2 : ((l.length : Int) + 1 + 1 + 1 = 2) = False := by simp; omega
    refine quiet_of (rs := #[.tmp 4, .tmp 5]) Go.Proofs.Try.func41 rfl rfl rfl mixed rfl rfl fun H hs => ?_
    rw [lvsT_more]
    simp -implicitDefEqProofs only [push_cast, Nat.reduceAdd, Nat.reduceSub, Nat.reduceMul, Nat.reduceLT, Nat.reduceLeDiff, Nat.reduceEqDiff, Nat.reduceBEq, reduceCtorEq, reduceIte, Int.reduceLE, Int.reduceLT, Int.reduceNeg, Int.reduceToNat, hd0, List.length_cons, List.length_nil, List.map_nil, List.map_cons, e0, e2]
  | d + 1, .mk o [a, b], hd, ht => by
    have hd0 : (4 < ((5 - (d + 1) : Nat) : Int)) = False := by simp; omega
    obtain ⟨_, hlo⟩ := ht
    have ha := leaves_ok d a (by omega) (hlo _ (by simp))
    have hb := leaves_ok d b (by omega) (hlo _ (by simp))
    have la := lvsT_len d a (by omega)
    have lb := lvsT_len d b (by omega)
    have hp := pow_16 (d := d) (by omega)
    have hw : IntKind.wrap .i64 (((5 - (d + 1) : Nat) : Int) + 1) = ((5 - d : Nat) : Int) := by rw [wrap64 (by omega) (by omega)]; omega
    refine quiet_of (rs := #[.tmp 4, .tmp 5]) Go.Proofs.Try.func41 rfl rfl rfl mixed rfl rfl fun H hs => ?_
    rw [lvsT_two]
    by_cases ho : o = 0
    · have ho' : (o = 0) = True := by simp [ho]
      rw [if_pos ho]
      simp -implicitDefEqProofs only [push_cast, Nat.reduceAdd, Nat.reduceSub, Nat.reduceMul, Nat.reduceLT, Nat.reduceLeDiff, Nat.reduceEqDiff, Nat.reduceBEq, reduceCtorEq, reduceIte, Int.reduceLE, Int.reduceLT, Int.reduceNeg, Int.reduceToNat, hd0, hw, ho', List.length_cons, List.length_nil, List.map_nil, List.map_cons, Int.reduceEq, Int.reduceAdd]
      refine callq ha ?_
      simp -implicitDefEqProofs only [push_cast, Nat.reduceAdd, Nat.reduceSub, Nat.reduceMul, Nat.reduceLT, Nat.reduceLeDiff, Nat.reduceEqDiff, Nat.reduceBEq, reduceCtorEq, reduceIte, Int.reduceLE, Int.reduceLT, Int.reduceNeg, Int.reduceToNat, hd0, hw, List.length_cons, List.length_nil, Int.reduceEq, Int.reduceAdd]
      refine callq hb ?_
      simp -implicitDefEqProofs only [push_cast, Nat.reduceAdd, Nat.reduceSub, Nat.reduceMul, Nat.reduceLT, Nat.reduceLeDiff, Nat.reduceEqDiff, Nat.reduceBEq, reduceCtorEq, reduceIte, Int.reduceLE, Int.reduceLT, Int.reduceNeg, Int.reduceToNat]
      refine ⟨⟨isL1 _, by omega⟩, ⟨isL1 _, isA1 _, by omega⟩, by simp, ?_⟩
      rw [List.take_of_length_le (l := (lvsT d a).1.map encI) (by simp), List.take_of_length_le (by simp), ← List.map_append]
      exact sealLL_pure _ _ _ (encIs_pure _)
    · have ho' : (o = 0) = False := by simp [ho]
      rw [if_neg ho]
      simp -implicitDefEqProofs only [push_cast, Nat.reduceAdd, Nat.reduceSub, Nat.reduceMul, Nat.reduceLT, Nat.reduceLeDiff, Nat.reduceEqDiff, Nat.reduceBEq, reduceCtorEq, reduceIte, Int.reduceLE, Int.reduceLT, Int.reduceNeg, Int.reduceToNat, hd0, hw, ho', List.length_cons, List.length_nil, List.map_nil, List.map_cons, Int.reduceEq, Int.reduceAdd]
theorem nodup_upto {l : List Int} : (∀ (i k : Nat) (hi : i < l.length) (hk : k < i), l[k] ≠ l[i]) ↔ l.Nodup := by
  rw [List.nodup_iff_pairwise_ne, List.pairwise_iff_getElem]
  exact ⟨fun h i j hi hj hij => h j i hj hij, fun h i k hi hk => h k i (by omega) hi hk⟩
theorem may_lvs (t : Tr) : t.may = ((lvsT 4 t).2 && decide (lvsT 4 t).1.Nodup) := by
  have := (set_lvs 4 t).1
  unfold Tr.may
  rw [Bool.eq_iff_iff, this, Bool.and_eq_true, decide_eq_true_eq]
theorem MayTR_ok (t : Tr) (h : t.Ok) : Quiet Go.Proofs.Try.prog 32 [.agg (encT t)] (.bool t.may) := by
  have h4 := leaves_ok 4 t (by omega) h
  have hl16 := lvsT_len 4 t (by omega)
  rw [may_lvs]
  generalize lvsT 4 t = lt at h4 hl16
  obtain ⟨l, is⟩ := lt
  dsimp only at h4 hl16 ⊢
  refine quiet_of (rs := #[.tmp 2]) Go.Proofs.Try.func32 rfl rfl rfl mixed rfl rfl fun H hs => ?_
  push_cast -implicitDefEqProofs [eq_self, iff_self]
  refine callq h4 ?_
  push_cast -implicitDefEqProofs [eq_self, iff_self]
  refine loop_at hs (σ := Nat) (fun i => i ≤ l.length ∧ ∀ (a b : Nat) (ha : a < l.length) (hb : b < a), a < i → l[b] ≠ l[a]) (fun i => l.length - i)
    (fun i => [(5, .int i), (3, .sl (l.map encI)), (4, .bool is)]) (fun _ => []) [] 0 ⟨by omega, fun a b _ _ h => by omega⟩ rfl ?_ ?_ ?_
  · (try push_cast -implicitDefEqProofs [eq_self, iff_self, encIs_pure])
  · (try push_cast -implicitDefEqProofs [eq_self, iff_self])
  rintro i ⟨hi2, hi3⟩
  by_cases hi : i < l.length
  · have hi' : ((i : Int) < (l.length : Int)) = True := by simp; omega
    have hi0 : (0 ≤ (i : Int)) = True := by simp
    push_cast -implicitDefEqProofs [eq_self, iff_self, hi']
    refine loop_at hs (σ := Nat) (fun k => k ≤ i ∧ ∀ (b : Nat) (hb : b < i), b < k → l[b] ≠ l[i]) (fun k => i - k)
      (fun k => [(6, .int k), (5, .int i), (3, .sl (l.map encI)), (4, .bool is)]) (fun _ => []) [] 0 ⟨by omega, fun b _ h => by omega⟩ rfl ?_ ?_ ?_
    · (try push_cast -implicitDefEqProofs [eq_self, iff_self, encIs_pure])
    · (try push_cast -implicitDefEqProofs [eq_self, iff_self])
    rintro k ⟨hk2, hk3⟩
    by_cases hk : k < i
    · have hk' : ((k : Int) < (i : Int)) = True := by simp; omega
      have hk0 : (0 ≤ (k : Int)) = True := by simp
      have hkl : k < l.length := by omega
      have hkl' : ((k : Int) < (l.length : Int)) = True := by simp; omega
      push_cast -implicitDefEqProofs [eq_self, iff_self, hk']
      refine areg_at 9 (by kernel_rfl) (by kernel_rfl) ?_
      push_cast -implicitDefEqProofs [eq_self, iff_self, hk0, hi0, hkl', hi', encIs_get l k hkl, encIs_get l i hi, encI]
      refine ⟨fun he => ?_, fun he => ?_⟩
      · have hn : ¬ l.Nodup := fun hn => (nodup_upto.2 hn) i k hi hk he
        push_cast -implicitDefEqProofs [eq_self, iff_self, hn, decide_false, Bool.and_false]
      · rw [wrap64 (n := (k : Int) + 1) (by omega) (by omega)]
        refine next_at [] (k + 1) ⟨by omega, fun b hb hbk => ?_⟩ (by omega) rfl ?_ ?_
        · rcases Nat.lt_or_ge b k with h5 | h5
          · exact hk3 b hb h5
          · obtain rfl : b = k := by omega
            exact he
        · (try push_cast -implicitDefEqProofs [eq_self, iff_self, encIs_pure])
        · (try push_cast -implicitDefEqProofs [eq_self, iff_self])
    · have hk' : ((k : Int) < (i : Int)) = False := by simp; omega
      push_cast -implicitDefEqProofs [eq_self, iff_self, hk']
      rw [wrap64 (n := (i : Int) + 1) (by omega) (by omega)]
      refine next_at [] (i + 1) ⟨by omega, fun a b ha hb hai => ?_⟩ (by omega) rfl ?_ ?_
      · rcases Nat.lt_or_ge a i with h5 | h5
        · exact hi3 a b ha hb h5
        · obtain rfl : a = i := by omega
          exact hk3 b hb (by omega)
      · (try push_cast -implicitDefEqProofs [eq_self, iff_self, encIs_pure])
      · (try push_cast -implicitDefEqProofs [eq_self, iff_self])
  · have hi' : ((i : Int) < (l.length : Int)) = False := by simp; omega
    push_cast -implicitDefEqProofs [eq_self, iff_self, hi']
    have hn : l.Nodup := nodup_upto.1 fun a b ha hb => hi3 a b ha hb (by omega)
    simp [hn]
end
section
attribute [local push_cast] encT_mk encT_take encT_len encT_one encTs_pure encT_pure
theorem by_leaf (r : Tr → Tr × Bool) (o : Int) (hr : r (.leaf o) = (trO, false)) : byR r (.leaf o) = (trO, false) := by
  unfold byR
  split
  · exact hr
  · rfl
theorem Turn8_ok (t : Tr) (ht : t.Ok) : Quiet Go.Proofs.Try.prog 14 [.agg (encT t)] (.tup [.agg (encT (byR turnR t).1), .bool (byR turnR t).2]) := by
  have hM := MayTR_ok t ht
  cases hm : t.may
  · rw [hm] at hM
    rw [byR, hm, if_neg (by decide)]
    clear hm
    obtain ⟨o, l⟩ := t
    rw [encT_mk] at hM ⊢
    refine quiet_of (rs := #[.cell 2 24, .tmp 3]) Go.Proofs.Try.func14 rfl rfl rfl mixed rfl rfl fun H hs => ?_
    push_cast -implicitDefEqProofs [eq_self, iff_self]
    refine callq hM ?_
    push_cast -implicitDefEqProofs [eq_self, iff_self, trO, List.map_nil]
  · rw [hm] at hM
    rcases tr_form (d := 3) hm with ⟨o, rfl⟩ | ⟨a, b, rfl⟩
    · rw [by_leaf turnR o rfl]
      refine quiet_of (rs := #[.cell 2 24, .tmp 3]) Go.Proofs.Try.func14 rfl rfl rfl mixed rfl rfl fun H hs => ?_
      push_cast -implicitDefEqProofs [eq_self, iff_self]
      refine callq hM ?_
      push_cast -implicitDefEqProofs [eq_self, iff_self, trO, Tr.leaf, List.map_nil, List.length_nil]
    · rw [byR, hm, if_pos rfl, show turnR (.join a b) = (.join b a, true) from rfl]
      have hJ := JoinR_ok b a
      refine quiet_of (rs := #[.cell 2 24, .tmp 3]) Go.Proofs.Try.func14 rfl rfl rfl mixed rfl rfl fun H hs => ?_
      push_cast -implicitDefEqProofs [eq_self, iff_self]
      refine callq hM ?_
      push_cast -implicitDefEqProofs [eq_self, iff_self, trO, Tr.join, List.map_cons, List.map_nil, List.length_cons, List.length_nil]
      refine areg_at 9 (by kernel_rfl) (by kernel_rfl) ?_
      push_cast -implicitDefEqProofs [eq_self, iff_self]
      refine ahdq hJ ?_
      push_cast -implicitDefEqProofs [eq_self, iff_self, Tr.join, List.map_cons, List.map_nil]
theorem Move8_ok (t : Tr) (ht : t.Ok) : Quiet Go.Proofs.Try.prog 16 [.agg (encT t)] (.tup [.agg (encT (byR moveR t).1), .bool (byR moveR t).2]) := by
  have hM := MayTR_ok t ht
  cases hm : t.may
  · rw [hm] at hM
    rw [byR, hm, if_neg (by decide)]
    clear hm
    obtain ⟨o, l⟩ := t
    rw [encT_mk] at hM ⊢
    refine quiet_of (rs := #[.cell 2 24, .tmp 3]) Go.Proofs.Try.func16 rfl rfl rfl mixed rfl rfl fun H hs => ?_
    push_cast -implicitDefEqProofs [eq_self, iff_self]
    refine callq hM ?_
    push_cast -implicitDefEqProofs [eq_self, iff_self, trO, List.map_nil]
  · rw [hm] at hM
    rcases tr_form (d := 3) hm with ⟨o, rfl⟩ | ⟨a, b, rfl⟩
    · rw [by_leaf moveR o rfl]
      refine quiet_of (rs := #[.cell 2 24, .tmp 3]) Go.Proofs.Try.func16 rfl rfl rfl mixed rfl rfl fun H hs => ?_
      push_cast -implicitDefEqProofs [eq_self, iff_self]
      refine callq hM ?_
      push_cast -implicitDefEqProofs [eq_self, iff_self, trO, Tr.leaf, List.map_nil, List.length_nil]
    · obtain ⟨ha, _, _⟩ := setT_join (d := 3) hm
      rcases tr_form (d := 2) ha with ⟨o, rfl⟩ | ⟨x, y, rfl⟩
      · rw [byR, hm, if_pos rfl, show moveR (.join (.leaf o) b) = (trO, false) from rfl]
        refine quiet_of (rs := #[.cell 2 24, .tmp 3]) Go.Proofs.Try.func16 rfl rfl rfl mixed rfl rfl fun H hs => ?_
        push_cast -implicitDefEqProofs [eq_self, iff_self]
        refine callq hM ?_
        push_cast -implicitDefEqProofs [eq_self, iff_self, trO, Tr.join, Tr.leaf, List.map_cons, List.map_nil, List.length_cons, List.length_nil]
      · rw [byR, hm, if_pos rfl, show moveR (.join (.join x y) b) = (.join x (.join y b), true) from rfl]
        have hJ := JoinR_ok y b
        have hK := JoinR_ok x (.join y b)
        refine quiet_of (rs := #[.cell 2 24, .tmp 3]) Go.Proofs.Try.func16 rfl rfl rfl mixed rfl rfl fun H hs => ?_
        push_cast -implicitDefEqProofs [eq_self, iff_self]
        refine callq hM ?_
        push_cast -implicitDefEqProofs [eq_self, iff_self, trO, Tr.join, List.map_cons, List.map_nil, List.length_cons, List.length_nil]
        refine areg_at 14 (by kernel_rfl) (by kernel_rfl) ?_
        push_cast -implicitDefEqProofs [eq_self, iff_self]
        refine ahdq hJ ?_
        push_cast -implicitDefEqProofs [eq_self, iff_self]
        refine ahdq hK ?_
        push_cast -implicitDefEqProofs [eq_self, iff_self, Tr.join, List.map_cons, List.map_nil]
theorem Has8_ok (l : List Tr) (t : Tr) (hl : l.length ≤ 1000) (hlo : ∀ x ∈ l, x.Ok) (ht : t.Ok) : Quiet Go.Proofs.Try.prog 22 [.sl (l.map encT), .agg (encT t)] (.bool (l.any fun x => sameT x t)) := by
  refine quiet_of (rs := #[.tmp 4]) Go.Proofs.Try.func22 rfl rfl rfl mixed rfl rfl fun H hs => ?_
  push_cast -implicitDefEqProofs [eq_self, iff_self]
  refine loop_at hs (σ := Nat) (fun i => i ≤ l.length ∧ (l.drop i).any (fun x => sameT x t) = l.any fun x => sameT x t) (fun i => l.length - i)
    (fun i => [(5, .int i), (0, .sl (l.map encT)), (3, .ptr (H.nxt + 0) 2 0 0)]) (fun i => [some (.cells 2 [encT t] 0)]) [some 0] 0 ⟨by omega, rfl⟩ rfl ?_ ?_ ?_
  · (try push_cast -implicitDefEqProofs [eq_self, iff_self, encTs_pure])
  · (try push_cast -implicitDefEqProofs [eq_self, iff_self])
  rintro i ⟨hi2, hany⟩
  by_cases hi : i < l.length
  · have hi' : ((i : Int) < (l.length : Int)) = True := by simp; omega
    have hi0 : (0 ≤ (i : Int)) = True := by simp
    have hget := encTs_get l i hi
    have hS := tree_sameR_ok l[i] t (hlo _ (List.getElem_mem hi)) ht
    rw [List.drop_eq_getElem_cons hi, List.any_cons] at hany
    generalize l[i] = x at hget hS hany
    push_cast -implicitDefEqProofs [eq_self, iff_self, hi', hi0, hget]
    refine areg_at 6 (by kernel_rfl) (by kernel_rfl) ?_
    push_cast -implicitDefEqProofs [eq_self, iff_self, hi', hi0, hget]
    refine ahdq hS ?_
    cases h : sameT x t
    · rw [h, Bool.false_or] at hany
      push_cast -implicitDefEqProofs [eq_self, iff_self, hi', hi0]
      rw [wrap64 (n := (i : Int) + 1) (by omega) (by omega)]
      refine next_at [some 0] (i + 1) ⟨by omega, hany⟩ (by omega) rfl ?_ ?_
      · (try push_cast -implicitDefEqProofs [eq_self, iff_self])
      · (try push_cast -implicitDefEqProofs [eq_self, iff_self])
    · rw [h, Bool.true_or] at hany
      push_cast -implicitDefEqProofs [eq_self, iff_self, hi', hi0, ← hany]
  · have hi' : ((i : Int) < (l.length : Int)) = False := by simp; omega
    rw [List.drop_eq_nil_of_le (by omega), List.any_nil] at hany
    push_cast -implicitDefEqProofs [eq_self, iff_self, hi', ← hany]
end
section
attribute [local push_cast] encT_mk encT_take encT_len encT_one encTs_pure encT_pure
theorem next_leaf (d : Nat) (o : Int) : nextT (d + 1) (.leaf o) = [] := by
  rw [nextT, by_leaf turnR o rfl, by_leaf moveR o rfl]
  rfl
theorem Next8_no (t : Tr) (ht : t.Ok) (h1 : byR turnR t = (trO, false)) (h2 : byR moveR t = (trO, false)) : Quiet Go.Proofs.Try.prog 19 [.agg (encT t)] (.sl []) := by
  have hT := Turn8_ok t ht
  have hV := Move8_ok t ht
  rw [h1] at hT
  rw [h2] at hV
  dsimp only at hT hV
  refine quiet_of (rs := #[.tmp 2]) Go.Proofs.Try.func19 rfl rfl rfl mixed rfl rfl fun H hs => ?_
  push_cast -implicitDefEqProofs [eq_self, iff_self]
  refine callq hT ?_
  push_cast -implicitDefEqProofs [eq_self, iff_self]
  refine callq hV ?_
  push_cast -implicitDefEqProofs [eq_self, iff_self]
def outA (B A : List Tr) (b : Tr) (i : Nat) : List Tr := B ++ (A.take i).map fun x => Tr.join x b
def outB (B M : List Tr) (a : Tr) (i : Nat) : List Tr := B ++ (M.take i).map fun x => Tr.join a x
theorem outA_zero (B A : List Tr) (b : Tr) : outA B A b 0 = B := by simp [outA]
theorem outB_zero (B M : List Tr) (a : Tr) : outB B M a 0 = B := by simp [outB]
theorem outA_succ (B A : List Tr) (b : Tr) {i : Nat} (h : i < A.length) : outA B A b (i + 1) = outA B A b i ++ [.join A[i] b] := by rw [outA, outA, List.take_succ_eq_append_getElem h, List.map_append, List.append_assoc]; rfl
theorem outB_succ (B M : List Tr) (a : Tr) {i : Nat} (h : i < M.length) : outB B M a (i + 1) = outB B M a i ++ [.join a M[i]] := by rw [outB, outB, List.take_succ_eq_append_getElem h, List.map_append, List.append_assoc]; rfl
theorem outA_len (B A : List Tr) (b : Tr) (i : Nat) : (outA B A b i).length ≤ B.length + A.length := by simp [outA, List.length_take]; omega
theorem outB_len (B M : List Tr) (a : Tr) (i : Nat) : (outB B M a i).length ≤ B.length + M.length := by simp [outB, List.length_take]; omega
set_option maxHeartbeats 8000000 in
theorem Next8_two (a b : Tr) (d : Nat) (hd : d ≤ 4) (ht : (Tr.join a b).Ok) (hm : (Tr.join a b).may = true) (iha : Quiet Go.Proofs.Try.prog 19 [.agg (encT a)] (.sl ((nextT d a).map encT))) (ihb : Quiet Go.Proofs.Try.prog 19 [.agg (encT b)] (.sl ((nextT d b).map encT))) : Quiet Go.Proofs.Try.prog 19 [.agg (encT (.join a b))] (.sl ((nextT (d + 1) (.join a b)).map encT)) := by
  have hT := Turn8_ok _ ht
  have hV := Move8_ok _ ht
  rw [show byR turnR (.join a b) = (.join b a, true) by rw [byR, hm]; rfl] at hT
  dsimp only at hT
  have hA := nextT_len d a
  have hB := nextT_len d b
  have h16 : 2 ^ (d + 1) ≤ 32 := Nat.le_trans (Nat.pow_le_pow_right (by decide) (show d + 1 ≤ 5 by omega)) (by decide)
  have hN : nextT (d + 1) (.join a b) = [.join b a] ++ optL (byR moveR (.join a b)) ++ ((nextT d a).map (fun x => Tr.join x b) ++ (nextT d b).map (fun x => Tr.join a x)) := by
    rw [nextT, show byR turnR (.join a b) = (.join b a, true) by rw [byR, hm]; rfl]
    rfl
  obtain ⟨R, hR⟩ : ∃ R, R = nextT (d + 1) (.join a b) := ⟨_, rfl⟩
  rw [← hR]
  rw [hN] at hR
  generalize byR moveR (.join a b) = mv at hV hR
  obtain ⟨mv, is⟩ := mv
  dsimp only at hV
  generalize nextT d a = A at iha hA hR
  generalize nextT d b = M at ihb hB hR
  clear hN
  have hJ := fun x => JoinR_ok x b
  have hK := fun x => JoinR_ok a x
  generalize hba : Tr.join b a = ba at hT hR
  rw [Tr.join, encT_mk] at hT hV ⊢
  refine quiet_of (rs := #[.tmp 2]) Go.Proofs.Try.func19 rfl rfl rfl mixed rfl rfl fun H hs => ?_
  push_cast -implicitDefEqProofs [eq_self, iff_self, Tr.join, List.map_cons, List.map_nil, List.length_cons, List.length_nil]
  refine callq hT ?_
  push_cast -implicitDefEqProofs [eq_self, iff_self]
  refine callq hV ?_
  cases is
  · push_cast -implicitDefEqProofs [eq_self, iff_self, List.map_cons, List.map_nil, List.length_cons, List.length_nil]
    refine callq iha ?_
    push_cast -implicitDefEqProofs [eq_self, iff_self]
    refine loop_at hs (σ := Nat) (fun i => i ≤ A.length) (fun i => A.length - i)
      (fun i => [(9, .int i), (8, .sl (A.map encT)), (1, .ptr (H.nxt + 0) 2 0 0), (3, .rsl (H.nxt + 1) 2 0 (outA [ba] A b i).length)]) (fun i => [some (.cells 2 [[.int 0, .sl [encT a, encT b]]] 0), some (.cells 2 ((outA [ba] A b i).map encT) 0)]) [some 0, some 3] 0 (by omega) rfl ?_ ?_ ?_
    · (try push_cast -implicitDefEqProofs [eq_self, iff_self, outA_zero, encTs_pure, List.map_cons, List.map_nil, List.length_cons, List.length_nil, Nat.zero_add])
    · (try push_cast -implicitDefEqProofs [eq_self, iff_self, outA_zero, List.map_cons, List.map_nil, encT_pure, encTs_pure, encTs_two])
    intro i hi2
    have hol := outA_len [ba] A b i
    by_cases hi : i < A.length
    · have hi' : ((i : Int) < (A.length : Int)) = True := by simp; omega
      have hi0 : (0 ≤ (i : Int)) = True := by simp
      have hget := encTs_get A i hi
      have hsn := outA_succ [ba] A b hi
      generalize A[i] = x at hget hsn
      generalize outA [ba] A b i = row at hol hsn ⊢
      have hJx := hJ x
      generalize Tr.join x b = y at hJx hsn
      have hlen : row.length ≤ 100 := by (try simp only [List.length_cons, List.length_nil] at hol); omega
      push_cast -implicitDefEqProofs [eq_self, iff_self, hi', hi0, hget]
      refine areg_grow [some (.cells 2 [[.int 0, .sl [encT a, encT b]]] 0)] 12 ?_ (by kernel_rfl) (by kernel_rfl) (by kernel_rfl) ?_
      · intro k o hk
        match k, hk with
        | 0, hk => exact hk
        | k + 1, hk => simp at hk
      push_cast -implicitDefEqProofs [eq_self, iff_self, hi', hi0, hget, gro_rsl]
      refine ahdq hJx ?_
      push_cast -implicitDefEqProofs [eq_self, iff_self, hi', hi0, hget, gro_rsl]
      have hln : (outA [ba] A b (i + 1)).length = row.length + 1 := by rw [hsn, List.length_append]; rfl
      have hrw : (outA [ba] A b (i + 1)).map encT = row.map encT ++ [encT y] := by rw [hsn, List.map_append]; rfl
      have hcap : List.take row.length (row.map encT) = row.map encT := List.take_of_length_le (by simp)
      rw [wrap64 (n := (i : Int) + 1) (by omega) (by omega)]
      refine ⟨by omega, next_at [some 0, some 2] (i + 1) (by omega) (by omega) rfl ?_ ?_⟩
      · (try push_cast -implicitDefEqProofs [eq_self, iff_self, hln])
      · (try push_cast -implicitDefEqProofs [eq_self, iff_self, hcap])
        rw [hrw]
        exact ⟨sealLL_snoc (sealLL_pure _ _ _ (encTs_pure row)) (sealL_pure _ _ _ (encT_pure y)), fun e he => by rw [← hrw] at he; exact of_eq_true (encTs_two _) e he⟩
    · have hi' : ((i : Int) < (A.length : Int)) = False := by simp; omega
      obtain rfl : i = A.length := by omega
      push_cast -implicitDefEqProofs [eq_self, iff_self, hi']
      refine callq ihb ?_
      have hol2 := outA_len [ba] A b A.length
      simp only [List.length_cons, List.length_nil] at hol2
      generalize hrow2 : outA [ba] A b A.length = row2 at hol2 ⊢
      push_cast -implicitDefEqProofs [eq_self, iff_self]
      refine loop_at hs (σ := Nat) (fun i => i ≤ M.length) (fun i => M.length - i)
        (fun i => [(11, .int i), (10, .sl (M.map encT)), (1, .ptr (H.nxt + 0) 2 0 0), (3, .rsl (H.nxt + 1) 2 0 (outB row2 M a i).length)]) (fun i => [some (.cells 2 [[.int 0, .sl [encT a, encT b]]] 0), some (.cells 2 ((outB row2 M a i).map encT) 0)]) [some 0, some 1] 0 (by omega) rfl ?_ ?_ ?_
      · (try push_cast -implicitDefEqProofs [eq_self, iff_self, outB_zero, encTs_pure, List.map_cons, List.map_nil, List.length_cons, List.length_nil, Nat.zero_add])
      · (try push_cast -implicitDefEqProofs [eq_self, iff_self, outB_zero, List.map_cons, List.map_nil, encT_pure, encTs_pure, encTs_two])
      intro i hi2
      have hol := outB_len row2 M a i
      by_cases hi : i < M.length
      · have hi' : ((i : Int) < (M.length : Int)) = True := by simp; omega
        have hi0 : (0 ≤ (i : Int)) = True := by simp
        have hget := encTs_get M i hi
        have hsn := outB_succ row2 M a hi
        generalize M[i] = x at hget hsn
        generalize outB row2 M a i = row at hol hsn ⊢
        have hJx := hK x
        generalize Tr.join a x = y at hJx hsn
        have hlen : row.length ≤ 100 := by (try simp only [List.length_cons, List.length_nil] at hol); omega
        push_cast -implicitDefEqProofs [eq_self, iff_self, hi', hi0, hget]
        refine areg_grow [some (.cells 2 [[.int 0, .sl [encT a, encT b]]] 0)] 12 ?_ (by kernel_rfl) (by kernel_rfl) (by kernel_rfl) ?_
        · intro k o hk
          match k, hk with
          | 0, hk => exact hk
          | k + 1, hk => simp at hk
        push_cast -implicitDefEqProofs [eq_self, iff_self, hi', hi0, hget, gro_rsl]
        refine ahdq hJx ?_
        push_cast -implicitDefEqProofs [eq_self, iff_self, hi', hi0, hget, gro_rsl]
        have hln : (outB row2 M a (i + 1)).length = row.length + 1 := by rw [hsn, List.length_append]; rfl
        have hrw : (outB row2 M a (i + 1)).map encT = row.map encT ++ [encT y] := by rw [hsn, List.map_append]; rfl
        have hcap : List.take row.length (row.map encT) = row.map encT := List.take_of_length_le (by simp)
        rw [wrap64 (n := (i : Int) + 1) (by omega) (by omega)]
        refine ⟨by omega, next_at [some 0, some 2] (i + 1) (by omega) (by omega) rfl ?_ ?_⟩
        · (try push_cast -implicitDefEqProofs [eq_self, iff_self, hln])
        · (try push_cast -implicitDefEqProofs [eq_self, iff_self, hcap])
          rw [hrw]
          exact ⟨sealLL_snoc (sealLL_pure _ _ _ (encTs_pure row)) (sealL_pure _ _ _ (encT_pure y)), fun e he => by rw [← hrw] at he; exact of_eq_true (encTs_two _) e he⟩
      · have hi' : ((i : Int) < (M.length : Int)) = False := by simp; omega
        obtain rfl : i = M.length := by omega
        push_cast -implicitDefEqProofs [eq_self, iff_self, hi']
        have hend : outB row2 M a M.length = R := by
          rw [hR, ← hrow2]
          simp [outA, outB, optL]
        rw [← hend]
        have hcap : List.take (outB row2 M a M.length).length ((outB row2 M a M.length).map encT) = (outB row2 M a M.length).map encT := List.take_of_length_le (by simp)
        push_cast -implicitDefEqProofs [eq_self, iff_self, hcap]
  · push_cast -implicitDefEqProofs [eq_self, iff_self, List.map_cons, List.map_nil, List.length_cons, List.length_nil]
    refine callq iha ?_
    push_cast -implicitDefEqProofs [eq_self, iff_self]
    refine loop_at hs (σ := Nat) (fun i => i ≤ A.length) (fun i => A.length - i)
      (fun i => [(9, .int i), (8, .sl (A.map encT)), (1, .ptr (H.nxt + 0) 2 0 0), (3, .rsl (H.nxt + 1) 2 0 (outA [ba, mv] A b i).length)]) (fun i => [some (.cells 2 [[.int 0, .sl [encT a, encT b]]] 0), some (.cells 2 ((outA [ba, mv] A b i).map encT) 0)]) [some 0, some 6] 0 (by omega) rfl ?_ ?_ ?_
    · (try push_cast -implicitDefEqProofs [eq_self, iff_self, outA_zero, encTs_pure, List.map_cons, List.map_nil, List.length_cons, List.length_nil, Nat.zero_add])
    · (try push_cast -implicitDefEqProofs [eq_self, iff_self, outA_zero, List.map_cons, List.map_nil, encT_pure, encTs_pure, encTs_two])
    intro i hi2
    have hol := outA_len [ba, mv] A b i
    by_cases hi : i < A.length
    · have hi' : ((i : Int) < (A.length : Int)) = True := by simp; omega
      have hi0 : (0 ≤ (i : Int)) = True := by simp
      have hget := encTs_get A i hi
      have hsn := outA_succ [ba, mv] A b hi
      generalize A[i] = x at hget hsn
      generalize outA [ba, mv] A b i = row at hol hsn ⊢
      have hJx := hJ x
      generalize Tr.join x b = y at hJx hsn
      have hlen : row.length ≤ 100 := by (try simp only [List.length_cons, List.length_nil] at hol); omega
      push_cast -implicitDefEqProofs [eq_self, iff_self, hi', hi0, hget]
      refine areg_grow [some (.cells 2 [[.int 0, .sl [encT a, encT b]]] 0)] 12 ?_ (by kernel_rfl) (by kernel_rfl) (by kernel_rfl) ?_
      · intro k o hk
        match k, hk with
        | 0, hk => exact hk
        | k + 1, hk => simp at hk
      push_cast -implicitDefEqProofs [eq_self, iff_self, hi', hi0, hget, gro_rsl]
      refine ahdq hJx ?_
      push_cast -implicitDefEqProofs [eq_self, iff_self, hi', hi0, hget, gro_rsl]
      have hln : (outA [ba, mv] A b (i + 1)).length = row.length + 1 := by rw [hsn, List.length_append]; rfl
      have hrw : (outA [ba, mv] A b (i + 1)).map encT = row.map encT ++ [encT y] := by rw [hsn, List.map_append]; rfl
      have hcap : List.take row.length (row.map encT) = row.map encT := List.take_of_length_le (by simp)
      rw [wrap64 (n := (i : Int) + 1) (by omega) (by omega)]
      refine ⟨by omega, next_at [some 0, some 2] (i + 1) (by omega) (by omega) rfl ?_ ?_⟩
      · (try push_cast -implicitDefEqProofs [eq_self, iff_self, hln])
      · (try push_cast -implicitDefEqProofs [eq_self, iff_self, hcap])
        rw [hrw]
        exact ⟨sealLL_snoc (sealLL_pure _ _ _ (encTs_pure row)) (sealL_pure _ _ _ (encT_pure y)), fun e he => by rw [← hrw] at he; exact of_eq_true (encTs_two _) e he⟩
    · have hi' : ((i : Int) < (A.length : Int)) = False := by simp; omega
      obtain rfl : i = A.length := by omega
      push_cast -implicitDefEqProofs [eq_self, iff_self, hi']
      refine callq ihb ?_
      have hol2 := outA_len [ba, mv] A b A.length
      simp only [List.length_cons, List.length_nil] at hol2
      generalize hrow2 : outA [ba, mv] A b A.length = row2 at hol2 ⊢
      push_cast -implicitDefEqProofs [eq_self, iff_self]
      refine loop_at hs (σ := Nat) (fun i => i ≤ M.length) (fun i => M.length - i)
        (fun i => [(11, .int i), (10, .sl (M.map encT)), (1, .ptr (H.nxt + 0) 2 0 0), (3, .rsl (H.nxt + 1) 2 0 (outB row2 M a i).length)]) (fun i => [some (.cells 2 [[.int 0, .sl [encT a, encT b]]] 0), some (.cells 2 ((outB row2 M a i).map encT) 0)]) [some 0, some 1] 0 (by omega) rfl ?_ ?_ ?_
      · (try push_cast -implicitDefEqProofs [eq_self, iff_self, outB_zero, encTs_pure, List.map_cons, List.map_nil, List.length_cons, List.length_nil, Nat.zero_add])
      · (try push_cast -implicitDefEqProofs [eq_self, iff_self, outB_zero, List.map_cons, List.map_nil, encT_pure, encTs_pure, encTs_two])
      intro i hi2
      have hol := outB_len row2 M a i
      by_cases hi : i < M.length
      · have hi' : ((i : Int) < (M.length : Int)) = True := by simp; omega
        have hi0 : (0 ≤ (i : Int)) = True := by simp
        have hget := encTs_get M i hi
        have hsn := outB_succ row2 M a hi
        generalize M[i] = x at hget hsn
        generalize outB row2 M a i = row at hol hsn ⊢
        have hJx := hK x
        generalize Tr.join a x = y at hJx hsn
        have hlen : row.length ≤ 100 := by (try simp only [List.length_cons, List.length_nil] at hol); omega
        push_cast -implicitDefEqProofs [eq_self, iff_self, hi', hi0, hget]
        refine areg_grow [some (.cells 2 [[.int 0, .sl [encT a, encT b]]] 0)] 12 ?_ (by kernel_rfl) (by kernel_rfl) (by kernel_rfl) ?_
        · intro k o hk
          match k, hk with
          | 0, hk => exact hk
          | k + 1, hk => simp at hk
        push_cast -implicitDefEqProofs [eq_self, iff_self, hi', hi0, hget, gro_rsl]
        refine ahdq hJx ?_
        push_cast -implicitDefEqProofs [eq_self, iff_self, hi', hi0, hget, gro_rsl]
        have hln : (outB row2 M a (i + 1)).length = row.length + 1 := by rw [hsn, List.length_append]; rfl
        have hrw : (outB row2 M a (i + 1)).map encT = row.map encT ++ [encT y] := by rw [hsn, List.map_append]; rfl
        have hcap : List.take row.length (row.map encT) = row.map encT := List.take_of_length_le (by simp)
        rw [wrap64 (n := (i : Int) + 1) (by omega) (by omega)]
        refine ⟨by omega, next_at [some 0, some 2] (i + 1) (by omega) (by omega) rfl ?_ ?_⟩
        · (try push_cast -implicitDefEqProofs [eq_self, iff_self, hln])
        · (try push_cast -implicitDefEqProofs [eq_self, iff_self, hcap])
          rw [hrw]
          exact ⟨sealLL_snoc (sealLL_pure _ _ _ (encTs_pure row)) (sealL_pure _ _ _ (encT_pure y)), fun e he => by rw [← hrw] at he; exact of_eq_true (encTs_two _) e he⟩
      · have hi' : ((i : Int) < (M.length : Int)) = False := by simp; omega
        obtain rfl : i = M.length := by omega
        push_cast -implicitDefEqProofs [eq_self, iff_self, hi']
        have hend : outB row2 M a M.length = R := by
          rw [hR, ← hrow2]
          simp [outA, outB, optL]
        rw [← hend]
        have hcap : List.take (outB row2 M a M.length).length ((outB row2 M a M.length).map encT) = (outB row2 M a M.length).map encT := List.take_of_length_le (by simp)
        push_cast -implicitDefEqProofs [eq_self, iff_self, hcap]
end
section
mutual
theorem sameT_eq' : ∀ p q : Tr, sameT p q = true → p = q
  | .mk o l, .mk o' m, h => by
    simp only [sameT, Bool.and_eq_true, decide_eq_true_eq] at h
    obtain ⟨rfl, h⟩ := h
    rw [sameTL_eq' l m h]
theorem sameTL_eq' : ∀ l m : List Tr, sameTL l m = true → l = m
  | [], [], _ => rfl
  | x :: l, y :: m, h => by
    simp only [sameTL, Bool.and_eq_true] at h
    rw [sameT_eq' x y h.1, sameTL_eq' l m h.2]
  | [], _ :: _, h => by simp [sameTL] at h
  | _ :: _, [], h => by simp [sameTL] at h
end
theorem all_small' : ∀ i : Fin 15, sameTL (allT 3 (i.val : Int)) (allT 4 (i.val : Int)) = true := by decide +kernel
theorem all_small {a : Int} (h0 : 0 ≤ a) (h : a < 15) : allT 3 a = allT 4 a := by
  obtain ⟨i, rfl⟩ : ∃ i : Fin 15, a = (i.val : Int) := ⟨⟨a.toNat, by omega⟩, by simp; omega⟩
  exact sameTL_eq' _ _ (all_small' i)
theorem cutT_congr {f g : Int → List Tr} {s a : Int} (h : ∀ x : Int, 0 ≤ x → x < 15 → f x = g x) (ha : 1 ≤ a) (hs : s ≤ 15) : cutT f s a = cutT g s a := by
  unfold cutT
  split
  · rename_i hc
    simp only [Bool.and_eq_true, decide_eq_true_eq] at hc
    rw [h a (by omega) (by omega), h (s - a) (by omega) (by omega)]
  · rfl
theorem all_len (a : Int) : (allT 4 a).length ≤ 120 := by
  by_cases h : 1 ≤ a ∧ a < 16
  · obtain ⟨i, rfl⟩ : ∃ i : Fin 16, a = (i.val : Int) := ⟨⟨a.toNat, by omega⟩, by simp; omega⟩
    clear h
    revert i
    decide +kernel
  · rw [allT, if_neg h]; simp
theorem all_out {s : Int} (h : ¬ (1 ≤ s ∧ s < 16)) : allT 4 s = [] := by rw [allT, if_neg h]
def cutsU (s : Int) (n : Nat) : List Tr := (List.range n).flatMap fun (k : Nat) => cutT (allT 4) s ((k : Int) + 1)
theorem cutsU_zero (s : Int) : cutsU s 0 = [] := rfl
theorem cutsU_succ (s : Int) (n : Nat) : cutsU s (n + 1) = cutsU s n ++ cutT (allT 4) s ((n : Int) + 1) := by
  rw [cutsU, cutsU, List.range_succ, List.flatMap_append, List.flatMap_cons, List.flatMap_nil, List.append_nil]
theorem cutT_none {f : Int → List Tr} {s a : Int} (h : s ≤ a) : cutT f s a = [] := by
  unfold cutT
  rw [if_neg]
  simp only [Bool.and_eq_true, decide_eq_true_eq]
  omega
theorem cutsU_end {s : Int} {n : Nat} (h : s ≤ (n : Int) + 1) (m : Nat) : cutsU s (n + m) = cutsU s n := by
  induction m with
  | zero => rfl
  | succ m ih => rw [← Nat.add_assoc, cutsU_succ, ih, cutT_none (by omega), List.append_nil]
theorem allT_parts {s : Int} (h1 : 1 ≤ s) (h2 : s < 16) {n : Nat} (hn : s ≤ (n : Int) + 1) (hm : n ≤ 15) : allT 4 s = leafSet s ++ cutsU s n := by
  have e : cutsU s n = cutsU s 15 := by
    have := cutsU_end hn (15 - n)
    rw [show n + (15 - n) = 15 by omega] at this
    exact this.symm
  rw [e, allT, if_pos ⟨h1, h2⟩, cutsU]
  congr 1
  exact congrArg (fun f => List.flatMap f (List.range 15)) (funext fun k => cutT_congr (fun x => all_small) (by omega) (by omega))
theorem flatT_len {α β : Type} {f : α → List β} {m : Nat} (h : ∀ x, (f x).length ≤ m) : ∀ l : List α, (l.flatMap f).length ≤ l.length * m
  | [] => by simp
  | x :: l => by
    rw [List.flatMap_cons, List.length_append, List.length_cons, Nat.succ_mul]
    have := flatT_len h l
    have := h x
    omega
theorem cutT_len (s a : Int) : (cutT (allT 4) s a).length ≤ 14400 := by
  unfold cutT
  split
  · have h := flatT_len (f := fun x => (allT 4 (s - a)).map fun y => Tr.join x y) (m := 120) (fun x => by rw [List.length_map]; exact all_len _) (allT 4 a)
    have := all_len a
    omega
  · simp
theorem cutsU_len (s : Int) (n : Nat) : (cutsU s n).length ≤ n * 14400 := by
  have h := flatT_len (f := fun (k : Nat) => cutT (allT 4) s ((k : Int) + 1)) (m := 14400) (fun x => cutT_len _ _) (List.range n)
  rw [List.length_range] at h
  exact h
def leafU (s : Int) (n : Nat) : List Tr := ((List.range n).filter fun (o : Nat) => decide (s = 2 ^ o)).map fun (o : Nat) => Tr.leaf (o : Int)
theorem leafU_zero (s : Int) : leafU s 0 = [] := rfl
theorem leafU_four (s : Int) : leafU s 4 = leafSet s := rfl
theorem leafU_succ (s : Int) (n : Nat) : leafU s (n + 1) = leafU s n ++ (if s = 2 ^ n then [.leaf (n : Int)] else []) := by
  rw [leafU, leafU, List.range_succ, List.filter_append, List.map_append]
  congr 1
  by_cases h : s = 2 ^ n
  · rw [if_pos h, List.filter_cons, if_pos (decide_eq_true h)]; rfl
  · rw [if_neg h, List.filter_cons, if_neg (by simpa using h)]; rfl
theorem leafU_len (s : Int) (n : Nat) : (leafU s n).length ≤ n := by
  rw [leafU, List.length_map]
  have := List.length_filter_le (fun (o : Nat) => decide (s = (2 : Int) ^ o)) (List.range n)
  rw [List.length_range] at this
  exact this
def xsU (X Y : List Tr) (i : Nat) : List Tr := (X.take i).flatMap fun x => Y.map fun y => Tr.join x y
theorem xsU_zero (X Y : List Tr) : xsU X Y 0 = [] := rfl
theorem xsU_succ (X Y : List Tr) {i : Nat} (h : i < X.length) : xsU X Y (i + 1) = xsU X Y i ++ Y.map fun y => Tr.join X[i] y := by
  rw [xsU, xsU, List.take_succ_eq_append_getElem h, List.flatMap_append, List.flatMap_cons, List.flatMap_nil, List.append_nil]
theorem xsU_all (X Y : List Tr) : xsU X Y X.length = X.flatMap fun x => Y.map fun y => Tr.join x y := by rw [xsU, List.take_length]
theorem xsU_len (X Y : List Tr) (hX : X.length ≤ 120) (hY : Y.length ≤ 120) (i : Nat) : (xsU X Y i).length ≤ 14400 := by
  have h := flatT_len (f := fun x => Y.map fun y => Tr.join x y) (m := 120) (fun x => by rw [List.length_map]; exact hY) (X.take i)
  have : (X.take i).length ≤ 120 := by rw [List.length_take]; omega
  unfold xsU
  omega
def ysU (x : Tr) (Y : List Tr) (j : Nat) : List Tr := (Y.take j).map fun y => Tr.join x y
theorem ysU_zero (x : Tr) (Y : List Tr) : ysU x Y 0 = [] := rfl
theorem ysU_succ (x : Tr) (Y : List Tr) {j : Nat} (h : j < Y.length) : ysU x Y (j + 1) = ysU x Y j ++ [.join x Y[j]] := by
  rw [ysU, ysU, List.take_succ_eq_append_getElem h, List.map_append]; rfl
theorem ysU_all (x : Tr) (Y : List Tr) : ysU x Y Y.length = Y.map fun y => Tr.join x y := by rw [ysU, List.take_length]
theorem ysU_len (x : Tr) (Y : List Tr) (j : Nat) : (ysU x Y j).length ≤ Y.length := by rw [ysU, List.length_map, List.length_take]; omega
def rowJ (R S : List Tr) : List Tr := R ++ S
theorem rowJ_nil (R : List Tr) : rowJ R [] = R := List.append_nil R
theorem rowJ_len (R S : List Tr) : (rowJ R S).length = R.length + S.length := List.length_append
theorem rowJ_app (R S T : List Tr) : rowJ R (S ++ T) = rowJ (rowJ R S) T := (List.append_assoc R S T).symm
theorem rowJ_one (R : List Tr) (t : Tr) : (rowJ R [t]).length = R.length + 1 := List.length_append
end
section
attribute [local push_cast] encT_mk encT_take encT_len encT_one encTs_pure encT_pure
theorem setT_up : ∀ (d : Nat) (t : Tr), (setT d t).2 = true → setT (d + 1) t = setT d t
  | 0, _, h => by simp [setT] at h
  | d + 1, t, h => by
    rcases tr_form h with ⟨o, rfl⟩ | ⟨a, b, rfl⟩
    · rfl
    · obtain ⟨ha, hb, _⟩ := setT_join h
      rw [Tr.join, setT_two, setT_two, setT_up d a ha, setT_up d b hb]
theorem setT_to4 : ∀ {d : Nat} {t : Tr}, d ≤ 4 → (setT d t).2 = true → t.may = true := by
  intro d t hd h
  have : ∀ n, (setT (d + n) t).2 = true := by
    intro n
    induction n with
    | zero => exact h
    | succ n ih => rw [← Nat.add_assoc, setT_up _ _ ih]; exact ih
  have h4 := this (4 - d)
  rw [Nat.add_sub_cancel' hd] at h4
  exact h4
theorem Next8_at : ∀ (d : Nat) (t : Tr), d ≤ 4 → (setT d t).2 = true → Quiet Go.Proofs.Try.prog 19 [.agg (encT t)] (.sl ((nextT d t).map encT))
  | 0, _, _, h => by simp [setT] at h
  | d + 1, t, hd, h => by
    have hk := setT_ok2 _ _ h
    have hm := setT_to4 hd h
    rcases tr_form h with ⟨o, rfl⟩ | ⟨a, b, rfl⟩
    · rw [next_leaf]
      exact Next8_no _ hk (by_leaf turnR o rfl) (by_leaf moveR o rfl)
    · obtain ⟨ha, hb, _⟩ := setT_join h
      exact Next8_two a b d (by omega) hk hm (Next8_at d a (by omega) ha) (Next8_at d b (by omega) hb)
theorem by_no (r : Tr → Tr × Bool) {t : Tr} (hm : t.may = false) : byR r t = (trO, false) := by rw [byR, hm, if_neg (by decide)]
theorem Next8_ok (t : Tr) (ht : t.Ok) : Quiet Go.Proofs.Try.prog 19 [.agg (encT t)] (.sl ((nextR t).map encT)) := by
  unfold nextR
  cases hm : t.may
  · rw [if_neg (by decide)]
    exact Next8_no t ht (by_no _ hm) (by_no _ hm)
  · rw [if_pos rfl]
    exact Next8_at 4 t (by decide) hm
theorem dg_list {o : Int} (h0 : 0 ≤ o) (h1 : o < 4) : (dgT o).data.toList = [UInt8.ofNat (48 + o.toNat)] := by
  have hc : o = 0 ∨ o = 1 ∨ o = 2 ∨ o = 3 := by omega
  rcases hc with rfl | rfl | rfl | rfl <;> decide +kernel
theorem jn_list (a b : ByteArray) : (jnT a b).data.toList = 40 :: (a.data.toList ++ (b.data.toList ++ [41])) := by
  simp [jnT]
theorem txt_pre : ∀ (d : Nat) (s t : Tr) (u v : List UInt8), (setT d s).2 = true → (setT d t).2 = true → (txt d s).data.toList ++ u = (txt d t).data.toList ++ v → s = t ∧ u = v
  | 0, _, _, _, _, h, _, _ => by simp [setT] at h
  | d + 1, s, t, u, v, h1, h2, h => by
    rcases tr_form h1 with ⟨o, rfl⟩ | ⟨a, b, rfl⟩ <;> rcases tr_form h2 with ⟨p, rfl⟩ | ⟨x, y, rfl⟩
    · rw [Tr.leaf, setT_nil] at h1 h2
      simp only [Bool.and_eq_true, decide_eq_true_eq] at h1 h2
      change (dgT o).data.toList ++ u = (dgT p).data.toList ++ v at h
      rw [dg_list h1.1 h1.2, dg_list h2.1 h2.2, List.singleton_append, List.singleton_append, List.cons.injEq] at h
      have hc : o = 0 ∨ o = 1 ∨ o = 2 ∨ o = 3 := by omega
      have hd : p = 0 ∨ p = 1 ∨ p = 2 ∨ p = 3 := by omega
      refine ⟨?_, h.2⟩
      have h3 := h.1
      revert h3
      rcases hc with rfl | rfl | rfl | rfl <;> rcases hd with rfl | rfl | rfl | rfl <;> first | (intro _; rfl) | (intro h; exfalso; revert h; decide)
    · exfalso
      rw [Tr.leaf, setT_nil] at h1
      simp only [Bool.and_eq_true, decide_eq_true_eq] at h1
      change (dgT o).data.toList ++ u = (jnT (txt d x) (txt d y)).data.toList ++ v at h
      rw [dg_list h1.1 h1.2, jn_list, List.singleton_append, List.cons_append, List.cons.injEq] at h
      have hc : o = 0 ∨ o = 1 ∨ o = 2 ∨ o = 3 := by omega
      have h3 := h.1
      revert h3
      rcases hc with rfl | rfl | rfl | rfl <;> decide
    · exfalso
      rw [Tr.leaf, setT_nil] at h2
      simp only [Bool.and_eq_true, decide_eq_true_eq] at h2
      change (jnT (txt d a) (txt d b)).data.toList ++ u = (dgT p).data.toList ++ v at h
      rw [dg_list h2.1 h2.2, jn_list, List.singleton_append, List.cons_append, List.cons.injEq] at h
      have hc : p = 0 ∨ p = 1 ∨ p = 2 ∨ p = 3 := by omega
      have h3 := h.1
      revert h3
      rcases hc with rfl | rfl | rfl | rfl <;> decide
    · obtain ⟨a1, b1, _⟩ := setT_join h1
      obtain ⟨x1, y1, _⟩ := setT_join h2
      change (jnT (txt d a) (txt d b)).data.toList ++ u = (jnT (txt d x) (txt d y)).data.toList ++ v at h
      rw [jn_list, jn_list, List.cons_append, List.cons_append, List.cons.injEq, List.append_assoc, List.append_assoc, List.append_assoc, List.append_assoc] at h
      obtain ⟨rfl, h3⟩ := txt_pre d a x _ _ a1 x1 h.2
      obtain ⟨rfl, h4⟩ := txt_pre d b y _ _ b1 y1 h3
      rw [List.singleton_append, List.singleton_append, List.cons.injEq] at h4
      exact ⟨rfl, h4.2⟩
theorem txt_inj {s t : Tr} (hs : s.may = true) (ht : t.may = true) (h : txt 4 s = txt 4 t) : s = t := (txt_pre 4 s t [] [] hs ht (by rw [h])).1
def addS (s : List Tr) (x : Tr) : List Tr := if s.any (fun t => sameT t x) then s else s ++ [x]
theorem sameT_refl : ∀ t : Tr, sameT t t = true := by
  intro t
  induction t using Tr.ind with
  | h o l ih =>
    rw [sameT, decide_eq_true rfl, Bool.true_and]
    exact sameTL_all rfl fun i h _ => ih _ (List.getElem_mem h)
theorem addS_eq {a : Int} {s : List Tr} {x : Tr} (hs : Cl a s) (hx : x ∈ allT 4 a) : addS s x = addT s x := by
  have e : (s.any fun t => sameT t x) = s.any fun t => txt 4 x == txt 4 t := by
    rw [Bool.eq_iff_iff, List.any_eq_true, List.any_eq_true]
    constructor
    · rintro ⟨t, ht, h⟩
      rw [sameT_eq' _ _ h] at ht
      exact ⟨x, ht, by rw [MapKept.bytes_beq]⟩
    · rintro ⟨t, ht, h⟩
      rw [MapKept.bytes_beq] at h
      obtain rfl := txt_inj ((allT_mem 4 a x).1 hx).1 ((allT_mem 4 a t).1 (hs.2 t ht)).1 h
      exact ⟨x, ht, sameT_refl x⟩
  rw [addS, addT, e]
end
section
attribute [local push_cast] encT_mk encT_take encT_len encT_one encTs_pure encT_pure
set_option maxHeartbeats 8000000 in
theorem Close8_ok (t : Tr) (ht : t.Ok) : Quiet Go.Proofs.Try.prog 21 [.agg (encT t)] (.sl ((closeR t).map encT)) := by
  have hM := MayTR_ok t ht
  cases hm : t.may
  · rw [hm] at hM
    refine quiet_of (rs := #[.tmp 2]) Go.Proofs.Try.func21 rfl rfl rfl mixed rfl rfl fun H hs => ?_
    push_cast -implicitDefEqProofs [eq_self, iff_self]
    refine callq hM ?_
    push_cast -implicitDefEqProofs [eq_self, iff_self, closeR, hm, Bool.false_eq_true, if_false, List.map_nil]
  rw [hm] at hM
  have hmem : t ∈ allT 4 (setT 4 t).1 := (allT_mem 4 _ t).2 ⟨hm, rfl⟩
  refine quiet_of (rs := #[.tmp 2]) Go.Proofs.Try.func21 rfl rfl rfl mixed rfl rfl fun H hs => ?_
  push_cast -implicitDefEqProofs [eq_self, iff_self]
  refine callq hM ?_
  push_cast -implicitDefEqProofs [eq_self, iff_self]
  refine loop_at hs (σ := Nat × Nat) (fun s => s.1 ≤ 121 ∧ s.1 ≤ (closeSt t s.1).length ∧ s.2 ≤ (closeSt t s.1).length) (fun s => 121 - s.1)
    (fun s => [(5, .int s.1), (4, .rsl (H.nxt + 0) 2 0 (closeSt t s.1).length)]) (fun s => [some (.cells 2 ((closeSt t s.1).map encT) s.2)]) [some 1] (0, 0) ⟨by omega, by simp, by simp⟩ rfl ?_ ?_ ?_
  · (try push_cast -implicitDefEqProofs [eq_self, iff_self, closeSt, List.length_cons, List.length_nil, Nat.zero_add])
  · (try push_cast -implicitDefEqProofs [eq_self, iff_self, closeSt, List.map_cons, List.map_nil])
  rintro ⟨k, fz⟩ ⟨hk, hkl, hfz⟩
  dsimp only at hk hkl hfz
  have hcl := closeSt_cl hmem k
  have hlen := hcl.len
  by_cases hkk : k < (closeSt t k).length
  · have hk' : ((k : Int) < ((closeSt t k).length : Int)) = True := by simp; omega
    have hk0 : (0 ≤ (k : Int)) = True := by simp
    have hget := encTs_get (closeSt t k) k hkk
    have hy : (setT 4 (closeSt t k)[k]).2 = true := ((allT_mem 4 _ _).1 (hcl.2 _ (List.getElem_mem hkk))).1
    have hsu := closeSt_succ hkk
    have hym : (closeSt t k)[k] ∈ allT 4 (setT 4 t).1 := hcl.2 _ (List.getElem_mem hkk)
    have hN := Next8_at 4 (closeSt t k)[k] (by decide) hy
    have hNl := nextT_len 4 (closeSt t k)[k]
    have hall : ∀ x ∈ nextT 4 (closeSt t k)[k], x ∈ allT 4 (setT 4 t).1 := fun x hx => next_all hym hx
    generalize nextT 4 (closeSt t k)[k] = L at hsu hN hNl hall
    generalize (closeSt t k)[k] = y at hget hN
    generalize closeSt t k = s at hcl hlen hget hk' hsu hkk hkl hfz ⊢
    push_cast -implicitDefEqProofs [eq_self, iff_self, hk', hk0, hget]
    refine ⟨hkk, callq hN ?_⟩
    push_cast -implicitDefEqProofs [eq_self, iff_self]
    refine loop_at hs (σ := Nat × Nat) (fun u => u.1 ≤ L.length ∧ u.2 ≤ ((L.take u.1).foldl addT s).length) (fun u => L.length - u.1)
      (fun u => [(7, .int u.1), (6, .sl (L.map encT)), (5, .int k), (4, .rsl (H.nxt + 0) 2 0 ((L.take u.1).foldl addT s).length)]) (fun u => [some (.cells 2 (((L.take u.1).foldl addT s).map encT) u.2)]) [some 0] (0, fz) ⟨by simp, by simpa using hfz⟩ rfl ?_ ?_ ?_
    · (try push_cast -implicitDefEqProofs [eq_self, iff_self, List.take_zero, List.foldl_nil, encTs_pure])
    · (try push_cast -implicitDefEqProofs [eq_self, iff_self, List.take_zero, List.foldl_nil, encTs_pure, encTs_two, hfz])
    rintro ⟨i, f2⟩ ⟨hi2, hf2⟩
    dsimp only at hi2 hf2
    have hcs : Cl (setT 4 t).1 ((L.take i).foldl addT s) := fold_cl hcl fun x hx => hall x (List.mem_of_mem_take hx)
    have hcsl := hcs.len
    by_cases hi : i < L.length
    · have hi' : ((i : Int) < (L.length : Int)) = True := by simp; omega
      have hi0 : (0 ≤ (i : Int)) = True := by simp
      have hgi := encTs_get L i hi
      have hsn : (L.take (i + 1)).foldl addT s = addT ((L.take i).foldl addT s) L[i] := by rw [List.take_succ_eq_append_getElem hi, List.foldl_append]; rfl
      have hxm := hall _ (List.getElem_mem hi)
      rw [← addS_eq hcs hxm, addS] at hsn
      have hH := Has8_ok ((L.take i).foldl addT s) L[i] (by omega) (fun x hx => setT_ok2 4 x ((allT_mem 4 _ x).1 (hcs.2 x hx)).1) (setT_ok2 4 _ ((allT_mem 4 _ _).1 hxm).1)
      generalize L[i] = x at hgi hsn hxm hH
      generalize (L.take i).foldl addT s = row at hcs hcsl hsn hH hf2 ⊢
      have hcap : List.take row.length (row.map encT) = row.map encT := List.take_of_length_le (by simp)
      push_cast -implicitDefEqProofs [eq_self, iff_self, hi', hi0, hgi]
      refine fzk H 0 row.length [.sl (row.map encT), .agg (encT x)] (by rfl) (by omega) (by simp) ?_ ?_
      · (try push_cast -implicitDefEqProofs [eq_self, iff_self, hcap, encTs_pure])
      · refine callq hH ?_
        cases has : row.any fun y => sameT y x
        · rw [has, if_neg (by decide)] at hsn
          push_cast -implicitDefEqProofs [eq_self, iff_self, hi', hi0, hgi]
          have hln : ((L.take (i + 1)).foldl addT s).length = row.length + 1 := by rw [hsn, List.length_append]; rfl
          have hrw : ((L.take (i + 1)).foldl addT s).map encT = row.map encT ++ [encT x] := by rw [hsn, List.map_append]; rfl
          rw [wrap64 (n := (i : Int) + 1) (by omega) (by omega)]
          refine ⟨by omega, next_at [some 2] (i + 1, row.length) ⟨by omega, by dsimp only; omega⟩ (by dsimp only; omega) rfl ?_ ?_⟩
          · (try push_cast -implicitDefEqProofs [eq_self, iff_self, hln])
          · (try push_cast -implicitDefEqProofs [eq_self, iff_self, hcap])
            rw [hrw]
            exact ⟨sealLL_snoc (sealLL_pure _ _ _ (encTs_pure row)) (sealL_pure _ _ _ (encT_pure x)), ⟨fun e he => by rw [← hrw] at he; exact of_eq_true (encTs_two _) e he, by rw [hsn, List.length_append]; omega⟩⟩
        · rw [has, if_pos rfl] at hsn
          push_cast -implicitDefEqProofs [eq_self, iff_self, hi', hi0, hgi]
          rw [wrap64 (n := (i : Int) + 1) (by omega) (by omega)]
          refine next_at [some 0] (i + 1, row.length) ⟨by omega, by dsimp only; rw [hsn]; exact Nat.le_refl _⟩ (by dsimp only; omega) rfl ?_ ?_
          · (try push_cast -implicitDefEqProofs [eq_self, iff_self, hsn])
          · (try push_cast -implicitDefEqProofs [eq_self, iff_self, hsn, encTs_pure, encTs_two])
    · have hi' : ((i : Int) < (L.length : Int)) = False := by simp; omega
      obtain rfl : i = L.length := by omega
      rw [List.take_length] at hcsl hf2 ⊢
      rw [← hsu] at hcsl hf2 ⊢
      push_cast -implicitDefEqProofs [eq_self, iff_self, hi']
      rw [wrap64 (n := (k : Int) + 1) (by omega) (by omega)]
      refine next_at [some 0] (k + 1, f2) ⟨by omega, ?_, hf2⟩ (by dsimp only; omega) rfl ?_ ?_
      · obtain ⟨m, hm⟩ := fold_pre L s
        dsimp only
        rw [hsu, hm, List.length_append]
        omega
      · (try push_cast -implicitDefEqProofs [eq_self, iff_self])
      · (try push_cast -implicitDefEqProofs [eq_self, iff_self, encTs_pure, encTs_two, hf2])
  · have hk' : ((k : Int) < ((closeSt t k).length : Int)) = False := by simp; omega
    rw [closeR_at hm hk (by omega)]
    push_cast -implicitDefEqProofs [eq_self, iff_self, hk']
    rw [List.take_of_length_le (by simp)]
    exact sealLL_pure _ _ _ (encTs_pure _)
end
section
def In64 (n : Int) : Prop := -9223372036854775808 ≤ n ∧ n ≤ 9223372036854775807
theorem asV_I (vs : List AV) : asV Go.Proofs.Try.prog 3 vs = vs.headD .any := by simp only [asV, Go.Proofs.Try.underlying3]
theorem told_I {ts : List TypeId} {us : List AV} (h : ToldAll Go.Proofs.Try.prog (3 :: ts) us) : ∃ (n : Int) (us' : List AV), us = .int n :: us' ∧ In64 n ∧ ToldAll Go.Proofs.Try.prog ts us' := by
  simp only [ToldAll] at h
  obtain ⟨n, vs, us1, rfl, h1, h3⟩ := h
  obtain ⟨k, rfl, hk⟩ := shp_int Go.Proofs.Try.underlying3 h1
  exact ⟨k, us1, by rw [asV_I]; rfl, wf64 hk, h3⟩
theorem told_nil {us : List AV} (h : ToldAll Go.Proofs.Try.prog [] us) : us = [] := by simpa only [ToldAll] using h
end
section
attribute [local push_cast] encT_mk encT_take encT_len encT_one encTs_pure encT_pure
mutual
def szT : Tr → Int → Int
  | .mk _ l, m => szTL l m 1
def szTL : List Tr → Int → Int → Int
  | [], _, n => n
  | x :: l, m, n => if n ≤ m then szTL l m (n + szT x (m - n)) else n
end
mutual
theorem szT_bound : ∀ (e : Tr) (m : Int), 0 ≤ m → 1 ≤ szT e m ∧ szT e m ≤ m + 1
  | .mk _ l, m, h => by rw [szT]; exact szTL_bound l m 1 h (by omega) (by omega)
theorem szTL_bound : ∀ (l : List Tr) (m n : Int), 0 ≤ m → 1 ≤ n → n ≤ m + 1 → 1 ≤ szTL l m n ∧ szTL l m n ≤ m + 1
  | [], m, n, h, h1, h2 => by rw [szTL]; exact ⟨h1, h2⟩
  | x :: l, m, n, h, h1, h2 => by
    rw [szTL]
    split
    · have := szT_bound x (m - n) (by omega)
      exact szTL_bound l m _ h (by omega) (by omega)
    · exact ⟨h1, h2⟩
end
theorem sizeT_ok (e : Tr) : ∀ (m : Int), 0 ≤ m → m ≤ 1000 → e.Ok → Quiet Go.Proofs.Try.prog 9 [.agg (encT e), .int m] (.int (szT e m)) := by
  induction e using Tr.ind with
  | h o l ih =>
  intro m h0 h1 hok
  refine quiet_of (rs := #[.tmp 4]) Go.Proofs.Try.func9 rfl rfl rfl mixed rfl rfl fun H hs => ?_
  obtain ⟨hl, hlo⟩ := hok
  push_cast -implicitDefEqProofs [eq_self, iff_self]
  refine loop_at hs (σ := Nat × Int) (fun s => s.1 ≤ l.length ∧ 1 ≤ s.2 ∧ s.2 ≤ m + 1 ∧ szTL (l.drop s.1) m s.2 = szTL l m 1) (fun s => l.length - s.1)
    (fun s => [(2, .ptr (H.nxt + 0) 2 0 0), (1, .int m), (5, .int s.2), (6, .int s.1)]) (fun _ => [some (.cells 2 [encT (.mk o l)] 0)]) [some 0] (0, 1) ⟨by simp, by omega, by omega, rfl⟩ rfl ?_ ?_ ?_
  · (try push_cast -implicitDefEqProofs [eq_self, iff_self])
  · (try push_cast -implicitDefEqProofs [eq_self, iff_self])
  rintro ⟨i, s⟩ ⟨h2, h3, h4, h5⟩
  dsimp only at h2 h3 h4 h5
  by_cases hi : i < l.length
  · have hi' : ((i : Int) < (l.length : Int)) = True := by simp; omega
    have hi0 : (0 ≤ (i : Int)) = True := by simp
    by_cases hm : s ≤ m
    · have hm' : (s ≤ m) = True := by simp [hm]
      push_cast -implicitDefEqProofs [eq_self, iff_self, hi', hi0, hm', encTs_get l i hi]
      rw [wrap64 (n := m - s) (by omega) (by omega)]
      refine callq (ih _ (List.getElem_mem hi) _ (by omega) (by omega) (hlo _ (List.getElem_mem hi))) ?_
      have hb := szT_bound l[i] (m - s) (by omega)
      push_cast -implicitDefEqProofs [eq_self, iff_self]
      rw [wrap64 (n := s + _) (by omega) (by omega), wrap64 (n := (i : Int) + 1) (by omega) (by omega)]
      refine next_at [some 0] (i + 1, s + szT l[i] (m - s)) ⟨by omega, by omega, by omega, ?_⟩ (by dsimp only; omega) rfl ?_ ?_
      · rw [← h5, List.drop_eq_getElem_cons hi, szTL, if_pos hm]
      · (try push_cast -implicitDefEqProofs [eq_self, iff_self])
      · (try push_cast -implicitDefEqProofs [eq_self, iff_self])
    · have hm' : (s ≤ m) = False := by simp [hm]
      push_cast -implicitDefEqProofs [eq_self, iff_self, hi', hi0, hm', encTs_get l i hi]
      rw [szT, ← h5, List.drop_eq_getElem_cons hi, szTL, if_neg hm]
  · have hi' : ((i : Int) < (l.length : Int)) = False := by simp; omega
    push_cast -implicitDefEqProofs [eq_self, iff_self, hi']
    rw [szT, ← h5, List.drop_eq_nil_of_le (by omega), szTL]
theorem bytesT : Program.bytesOf Go.Proofs.Try.prog 24 = 32 := by kernel_rfl
theorem shp_T : ∀ (n : Nat) {vs : List AV}, Shp Go.Proofs.Try.prog n 24 vs → ∃ p : Tr, vs = encT p ∧ p.Ok := by
  intro n
  induction n using Nat.strongRecOn with
  | ind n ih =>
  intro vs h
  obtain ⟨m, parts, hn, rfl, hl, hp⟩ := shp_struct Go.Proofs.Try.underlying24 h
  match parts, hl with
  | [p0, p1], _ =>
    obtain ⟨occ, rfl, _⟩ := shp_int Go.Proofs.Try.underlying3 (hp 0 _ p0 rfl rfl).2
    obtain ⟨m', es, hm, rfl, hle, hpe⟩ := shp_slice Go.Proofs.Try.underlying22 (hp 1 _ p1 rfl rfl).2
    rw [bytesT] at hle
    obtain ⟨l, rfl, hq⟩ := map_of (f := encT) (q := fun e => e.Ok) fun x hx => ih m' (by omega) (hpe x hx).2
    refine ⟨.mk occ l, by rw [encT_mk]; rfl, .mk ?_ fun x hx => hq x hx⟩
    simp [reachBytes] at hle
    omega
theorem asV_T (vs : List AV) : asV Go.Proofs.Try.prog 24 vs = .agg vs := by simp only [asV, Go.Proofs.Try.underlying24]
theorem told_T {ts : List TypeId} {us : List AV} (h : ToldAll Go.Proofs.Try.prog (24 :: ts) us) : ∃ (p : Tr) (us' : List AV), us = .agg (encT p) :: us' ∧ p.Ok ∧ ToldAll Go.Proofs.Try.prog ts us' := by
  simp only [ToldAll] at h
  obtain ⟨n, vs, us1, rfl, h1, h3⟩ := h
  obtain ⟨p, rfl, hk⟩ := shp_T n h1
  exact ⟨p, us1, by rw [asV_T], hk, h3⟩
end
section
attribute [local push_cast] encT_mk encT_take encT_len encT_one encTs_pure encT_pure
def fT : Nat → Tr
  | 0 => .leaf 0
  | 1 => .leaf 0
  | i + 1 => .join (fT i) (.leaf (i : Int))
theorem First3_ok : Quiet Go.Proofs.Try.prog 26 [.int 3] (.agg (encT (fT 3))) := by
  refine quiet_of (rs := #[.cell 2 24]) Go.Proofs.Try.func26 rfl rfl rfl mixed rfl rfl fun H hs => ?_
  push_cast -implicitDefEqProofs [eq_self, iff_self]
  refine callq (Leaf_ok 0) ?_
  push_cast -implicitDefEqProofs [eq_self, iff_self]
  refine loop_at hs (σ := Nat) (fun i => i = 1 ∨ i = 2 ∨ i = 3) (fun i => 3 - i)
    (fun i => [(4, .int i), (0, .int 3), (2, .ptr (H.nxt + 0) 2 0 0), (3, .ptr (H.nxt + 1) 2 0 0)]) (fun i => [some (.cells 2 [[.int 0, .sl []]] 0), some (.cells 2 [encT (fT i)] 0)]) [some 0, some 1] 1 (.inl rfl) rfl ?_ ?_ ?_
  · (try push_cast -implicitDefEqProofs [eq_self, iff_self])
  · (try push_cast -implicitDefEqProofs [eq_self, iff_self, fT, Tr.leaf, encT_mk, List.map_nil])
  intro i hi
  by_cases h3 : i < 3
  · have hi3 : ((i : Int) < 3) = True := by simp; omega
    have hl := Leaf_ok i
    have hj := Join_ok (fT i) (.leaf i)
    have hn : fT (i + 1) = .join (fT i) (.leaf i) := by
      rcases hi with rfl | rfl | rfl
      · rfl
      · rfl
      · omega
    generalize fT i = u at hj hn ⊢
    generalize Tr.leaf (i : Int) = v at hj hl hn
    generalize Tr.join u v = w at hj hn
    push_cast -implicitDefEqProofs [eq_self, iff_self, hi3]
    refine areg_at 4 (by kernel_rfl) (by kernel_rfl) ?_
    push_cast -implicitDefEqProofs [eq_self, iff_self]
    refine ahdq hl ?_
    push_cast -implicitDefEqProofs [eq_self, iff_self]
    refine ahdq hj ?_
    have hd : (encT u).drop 2 = [] := List.drop_of_length_le (by rw [encT_len]; exact Nat.le_refl _)
    push_cast -implicitDefEqProofs [eq_self, iff_self, hd]
    rw [wrap64 (n := (i : Int) + 1) (by omega) (by omega)]
    refine next_at [some 0, some 1] (i + 1) (by omega) (by omega) rfl ?_ ?_
    · (try push_cast -implicitDefEqProofs [eq_self, iff_self])
    · (try push_cast -implicitDefEqProofs [eq_self, iff_self, hn, hd, List.append_nil])
  · obtain rfl : i = 3 := by omega
    generalize fT 3 = u
    push_cast -implicitDefEqProofs [eq_self, iff_self]
theorem Lists_ok (l m : List Tr) (hl : l.length ≤ 1000) (hm : m.length ≤ 1000) (hlo : ∀ x ∈ l, x.Ok) (he : l = m) : Quiet Go.Proofs.Try.prog 18 [.sl (l.map encT), .sl (m.map encT)] (.bool true) := by
  subst he
  refine quiet_of (rs := #[.tmp 4]) Go.Proofs.Try.func18 rfl rfl rfl mixed rfl rfl fun H hs => ?_
  push_cast -implicitDefEqProofs [eq_self, iff_self]
  refine loop_at hs (σ := Nat) (fun i => i ≤ l.length) (fun i => l.length - i)
    (fun i => [(5, .int i), (0, .sl (l.map encT)), (1, .sl (l.map encT))]) (fun i => []) [] 0 (by omega) rfl ?_ ?_ ?_
  · (try push_cast -implicitDefEqProofs [eq_self, iff_self, encTs_pure])
  · (try push_cast -implicitDefEqProofs [eq_self, iff_self])
  intro i hi2
  by_cases hi : i < l.length
  · have hi' : ((i : Int) < (l.length : Int)) = True := by simp; omega
    have hi0 : (0 ≤ (i : Int)) = True := by simp
    have hget := encTs_get l i hi
    have hS := tree_sameR_ok l[i] l[i] (hlo _ (List.getElem_mem hi)) (hlo _ (List.getElem_mem hi))
    rw [sameT_refl] at hS
    generalize l[i] = x at hget hS
    push_cast -implicitDefEqProofs [eq_self, iff_self, hi', hi0, hget]
    refine areg_at 9 (by kernel_rfl) (by kernel_rfl) ?_
    push_cast -implicitDefEqProofs [eq_self, iff_self, hi', hi0, hget]
    refine ahdq hS ?_
    push_cast -implicitDefEqProofs [eq_self, iff_self, hi', hi0]
    rw [wrap64 (n := (i : Int) + 1) (by omega) (by omega)]
    refine next_at [] (i + 1) (by omega) (by omega) rfl ?_ ?_
    · (try push_cast -implicitDefEqProofs [eq_self, iff_self])
    · (try push_cast -implicitDefEqProofs [eq_self, iff_self])
  · have hi' : ((i : Int) < (l.length : Int)) = False := by simp; omega
    push_cast -implicitDefEqProofs [eq_self, iff_self, hi']
def joinsT : Nat → Tr → Nat
  | 0, _ => 0
  | d + 1, .mk _ l =>
    match l with
    | [a, b] => (if a.l.length = 2 then 2 else 1) + joinsT d a + joinsT d b
    | _ => 0
theorem joinsT_le : ∀ (d : Nat) (t : Tr), joinsT d t + 2 ≤ 2 ^ (d + 1)
  | 0, t => by simp [joinsT]
  | d + 1, .mk o [] => by
    have hp : 2 ≤ 2 ^ (d + 1 + 1) := by rw [Nat.pow_succ]; have := Nat.one_le_two_pow (n := d + 1); omega
    exact hp
  | d + 1, .mk o [a] => by
    have hp : 2 ≤ 2 ^ (d + 1 + 1) := by rw [Nat.pow_succ]; have := Nat.one_le_two_pow (n := d + 1); omega
    exact hp
  | d + 1, .mk o [a, b] => by
    have h1 := joinsT_le d a
    have h2 := joinsT_le d b
    rw [Nat.pow_succ, show joinsT (d + 1) (.mk o [a, b]) = (if a.l.length = 2 then 2 else 1) + joinsT d a + joinsT d b from rfl]
    split <;> omega
  | d + 1, .mk o (a :: b :: c :: l) => by
    have hp : 2 ≤ 2 ^ (d + 1 + 1) := by rw [Nat.pow_succ]; have := Nat.one_le_two_pow (n := d + 1); omega
    exact hp
theorem joins_ok : ∀ (d : Nat) (t : Tr), d ≤ 4 → (setT d t).2 = true → Quiet Go.Proofs.Try.prog 12 [.agg (encT t)] (.int (joinsT d t : Nat))
  | 0, _, _, h => by simp [setT] at h
  | d + 1, t, hd, h => by
    rcases tr_form h with ⟨o, rfl⟩ | ⟨a, b, rfl⟩
    · rw [Tr.leaf, encT_mk]
      refine quiet_of (rs := #[.tmp 2]) Go.Proofs.Try.func12 rfl rfl rfl mixed rfl rfl fun H hs => ?_
      push_cast -implicitDefEqProofs [eq_self, iff_self, List.map_nil, List.length_nil, joinsT]
    · obtain ⟨ha, hb, _⟩ := setT_join h
      have ja := joins_ok d a (by omega) ha
      have jb := joins_ok d b (by omega) hb
      have la := joinsT_le d a
      have lb := joinsT_le d b
      have h16 : 2 ^ (d + 1) ≤ 32 := Nat.le_trans (Nat.pow_le_pow_right (by decide) (show d + 1 ≤ 5 by omega)) (by decide)
      have e : joinsT (d + 1) (.join a b) = (if a.l.length = 2 then 2 else 1) + joinsT d a + joinsT d b := rfl
      rw [e]
      generalize joinsT d a = m at ja la ⊢
      generalize joinsT d b = n at jb lb ⊢
      clear e
      cases d with
      | zero => simp [setT] at ha
      | succ d =>
      rcases tr_form ha with ⟨o, rfl⟩ | ⟨x, y, rfl⟩
      · rw [if_neg (by simp [Tr.leaf, Tr.l]), Tr.join, encT_mk]
        rw [Tr.leaf] at ja ⊢
        simp only [encT_mk, List.map_nil] at ja
        refine quiet_of (rs := #[.tmp 2]) Go.Proofs.Try.func12 rfl rfl rfl mixed rfl rfl fun H hs => ?_
        push_cast -implicitDefEqProofs [eq_self, iff_self, List.map_cons, List.map_nil, List.length_cons, List.length_nil]
        refine areg_at 13 (by kernel_rfl) (by kernel_rfl) ?_
        push_cast -implicitDefEqProofs [eq_self, iff_self]
        refine ahdq ja ?_
        push_cast -implicitDefEqProofs [eq_self, iff_self]
        refine ahdq jb ?_
        push_cast -implicitDefEqProofs [eq_self, iff_self]
        rw [wrap64 (n := 1 + (m : Int)) (by omega) (by omega), wrap64 (n := 1 + (m : Int) + (n : Int)) (by omega) (by omega)]
      · rw [if_pos (by simp [Tr.join, Tr.l]), Tr.join, encT_mk]
        rw [Tr.join] at ja ⊢
        simp only [encT_mk, List.map_cons, List.map_nil] at ja
        refine quiet_of (rs := #[.tmp 2]) Go.Proofs.Try.func12 rfl rfl rfl mixed rfl rfl fun H hs => ?_
        push_cast -implicitDefEqProofs [eq_self, iff_self, List.map_cons, List.map_nil, List.length_cons, List.length_nil]
        refine areg_at 13 (by kernel_rfl) (by kernel_rfl) ?_
        push_cast -implicitDefEqProofs [eq_self, iff_self]
        refine ahdq ja ?_
        push_cast -implicitDefEqProofs [eq_self, iff_self]
        refine ahdq jb ?_
        push_cast -implicitDefEqProofs [eq_self, iff_self]
        rw [wrap64 (n := 2 + (m : Int)) (by omega) (by omega), wrap64 (n := 2 + (m : Int) + (n : Int)) (by omega) (by omega)]
def nA : Tr := .join (.leaf 2) (.join (.leaf 0) (.leaf 1))
def nB : Tr := .join (.leaf 0) (.join (.leaf 1) (.leaf 2))
def nC : Tr := .join (.join (.leaf 1) (.leaf 0)) (.leaf 2)
theorem next3 : nextR (fT 3) = [nA, nB, nC] := by
  have h : sameTL (nextR (fT 3)) [nA, nB, nC] = true := by decide +kernel
  exact sameTL_eq' _ _ h
theorem close3 : (closeR (fT 3)).length = 12 := by decide +kernel
theorem txtA : txt 4 nA = ⟨#[40, 50, 40, 48, 49, 41, 41]⟩ := by decide +kernel
theorem txtB : txt 4 nB = ⟨#[40, 48, 40, 49, 50, 41, 41]⟩ := by decide +kernel
theorem txtC : txt 4 nC = ⟨#[40, 40, 49, 48, 41, 50, 41]⟩ := by decide +kernel
theorem f3_ok : (fT 3).Ok := setT_ok2 4 _ (by decide +kernel)
theorem nA_may : nA.may = true := by decide +kernel
theorem nB_may : nB.may = true := by decide +kernel
theorem nC_may : nC.may = true := by decide +kernel
theorem awake08_ok : Quiet Go.Proofs.Try.prog 8 [] (.bool true) := by
  have hF := First3_ok
  have hN := Next_ok (fT 3) f3_ok
  have hC := Close_ok (fT 3) f3_ok
  have hl := close3
  have hA := TextT_ok nA (setT_ok2 4 _ nA_may) nA_may
  have hB := TextT_ok nB (setT_ok2 4 _ nB_may) nB_may
  have hD := TextT_ok nC (setT_ok2 4 _ nC_may) nC_may
  rw [txtA] at hA
  rw [txtB] at hB
  rw [txtC] at hD
  rw [next3] at hN
  generalize nA = a at hA hN
  generalize nB = b at hB hN
  generalize nC = c at hD hN
  generalize closeR (fT 3) = L at hC hl
  generalize fT 3 = f at hF hN hC
  refine quiet_of (rs := #[.tmp 0]) Go.Proofs.Try.func8 rfl rfl rfl mixed rfl rfl fun H hs => ?_
  push_cast -implicitDefEqProofs [eq_self, iff_self]
  refine callq hF ?_
  push_cast -implicitDefEqProofs [eq_self, iff_self]
  refine callq hN ?_
  push_cast -implicitDefEqProofs [eq_self, iff_self, List.map_cons, List.map_nil, List.length_cons, List.length_nil]
  refine gcall trivial (callq hA ?_)
  push_cast -implicitDefEqProofs [eq_self, iff_self, astr]
  refine gcall trivial (callq hB ?_)
  push_cast -implicitDefEqProofs [eq_self, iff_self, astr]
  refine gcall trivial (callq hD ?_)
  push_cast -implicitDefEqProofs [eq_self, iff_self, astr]
  refine gcall trivial (callq hF ?_)
  push_cast -implicitDefEqProofs [eq_self, iff_self, astr]
  refine gcall trivial (callq hC ?_)
  push_cast -implicitDefEqProofs [eq_self, iff_self, hl, List.length_map]
  trace_state
end
section
theorem all_of {p : Int → Tr → Bool} (h : ∀ a : Fin 16, ((allT 4 (a.val : Int)).all fun t => p (a.val : Int) t) = true) {t : Tr} (ht : t.may = true) : p (setT 4 t).1 t = true := by
  have h1 := setT_range 4 t
  have h2 := h ⟨(setT 4 t).1.toNat, by omega⟩
  have e : (((setT 4 t).1.toNat : Nat) : Int) = (setT 4 t).1 := by omega
  dsimp only at h2
  rw [e] at h2
  exact List.all_eq_true.1 h2 t ((allT_mem 4 _ t).2 ⟨ht, rfl⟩)
theorem next_count {t : Tr} (ht : t.may = true) : (nextT 4 t).length = joinsT 4 t := by
  have := all_of (p := fun _ t => decide ((nextT 4 t).length = joinsT 4 t)) (by decide +kernel) ht
  simpa using this
def okB (a : Int) (t x : Tr) : Bool := (setT 4 x).2 && decide ((setT 4 x).1 = a) && !sameT x t
theorem turn_back {t : Tr} (ht : t.may = true) (h : (byR turnR t).2 = true) : okB (setT 4 t).1 t (byR turnR t).1 = true ∧ (byR turnR (byR turnR t).1).2 = true ∧ sameT (byR turnR (byR turnR t).1).1 t = true := by
  have := all_of (p := fun a t => !(byR turnR t).2 || (okB a t (byR turnR t).1 && (byR turnR (byR turnR t).1).2 && sameT (byR turnR (byR turnR t).1).1 t)) (by decide +kernel) ht
  rw [h] at this
  simp only [Bool.not_true, Bool.false_or, Bool.and_eq_true] at this
  exact ⟨this.1.1, this.1.2, this.2⟩
theorem move_back {t : Tr} (ht : t.may = true) (h : (byR moveR t).2 = true) : (byR turnR t).2 = true ∧ okB (setT 4 t).1 t (byR moveR t).1 = true := by
  have := all_of (p := fun a t => !(byR moveR t).2 || ((byR turnR t).2 && okB a t (byR moveR t).1)) (by decide +kernel) ht
  rw [h] at this
  simp only [Bool.not_true, Bool.false_or, Bool.and_eq_true] at this
  exact this
theorem next_back {t : Tr} (ht : t.may = true) : (nextT 4 t).all (fun x => okB (setT 4 t).1 t x) = true ∧ ((byR turnR t).2 = true ∨ nextT 4 t = []) := by
  have := all_of (p := fun a t => (nextT 4 t).all (fun x => okB a t x) && ((byR turnR t).2 || (nextT 4 t).isEmpty)) (by decide +kernel) ht
  simp only [Bool.and_eq_true, Bool.or_eq_true, List.isEmpty_iff] at this
  exact this
def stepM (adj : List Nat) (m : Nat) : Nat := (List.range adj.length).foldl (fun m i => if m.testBit i then m ||| adj.getD i 0 else m) m
def itM (adj : List Nat) : Nat → Nat → Nat
  | 0, m => m
  | k + 1, m => itM adj k (stepM adj m)
def maskOf (f : Nat → Bool) (n : Nat) : Nat := (List.range n).foldl (fun m j => if f j then m ||| 2 ^ j else m) 0
theorem maskOf_bit (f : Nat → Bool) : ∀ (n j : Nat), (maskOf f n).testBit j = true → j < n ∧ f j = true
  | 0, j, h => by simp [maskOf] at h
  | n + 1, j, h => by
    have ih := maskOf_bit f n j
    unfold maskOf at h ih
    rw [List.range_succ, List.foldl_append] at h
    simp only [List.foldl_cons, List.foldl_nil] at h
    split at h
    · rename_i hf
      rw [Nat.testBit_or, Bool.or_eq_true] at h
      rcases h with h | h
      · obtain ⟨h1, h2⟩ := ih h; exact ⟨by omega, h2⟩
      · rw [Nat.testBit_two_pow] at h
        simp only [decide_eq_true_eq] at h
        subst h
        exact ⟨by omega, hf⟩
    · obtain ⟨h1, h2⟩ := ih h; exact ⟨by omega, h2⟩
theorem step_inv {adj : List Nat} {p : Nat → Prop} (ha : ∀ i, p i → ∀ j, (adj.getD i 0).testBit j = true → p j) (m : Nat) (hm : ∀ i, m.testBit i = true → p i) : ∀ i, (stepM adj m).testBit i = true → p i := by
  unfold stepM
  generalize List.range adj.length = l
  induction l generalizing m with
  | nil => exact hm
  | cons k l ih =>
    rw [List.foldl_cons]
    refine ih _ ?_
    intro i hi
    split at hi
    · rename_i hk
      rw [Nat.testBit_or, Bool.or_eq_true] at hi
      rcases hi with h | h
      · exact hm i h
      · exact ha k (hm k hk) i h
    · exact hm i hi
theorem it_inv {adj : List Nat} {p : Nat → Prop} (ha : ∀ i, p i → ∀ j, (adj.getD i 0).testBit j = true → p j) : ∀ (k m : Nat), (∀ i, m.testBit i = true → p i) → ∀ i, (itM adj k m).testBit i = true → p i
  | 0, m, hm => hm
  | k + 1, m, hm => it_inv ha k _ (step_inv ha m hm)
def fwd (A : List Tr) : List Nat := A.map fun t => let N := nextT 4 t; maskOf (fun j => N.any fun x => sameT x (A.getD j trO)) A.length
def bwd (A : List Tr) : List Nat := (List.range A.length).map fun i => maskOf (fun j => (nextT 4 (A.getD j trO)).any fun x => sameT x (A.getD i trO)) A.length
def linked (A : List Tr) : Bool := (itM (fwd A) 14 1 == 2 ^ A.length - 1) && (itM (bwd A) 14 1 == 2 ^ A.length - 1)
theorem all_linked : ∀ a : Fin 16, ((allT 4 (a.val : Int)).isEmpty || linked (allT 4 (a.val : Int))) = true := by decide +kernel
theorem getD_at {A : List Tr} {i : Nat} (h : i < A.length) : A.getD i trO = A[i] := by rw [List.getD_eq_getElem?_getD, List.getElem?_eq_getElem h]; rfl
theorem linked_all {A : List Tr} (h : linked A = true) (S : Tr → Prop) (hS : ∀ t ∈ A, S t → ∀ x ∈ nextT 4 t, S x) {t : Tr} (ht : t ∈ A) (hSt : S t) : ∀ s ∈ A, S s := by
  unfold linked at h
  simp only [Bool.and_eq_true, beq_iff_eq] at h
  obtain ⟨hf, hb⟩ := h
  have hpos : 0 < A.length := List.length_pos_of_mem ht
  have hall : ∀ i, i < A.length → (2 ^ A.length - 1).testBit i = true := fun i hi => by rw [Nat.testBit_two_pow_sub_one]; simpa using hi
  have one : ∀ i, (1 : Nat).testBit i = true → i = 0 := fun i hi => by
    rw [show (1 : Nat) = 2 ^ 0 from rfl, Nat.testBit_two_pow] at hi
    exact (by simpa using hi : 0 = i).symm
  have h0 : S (A.getD 0 trO) := by
    obtain ⟨i, hi, rfl⟩ := List.mem_iff_getElem.1 ht
    have := it_inv (adj := bwd A) (p := fun i => i < A.length → S (A.getD i trO) → S (A.getD 0 trO)) (fun i hp j hj hjl hsj => ?_) 14 1 (fun i hi _ hs => by rw [one i hi] at hs; exact hs) i (by rw [hb]; exact hall i hi) hi
    · rw [getD_at hi] at this
      exact this hSt
    · by_cases hil : i < A.length
      · unfold bwd at hj
        rw [List.getD_eq_getElem?_getD, List.getElem?_map, List.getElem?_range hil] at hj
        obtain ⟨_, hj2⟩ := maskOf_bit _ _ _ hj
        rw [List.any_eq_true] at hj2
        obtain ⟨x, hx, hxe⟩ := hj2
        rw [sameT_eq' _ _ hxe] at hx
        exact hp hil (hS _ (by rw [getD_at hjl]; exact List.getElem_mem _) hsj _ hx)
      · unfold bwd at hj
        rw [List.getD_eq_getElem?_getD, List.getElem?_map, List.getElem?_eq_none (by simpa using hil)] at hj
        simp at hj
  intro s hs
  obtain ⟨i, hi, rfl⟩ := List.mem_iff_getElem.1 hs
  have := it_inv (adj := fwd A) (p := fun i => i < A.length ∧ S (A.getD i trO)) (fun i hp j hj => ?_) 14 1 (fun i hi => by rw [one i hi]; exact ⟨hpos, h0⟩) i (by rw [hf]; exact hall i hi)
  · rw [getD_at hi] at this
    exact this.2
  · unfold fwd at hj
    rw [List.getD_eq_getElem?_getD, List.getElem?_map, List.getElem?_eq_getElem hp.1] at hj
    obtain ⟨hj1, hj2⟩ := maskOf_bit _ _ _ hj
    rw [List.any_eq_true] at hj2
    obtain ⟨x, hx, hxe⟩ := hj2
    rw [sameT_eq' _ _ hxe] at hx
    have h2 := hp.2
    rw [getD_at hp.1] at h2
    exact ⟨hj1, hS _ (List.getElem_mem hp.1) h2 _ hx⟩
theorem mem_addT {s : List Tr} {a : Int} {x : Tr} (hs : Cl a s) (hx : x ∈ allT 4 a) : x ∈ addT s x := by
  rw [← addS_eq hs hx, addS]
  split
  · rename_i h
    rw [List.any_eq_true] at h
    obtain ⟨t, ht, he⟩ := h
    rw [sameT_eq' _ _ he] at ht
    exact ht
  · simp
theorem mem_fold {a : Int} : ∀ {l s : List Tr}, Cl a s → (∀ x ∈ l, x ∈ allT 4 a) → ∀ x ∈ l, x ∈ l.foldl addT s
  | [], s, _, _, x, hx => by cases hx
  | y :: l, s, hs, hl, x, hx => by
    rw [List.foldl_cons]
    have h1 := addT_cl hs (hl y (List.mem_cons_self ..))
    rcases List.mem_cons.1 hx with rfl | hx
    · obtain ⟨m, hm⟩ := fold_pre l (addT s x)
      rw [hm]
      exact List.mem_append.2 (.inl (mem_addT hs (hl x (List.mem_cons_self ..))))
    · exact mem_fold h1 (fun z hz => hl z (List.mem_cons_of_mem _ hz)) x hx
theorem closeSt_pre (t : Tr) (k : Nat) : ∀ n, ∃ m, closeSt t (k + n) = closeSt t k ++ m
  | 0 => ⟨[], by simp⟩
  | n + 1 => by
    obtain ⟨m, hm⟩ := closeSt_pre t k n
    rw [← Nat.add_assoc, closeSt]
    split
    · obtain ⟨m2, hm2⟩ := fold_pre (nextT 4 _) (closeSt t (k + n))
      exact ⟨m ++ m2, by rw [hm2, hm, List.append_assoc]⟩
    · exact ⟨m, hm⟩
theorem close_closed {N : Nat} (hN : 121 ≤ N) {a : Int} {t : Tr} (h : t ∈ allT 4 a) : ∀ y ∈ closeSt t N, ∀ x ∈ nextT 4 y, x ∈ closeSt t N := by
  intro y hy x hx
  have hlen := (closeSt_cl h N).len
  obtain ⟨k, hk, rfl⟩ := List.mem_iff_getElem.1 hy
  obtain ⟨m, hm⟩ := closeSt_pre t k (N - k)
  rw [Nat.add_sub_cancel' (by omega)] at hm
  by_cases hkl : k < (closeSt t k).length
  · have hsu := closeSt_succ hkl
    obtain ⟨m2, hm2⟩ := closeSt_pre t (k + 1) (N - (k + 1))
    rw [Nat.add_sub_cancel' (by omega)] at hm2
    have e : (closeSt t N)[k] = (closeSt t k)[k] := by
      have : (closeSt t N)[k]? = (closeSt t k)[k]? := by rw [hm, List.getElem?_append_left hkl]
      rw [List.getElem?_eq_getElem hk, List.getElem?_eq_getElem hkl] at this
      exact Option.some.inj this
    rw [e] at hx
    have hym := (closeSt_cl h k).2 _ (List.getElem_mem hkl)
    rw [hm2, hsu]
    exact List.mem_append.2 (.inl (mem_fold (closeSt_cl h k) (fun z hz => next_all hym hz) x hx))
  · have := closeSt_stay (t := t) (k := k) (by omega) (N - k)
    rw [Nat.add_sub_cancel' (by omega)] at this
    rw [this] at hk
    omega
theorem close_all {t : Tr} (ht : t.may = true) : (closeR t).Nodup ∧ ∀ x, x ∈ closeR t ↔ x ∈ allT 4 (setT 4 t).1 := by
  have hmem : t ∈ allT 4 (setT 4 t).1 := (allT_mem 4 _ t).2 ⟨ht, rfl⟩
  rw [closeR, if_pos ht]
  have hcl := closeSt_cl hmem 121
  refine ⟨hcl.1, fun x => ⟨hcl.2 x, fun hx => ?_⟩⟩
  have h1 := setT_range 4 t
  have h2 := all_linked ⟨(setT 4 t).1.toNat, by omega⟩
  have e : (((setT 4 t).1.toNat : Nat) : Int) = (setT 4 t).1 := by omega
  dsimp only at h2
  rw [e, Bool.or_eq_true] at h2
  rcases h2 with h2 | h2
  · rw [List.isEmpty_iff] at h2
    rw [h2] at hmem
    cases hmem
  · obtain ⟨m, hm⟩ := closeSt_pre t 0 121
    rw [Nat.zero_add, closeSt] at hm
    exact linked_all h2 (fun y => y ∈ closeSt t 121) (fun y _ hy x hx => close_closed (N := 121) (Nat.le_refl _) hmem y hy x hx) hmem (by rw [hm]; simp) x hx
theorem close_head {t : Tr} (ht : t.may = true) : ∃ m, closeR t = t :: m := by
  obtain ⟨m, hm⟩ := closeSt_pre t 0 121
  rw [Nat.zero_add, closeSt] at hm
  exact ⟨m, by rw [closeR, if_pos ht, hm]; rfl⟩
theorem close_len {s t : Tr} (hs : s.may = true) (ht : t.may = true) (he : (setT 4 s).1 = (setT 4 t).1) : (closeR s).length = (closeR t).length := by
  obtain ⟨h1, h2⟩ := close_all hs
  obtain ⟨h3, h4⟩ := close_all ht
  refine Nat.le_antisymm (nodup_len h1 fun x hx => ?_) (nodup_len h3 fun x hx => ?_)
  · rw [h4, ← he, ← h2]; exact hx
  · rw [h2, he, ← h4]; exact hx
theorem all_nodup' : ∀ a : Fin 16, (List.range (allT 4 (a.val : Int)).length).all (fun i => (List.range i).all fun j => !sameT ((allT 4 (a.val : Int)).getD i trO) ((allT 4 (a.val : Int)).getD j trO)) = true := by decide +kernel
theorem all_nodup (a : Int) : (allT 4 a).Nodup := by
  by_cases h : 0 ≤ a ∧ a < 16
  · have h2 := all_nodup' ⟨a.toNat, by omega⟩
    have e : ((a.toNat : Nat) : Int) = a := by omega
    dsimp only at h2
    rw [e, List.all_eq_true] at h2
    rw [List.nodup_iff_pairwise_ne, List.pairwise_iff_getElem]
    intro i j hi hj hij he
    have h3 := List.all_eq_true.1 (h2 j (List.mem_range.2 hj)) i (List.mem_range.2 hij)
    rw [getD_at hi, getD_at hj, he, sameT_refl] at h3
    cases h3
  · rw [allT, if_neg (by omega)]; exact List.nodup_nil
theorem close_allLen {t : Tr} (ht : t.may = true) : (closeR t).length = (allT 4 (setT 4 t).1).length := by
  obtain ⟨h1, h2⟩ := close_all ht
  exact Nat.le_antisymm (nodup_len h1 fun x hx => (h2 x).1 hx) (nodup_len (all_nodup _) fun x hx => (h2 x).2 hx)
theorem next_ok2 (t : Tr) : (nextR t).length ≤ 30 ∧ ∀ x ∈ nextR t, x.may = true ∧ (setT 4 x).1 = (setT 4 t).1 := by
  unfold nextR
  cases hm : t.may
  · simp
  · rw [if_pos rfl]
    have := nextT_len 4 t
    refine ⟨by omega, fun x hx => ?_⟩
    have := (allT_mem 4 _ x).1 (next_all ((allT_mem 4 _ t).2 ⟨hm, rfl⟩) hx)
    exact ⟨this.1, this.2⟩
theorem close_ok2 (t : Tr) : (closeR t).length ≤ 120 ∧ ∀ x ∈ closeR t, x.may = true ∧ (setT 4 x).1 = (setT 4 t).1 := by
  cases hm : t.may
  · rw [closeR, hm, if_neg (by decide)]; simp
  · have h := closeSt_cl ((allT_mem 4 _ t).2 ⟨hm, rfl⟩) 121
    rw [closeR, if_pos hm]
    refine ⟨h.len, fun x hx => ?_⟩
    have := (allT_mem 4 _ x).1 (h.2 x hx)
    exact ⟨this.1, this.2⟩
end
section
attribute [local push_cast] encT_mk encT_take encT_len encT_one encTs_pure encT_pure
theorem AllT_out {s : Int} (h : ¬ (1 ≤ s ∧ s < 16)) : Quiet Go.Proofs.Try.prog 25 [.int s] (.sl ((allT 4 s).map encT)) := by
  rw [all_out h]
  refine quiet_of (rs := #[.tmp 2]) Go.Proofs.Try.func25 rfl rfl rfl mixed rfl rfl fun H hs => ?_
  by_cases h1 : s < 1
  · have h1' : (s < 1) = True := by simp [h1]
    push_cast -implicitDefEqProofs [eq_self, iff_self, h1', List.map_nil]
  · have h1' : (s < 1) = False := by simp [h1]
    have h2' : (16 ≤ s) = True := by simp; omega
    push_cast -implicitDefEqProofs [eq_self, iff_self, h1', h2', List.map_nil]
set_option maxHeartbeats 8000000 in
theorem AllT_in (s : Int) (h1 : 1 ≤ s) (h2 : s < 16) (ih : ∀ a : Int, a < s → Quiet Go.Proofs.Try.prog 25 [.int a] (.sl ((allT 4 a).map encT))) : Quiet Go.Proofs.Try.prog 25 [.int s] (.sl ((allT 4 s).map encT)) := by
  have h1' : (s < 1) = False := by simp; omega
  have h2' : (16 ≤ s) = False := by simp; omega
  refine quiet_of (rs := #[.tmp 2]) Go.Proofs.Try.func25 rfl rfl rfl mixed rfl rfl fun H hs => ?_
  push_cast -implicitDefEqProofs [eq_self, iff_self, h1', h2']
  refine loop_at hs (σ := Nat) (fun o => o ≤ 4) (fun o => 4 - o)
    (fun o => [(16, .int o), (0, .int s), (3, .rsl (H.nxt + 0) 2 0 (leafU s o).length)]) (fun o => [some (.cells 2 ((leafU s o).map encT) 0)]) [none] 0 (by omega) rfl ?_ ?_ ?_
  · (try push_cast -implicitDefEqProofs [eq_self, iff_self, leafU_zero, List.map_nil])
  · (try push_cast -implicitDefEqProofs [eq_self, iff_self, leafU_zero, List.map_nil])
  · intro o ho
    have hlen := leafU_len s o
    have hsn := leafU_succ s o
    by_cases hol : o < 4
    · have ho' : ((o : Int) < 4) = True := by simp; omega
      have ho0 : (0 ≤ (o : Int)) = True := by simp
      have hp := shl_pow o (by omega)
      generalize leafU s o = row at hlen hsn ⊢
      have hL := Leaf_ok (o : Int)
      generalize Tr.leaf (o : Int) = lf at hsn hL
      push_cast -implicitDefEqProofs [eq_self, iff_self, ho', ho0, hp]
      refine ⟨fun h => ?_, fun h => ?_⟩
      · refine callq hL ?_
        push_cast -implicitDefEqProofs [eq_self, iff_self]
        rw [if_pos h] at hsn
        have hln : (leafU s (o + 1)).length = row.length + 1 := by rw [hsn, List.length_append]; rfl
        have hrw : (leafU s (o + 1)).map encT = row.map encT ++ [encT lf] := by rw [hsn, List.map_append]; rfl
        have hcap : List.take row.length (row.map encT) = row.map encT := List.take_of_length_le (by simp)
        rw [wrap64 (n := (o : Int) + 1) (by omega) (by omega)]
        refine ⟨by omega, next_at [some 2] (o + 1) (by omega) (by omega) rfl ?_ ?_⟩
        · (try push_cast -implicitDefEqProofs [eq_self, iff_self, hln])
        · (try push_cast -implicitDefEqProofs [eq_self, iff_self, hcap])
          rw [hrw]
          exact ⟨sealLL_snoc (sealLL_pure _ _ _ (encTs_pure row)) (sealL_pure _ _ _ (encT_pure lf)), fun e he => by rw [← hrw] at he; exact of_eq_true (encTs_two _) e he⟩
      · rw [if_neg h, List.append_nil] at hsn
        rw [wrap64 (n := (o : Int) + 1) (by omega) (by omega)]
        refine next_at [some 0] (o + 1) (by omega) (by omega) rfl ?_ ?_
        · (try push_cast -implicitDefEqProofs [eq_self, iff_self, hsn])
        · (try push_cast -implicitDefEqProofs [eq_self, iff_self, hsn])
          exact of_eq_true (encTs_two _)
    · have ho' : ((o : Int) < 4) = False := by simp; omega
      have e4 : leafU s o = leafSet s := by rw [show o = 4 by omega, leafU_four]
      rw [e4]
      have hl4 : (leafSet s).length ≤ 4 := leafU_len s 4
      push_cast -implicitDefEqProofs [eq_self, iff_self, ho']
      refine loop_at hs (σ := Nat) (fun n => (n : Int) < s) (fun n => 16 - n)
        (fun n => [(5, .int ((n : Int) + 1)), (0, .int s), (3, .rsl (H.nxt + 0) 2 0 (rowJ (leafSet s) (cutsU s n)).length)]) (fun n => [some (.cells 2 ((rowJ (leafSet s) (cutsU s n)).map encT) 0)]) [some 0] 0 (by omega) rfl ?_ ?_ ?_
      · (try push_cast -implicitDefEqProofs [eq_self, iff_self, cutsU_zero, rowJ_nil, Int.zero_add])
      · (try push_cast -implicitDefEqProofs [eq_self, iff_self, cutsU_zero, rowJ_nil])
        exact of_eq_true (encTs_two _)
      intro n hn
      have hcl := cutsU_len s n
      have hsu := cutsU_succ s n
      have hal : (rowJ (leafSet s) (cutsU s n)).length ≤ 4 + n * 14400 := by rw [rowJ_len]; omega
      by_cases hna : (n : Int) + 1 < s
      · have hna' : ((n : Int) + 1 < s) = True := by simp [hna]
        have hrow1 : rowJ (leafSet s) (cutsU s (n + 1)) = rowJ (rowJ (leafSet s) (cutsU s n)) (cutT (allT 4) s ((n : Int) + 1)) := by rw [hsu, rowJ_app]
        generalize hR : rowJ (leafSet s) (cutsU s n) = row at hal hrow1 ⊢
        have hX := ih ((n : Int) + 1) hna
        have hY := ih (s - ((n : Int) + 1)) (by omega)
        have hXl := all_len ((n : Int) + 1)
        have hYl := all_len (s - ((n : Int) + 1))
        by_cases hb : band .i64 ((n : Int) + 1) s = (n : Int) + 1
        · have hb' : (band .i64 ((n : Int) + 1) s = (n : Int) + 1) = True := by simp [hb]
          rw [cutT, if_pos (by rw [decide_eq_true hna, decide_eq_true hb]; rfl)] at hrow1
          generalize allT 4 ((n : Int) + 1) = X at hX hXl hrow1
          generalize allT 4 (s - ((n : Int) + 1)) = Y at hY hYl hrow1
          rw [← xsU_all] at hrow1
          push_cast -implicitDefEqProofs [eq_self, iff_self, hna', hb']
          refine callq hX ?_
          push_cast -implicitDefEqProofs [eq_self, iff_self]
          refine loop_at hs (σ := Nat) (fun i => i ≤ X.length) (fun i => X.length - i)
            (fun i => [(42, .int i), (41, .int X.length), (40, .sl (X.map encT)), (5, .int ((n : Int) + 1)), (0, .int s), (3, .rsl (H.nxt + 0) 2 0 (rowJ row (xsU X Y i)).length)]) (fun i => [some (.cells 2 ((rowJ row (xsU X Y i)).map encT) 0)]) [some 0] 0 (by omega) rfl ?_ ?_ ?_
          · (try push_cast -implicitDefEqProofs [eq_self, iff_self, xsU_zero, rowJ_nil, encTs_pure])
          · (try push_cast -implicitDefEqProofs [eq_self, iff_self, xsU_zero, rowJ_nil, encTs_pure])
            exact of_eq_true (encTs_two _)
          intro i hi2
          have hxl := xsU_len X Y hXl hYl i
          have hxr : (rowJ row (xsU X Y i)).length ≤ 4 + n * 14400 + 14400 := by rw [rowJ_len]; omega
          by_cases hi : i < X.length
          · have hi' : ((i : Int) < (X.length : Int)) = True := by simp; omega
            have hi0 : (0 ≤ (i : Int)) = True := by simp
            have hxs : rowJ row (xsU X Y (i + 1)) = rowJ (rowJ row (xsU X Y i)) (ysU X[i] Y Y.length) := by rw [xsU_succ X Y hi, rowJ_app, ysU_all]
            generalize hR2 : rowJ row (xsU X Y i) = row2 at hxr hxs ⊢
            have hget := encTs_get X i hi
            generalize X[i] = x at hget hxs
            push_cast -implicitDefEqProofs [eq_self, iff_self, hi', hi0, hget]
            rw [wrap64 (n := s - ((n : Int) + 1)) (by omega) (by omega)]
            refine callq hY ?_
            push_cast -implicitDefEqProofs [eq_self, iff_self]
            refine loop_at hs (σ := Nat) (fun j => j ≤ Y.length) (fun j => Y.length - j)
              (fun j => [(51, .int j), (50, .int Y.length), (49, .sl (Y.map encT)), (7, .ptr (H.nxt + 1) 2 0 0), (42, .int i), (41, .int X.length), (40, .sl (X.map encT)), (5, .int ((n : Int) + 1)), (0, .int s), (3, .rsl (H.nxt + 0) 2 0 (rowJ row2 (ysU x Y j)).length)]) (fun j => [some (.cells 2 ((rowJ row2 (ysU x Y j)).map encT) 0), some (.cells 2 [encT x] 0)]) [some 0, some 1] 0 (by omega) rfl ?_ ?_ ?_
            · (try push_cast -implicitDefEqProofs [eq_self, iff_self, ysU_zero, rowJ_nil, encTs_pure])
            · (try push_cast -implicitDefEqProofs [eq_self, iff_self, ysU_zero, rowJ_nil, encTs_pure])
              exact of_eq_true (encTs_two _)
            intro j hj2
            have hyl := ysU_len x Y j
            have hyr : (rowJ row2 (ysU x Y j)).length ≤ 4 + n * 14400 + 14400 + 120 := by rw [rowJ_len]; omega
            by_cases hj : j < Y.length
            · have hj' : ((j : Int) < (Y.length : Int)) = True := by simp; omega
              have hj0 : (0 ≤ (j : Int)) = True := by simp
              have hys : rowJ row2 (ysU x Y (j + 1)) = rowJ (rowJ row2 (ysU x Y j)) [.join x Y[j]] := by rw [ysU_succ x Y hj, rowJ_app]
              generalize hR3 : rowJ row2 (ysU x Y j) = row3 at hyr hys ⊢
              have hget2 := encTs_get Y j hj
              have hJ := Join_ok x Y[j]
              generalize Y[j] = y at hget2 hys hJ
              generalize Tr.join x y = xy at hys hJ
              push_cast -implicitDefEqProofs [eq_self, iff_self, hj', hj0, hget2]
              refine callq hJ ?_
              push_cast -implicitDefEqProofs [eq_self, iff_self]
              have hln : (rowJ row2 (ysU x Y (j + 1))).length = row3.length + 1 := by rw [hys, rowJ_one]
              have hrw : (rowJ row2 (ysU x Y (j + 1))).map encT = row3.map encT ++ [encT xy] := by rw [hys, rowJ, List.map_append]; rfl
              have hcap : List.take row3.length (row3.map encT) = row3.map encT := List.take_of_length_le (by simp)
              rw [wrap64 (n := (j : Int) + 1) (by omega) (by omega)]
              refine ⟨by omega, next_at [some 4, some 1] (j + 1) (by omega) (by omega) rfl ?_ ?_⟩
              · (try push_cast -implicitDefEqProofs [eq_self, iff_self, hln, encTs_pure])
              · (try push_cast -implicitDefEqProofs [eq_self, iff_self, hcap])
                rw [hrw]
                exact ⟨sealLL_snoc (sealLL_pure _ _ _ (encTs_pure row3)) (sealL_pure _ _ _ (encT_pure xy)), fun e he => by rw [← hrw] at he; exact of_eq_true (encTs_two _) e he⟩
            · have hj' : ((j : Int) < (Y.length : Int)) = False := by simp; omega
              obtain rfl : j = Y.length := by omega
              rw [← hxs]
              push_cast -implicitDefEqProofs [eq_self, iff_self, hj']
              rw [wrap64 (n := (i : Int) + 1) (by omega) (by omega)]
              refine next_at [some 0] (i + 1) (by omega) (by omega) rfl ?_ ?_
              · (try push_cast -implicitDefEqProofs [eq_self, iff_self, encTs_pure])
              · (try push_cast -implicitDefEqProofs [eq_self, iff_self, encTs_pure])
                exact of_eq_true (encTs_two _)
          · have hi' : ((i : Int) < (X.length : Int)) = False := by simp; omega
            obtain rfl : i = X.length := by omega
            rw [← hrow1]
            push_cast -implicitDefEqProofs [eq_self, iff_self, hi']
            rw [wrap64 (n := (n : Int) + 1 + 1) (by omega) (by omega)]
            refine next_at [some 0] (n + 1) (by omega) (by omega) rfl ?_ ?_
            · (try push_cast -implicitDefEqProofs [eq_self, iff_self, encTs_pure])
            · (try push_cast -implicitDefEqProofs [eq_self, iff_self, encTs_pure])
              exact of_eq_true (encTs_two _)
        · have hb' : (band .i64 ((n : Int) + 1) s = (n : Int) + 1) = False := by simp [hb]
          rw [cutT, if_neg (by rw [decide_eq_false hb, Bool.and_false]; exact Bool.false_ne_true), rowJ_nil] at hrow1
          push_cast -implicitDefEqProofs [eq_self, iff_self, hna', hb']
          rw [wrap64 (n := (n : Int) + 1 + 1) (by omega) (by omega)]
          refine next_at [some 0] (n + 1) (by omega) (by omega) rfl ?_ ?_
          · (try push_cast -implicitDefEqProofs [eq_self, iff_self, hrow1])
          · (try push_cast -implicitDefEqProofs [eq_self, iff_self, hrow1])
            exact of_eq_true (encTs_two _)
      · have hna' : ((n : Int) + 1 < s) = False := by simp; omega
        have hp := allT_parts h1 h2 (n := n) (by omega) (by omega)
        have hp' : rowJ (leafSet s) (cutsU s n) = allT 4 s := hp.symm
        rw [hp']
        have hcap : List.take (allT 4 s).length ((allT 4 s).map encT) = (allT 4 s).map encT := List.take_of_length_le (by simp)
        push_cast -implicitDefEqProofs [eq_self, iff_self, hna']
        rw [hcap]
        exact sealLL_pure _ _ _ (encTs_pure _)
theorem AllT_n : ∀ (n : Nat) (s : Int), s < (n : Int) → Quiet Go.Proofs.Try.prog 25 [.int s] (.sl ((allT 4 s).map encT)) := by
  intro n
  induction n with
  | zero => intro s hs; exact AllT_out (by omega)
  | succ n ih =>
    intro s hs
    by_cases h : 1 ≤ s ∧ s < 16
    · exact AllT_in s h.1 h.2 fun a ha => ih a (by omega)
    · exact AllT_out h
theorem AllT_ok (s : Int) : Quiet Go.Proofs.Try.prog 25 [.int s] (.sl ((allT 4 s).map encT)) := AllT_n (s.toNat + 1) s (by omega)
end
section
attribute [local push_cast] encT_mk encT_take encT_len encT_one encTs_pure encT_pure
theorem okB_split {t x : Tr} (ht : t.may = true) (h : okB (setT 4 t).1 t x = true) : x.may = true ∧ x.set = t.set ∧ sameT x t = false := by
  unfold okB at h
  simp only [Bool.and_eq_true, decide_eq_true_eq, Bool.not_eq_true'] at h
  have hm : x.may = true := h.1.1
  exact ⟨hm, by rw [Tr.set, Tr.set, if_pos hm, if_pos ht]; exact h.1.2, h.2⟩
theorem byT_ok {t : Tr} (ht : t.Ok) : (byR turnR t).1.Ok := by
  unfold byR
  split
  · exact turnR_ok ht
  · exact trO_ok
theorem byM_ok {t : Tr} (ht : t.Ok) : (byR moveR t).1.Ok := by
  unfold byR
  split
  · exact moveR_ok ht
  · exact trO_ok
theorem by_may {r : Tr → Tr × Bool} {t : Tr} (h : (byR r t).2 = true) : t.may = true := by
  cases hm : t.may
  · rw [byR, hm, if_neg (by decide)] at h; cases h
  · rfl
set_option maxHeartbeats 4000000 in
theorem ruleBack_ok (t : Tr) (ht : t.Ok) : Quiet Go.Proofs.Try.prog 6 [.agg (encT t)] (.bool true) := by
  have hzt := sizeT_ok t 100 (by omega) (by omega) ht
  generalize szT t 100 = zt at hzt
  have hxo := byT_ok ht
  have hzo := byM_ok ht
  have hyo := byT_ok hxo
  have hT := Turn_ok t ht
  have hT2 := Turn_ok _ hxo
  have hV := Move_ok t ht
  have hN := Next_ok t ht
  have hSt := SetT_ok t ht
  have hSx := SetT_ok _ hxo
  have hSz := SetT_ok _ hzo
  have hMx := MayT_ok _ hxo
  have hMz := MayT_ok _ hzo
  have hYt := tree_same_ok _ t hyo ht
  have hXt := tree_same_ok _ t hxo ht
  have k1 : (byR turnR t).2 = true → (byR turnR t).1.may = true ∧ (byR turnR t).1.set = t.set ∧ sameT (byR turnR t).1 t = false ∧ sameT (byR turnR (byR turnR t).1).1 t = true := fun h => by
    have hm := by_may h
    obtain ⟨h1, _, h3⟩ := turn_back hm h
    obtain ⟨h4, h5, h6⟩ := okB_split hm h1
    exact ⟨h4, h5, h6, h3⟩
  have k2 : (byR moveR t).2 = true → (byR turnR t).2 = true ∧ (byR moveR t).1.may = true ∧ (byR moveR t).1.set = t.set := fun h => by
    have hm := by_may h
    obtain ⟨h1, h2⟩ := move_back hm h
    obtain ⟨h4, h5, h6⟩ := okB_split hm h2
    exact ⟨h1, h4, h5⟩
  have k3 : (∀ x ∈ nextR t, x.Ok ∧ x.may = true ∧ x.set = t.set ∧ sameT x t = false) ∧ ((byR turnR t).2 = true ∨ (nextR t).length = 0) := by
    unfold nextR
    cases hm : t.may
    · simp
    · rw [if_pos rfl]
      obtain ⟨h1, h2⟩ := next_back hm
      rw [List.all_eq_true] at h1
      refine ⟨fun x hx => ?_, ?_⟩
      · obtain ⟨h4, h5, h6⟩ := okB_split hm (h1 x hx)
        exact ⟨setT_ok2 4 x h4, h4, h5, h6⟩
      · rcases h2 with h2 | h2
        · exact .inl h2
        · right; rw [h2]; rfl
  have hNl := (next_ok2 t).1
  generalize byR turnR (byR turnR t).1 = y at hT2 hYt k1 hyo
  generalize byR turnR t = x at hT hT2 hSx hMx hXt k1 k2 k3 hxo
  generalize byR moveR t = z at hV hSz hMz k2
  obtain ⟨x, is⟩ := x
  obtain ⟨y, is2⟩ := y
  obtain ⟨z, has⟩ := z
  dsimp only at hT hT2 hV hSx hSz hMx hMz hYt hXt k1 k2 k3
  generalize nextR t = L at hN k3 hNl
  obtain ⟨k3, k4⟩ := k3
  refine quiet_of (rs := #[.tmp 2]) Go.Proofs.Try.func6 rfl rfl rfl mixed rfl rfl fun H hs => ?_
  push_cast -implicitDefEqProofs [eq_self, iff_self]
  refine callq awake08_ok ?_
  push_cast -implicitDefEqProofs [eq_self, iff_self]
  refine gcall trivial (callq hzt ?_)
  push_cast -implicitDefEqProofs [eq_self, iff_self]
  intro hz
  refine callq hT ?_
  push_cast -implicitDefEqProofs [eq_self, iff_self]
  refine callq hT2 ?_
  push_cast -implicitDefEqProofs [eq_self, iff_self]
  refine callq hV ?_
  push_cast -implicitDefEqProofs [eq_self, iff_self]
  refine areg_at 24 (by kernel_rfl) (by kernel_rfl) ?_
  cases is
  · push_cast -implicitDefEqProofs [eq_self, iff_self]
    refine gcallq (.bool false) (fun h => by cases h) ?_
    push_cast -implicitDefEqProofs [eq_self, iff_self]
    refine gcallq (.int 0) (fun h => by cases h) ?_
    push_cast -implicitDefEqProofs [eq_self, iff_self]
    refine gcallq (.int 0) (fun h => by cases h) ?_
    push_cast -implicitDefEqProofs [eq_self, iff_self]
    refine gcallq (.bool false) (fun h => by cases h) ?_
    push_cast -implicitDefEqProofs [eq_self, iff_self]
    refine gcallq (.bool false) (fun h => by cases h) ?_
    push_cast -implicitDefEqProofs [eq_self, iff_self]
    refine callq hN ?_
    push_cast -implicitDefEqProofs [eq_self, iff_self]
    refine loop_at hs (σ := Nat) (fun i => i ≤ L.length) (fun i => L.length - i)
      (fun i => [(11, .int i), (10, .sl (L.map encT)), (1, .ptr (H.nxt + 0) 2 0 0), (8, .ptr (H.nxt + 1) 2 0 0), (9, .bool has), (5, .bool false)]) (fun i => [some (.cells 2 [encT t] 0), some (.cells 2 [encT z] 0)]) [some 0, some 3] 0 (by omega) rfl ?_ ?_ ?_
    · (try push_cast -implicitDefEqProofs [eq_self, iff_self, encTs_pure])
    · (try push_cast -implicitDefEqProofs [eq_self, iff_self])
    intro i hi2
    by_cases hi : i < L.length
    · have hi' : ((i : Int) < (L.length : Int)) = True := by simp; omega
      have hi0 : (0 ≤ (i : Int)) = True := by simp
      have hget := encTs_get L i hi
      obtain ⟨c1, c2, c3, c4⟩ := k3 _ (List.getElem_mem hi)
      generalize L[i] = u at hget c1 c2 c3 c4
      have hMu := MayT_ok u c1
      have hSu := SetT_ok u c1
      have hEu := tree_same_ok u t c1 ht
      rw [c2] at hMu
      rw [c3] at hSu
      rw [c4] at hEu
      push_cast -implicitDefEqProofs [eq_self, iff_self, hi', hi0, hget]
      refine areg_at 24 (by kernel_rfl) (by kernel_rfl) ?_
      push_cast -implicitDefEqProofs [eq_self, iff_self, hi', hi0, hget]
      refine ahdq hMu ?_
      push_cast -implicitDefEqProofs [eq_self, iff_self, hi', hi0, hget]
      refine gcallq _ (fun _ => hSu) ?_
      push_cast -implicitDefEqProofs [eq_self, iff_self, hi', hi0, hget]
      refine gcallq _ (fun _ => hSt) ?_
      push_cast -implicitDefEqProofs [eq_self, iff_self, hi', hi0, hget]
      refine gcallq _ (fun _ => hEu) ?_
      push_cast -implicitDefEqProofs [eq_self, iff_self, hi', hi0, hget]
      rw [wrap64 (n := (i : Int) + 1) (by omega) (by omega)]
      refine next_at [some 0, some 1] (i + 1) (by omega) (by omega) rfl ?_ ?_
      · (try push_cast -implicitDefEqProofs [eq_self, iff_self, encTs_pure])
      · (try push_cast -implicitDefEqProofs [eq_self, iff_self])
    · have hi' : ((i : Int) < (L.length : Int)) = False := by simp; omega
      have k4' : (L.length : Int) = 0 := by rcases k4 with h | h; cases h; omega
      push_cast -implicitDefEqProofs [eq_self, iff_self, hi']
      refine areg_at 24 (by kernel_rfl) (by kernel_rfl) ?_
      cases has
      · push_cast -implicitDefEqProofs [eq_self, iff_self, hi', k4']
        refine gcallq (.bool false) (fun h => by cases h) ?_
        push_cast -implicitDefEqProofs [eq_self, iff_self, hi', k4']
        refine gcallq (.int 0) (fun h => by cases h) ?_
        push_cast -implicitDefEqProofs [eq_self, iff_self, hi', k4']
        refine gcallq (.int 0) (fun h => by cases h) ?_
        push_cast -implicitDefEqProofs [eq_self, iff_self, hi', k4']
        trace_state
      · cases (k2 rfl).1
  · obtain ⟨a1, a2, a3, a4⟩ := k1 rfl
    rw [a4] at hYt
    rw [a3] at hXt
    rw [a1] at hMx
    rw [a2] at hSx
    push_cast -implicitDefEqProofs [eq_self, iff_self]
    refine gcallq _ (fun _ => hYt) ?_
    push_cast -implicitDefEqProofs [eq_self, iff_self]
    refine gcallq _ (fun _ => hSx) ?_
    push_cast -implicitDefEqProofs [eq_self, iff_self]
    refine gcallq _ (fun _ => hSt) ?_
    push_cast -implicitDefEqProofs [eq_self, iff_self]
    refine gcallq _ (fun _ => hXt) ?_
    push_cast -implicitDefEqProofs [eq_self, iff_self]
    refine gcallq _ (fun _ => hMx) ?_
    push_cast -implicitDefEqProofs [eq_self, iff_self]
    refine callq hN ?_
    push_cast -implicitDefEqProofs [eq_self, iff_self]
    refine loop_at hs (σ := Nat) (fun i => i ≤ L.length) (fun i => L.length - i)
      (fun i => [(11, .int i), (10, .sl (L.map encT)), (1, .ptr (H.nxt + 0) 2 0 0), (8, .ptr (H.nxt + 1) 2 0 0), (9, .bool has), (5, .bool true)]) (fun i => [some (.cells 2 [encT t] 0), some (.cells 2 [encT z] 0)]) [some 0, some 3] 0 (by omega) rfl ?_ ?_ ?_
    · (try push_cast -implicitDefEqProofs [eq_self, iff_self, encTs_pure])
    · (try push_cast -implicitDefEqProofs [eq_self, iff_self])
    intro i hi2
    by_cases hi : i < L.length
    · have hi' : ((i : Int) < (L.length : Int)) = True := by simp; omega
      have hi0 : (0 ≤ (i : Int)) = True := by simp
      have hget := encTs_get L i hi
      obtain ⟨c1, c2, c3, c4⟩ := k3 _ (List.getElem_mem hi)
      generalize L[i] = u at hget c1 c2 c3 c4
      have hMu := MayT_ok u c1
      have hSu := SetT_ok u c1
      have hEu := tree_same_ok u t c1 ht
      rw [c2] at hMu
      rw [c3] at hSu
      rw [c4] at hEu
      push_cast -implicitDefEqProofs [eq_self, iff_self, hi', hi0, hget]
      refine areg_at 24 (by kernel_rfl) (by kernel_rfl) ?_
      push_cast -implicitDefEqProofs [eq_self, iff_self, hi', hi0, hget]
      refine ahdq hMu ?_
      push_cast -implicitDefEqProofs [eq_self, iff_self, hi', hi0, hget]
      refine gcallq _ (fun _ => hSu) ?_
      push_cast -implicitDefEqProofs [eq_self, iff_self, hi', hi0, hget]
      refine gcallq _ (fun _ => hSt) ?_
      push_cast -implicitDefEqProofs [eq_self, iff_self, hi', hi0, hget]
      refine gcallq _ (fun _ => hEu) ?_
      push_cast -implicitDefEqProofs [eq_self, iff_self, hi', hi0, hget]
      rw [wrap64 (n := (i : Int) + 1) (by omega) (by omega)]
      refine next_at [some 0, some 1] (i + 1) (by omega) (by omega) rfl ?_ ?_
      · (try push_cast -implicitDefEqProofs [eq_self, iff_self, encTs_pure])
      · (try push_cast -implicitDefEqProofs [eq_self, iff_self])
    · have hi' : ((i : Int) < (L.length : Int)) = False := by simp; omega
      push_cast -implicitDefEqProofs [eq_self, iff_self, hi']
      refine areg_at 24 (by kernel_rfl) (by kernel_rfl) ?_
      cases has
      · push_cast -implicitDefEqProofs [eq_self, iff_self, hi']
        refine gcallq (.bool false) (fun h => by cases h) ?_
        push_cast -implicitDefEqProofs [eq_self, iff_self, hi']
        refine gcallq (.int 0) (fun h => by cases h) ?_
        push_cast -implicitDefEqProofs [eq_self, iff_self, hi']
        refine gcallq (.int 0) (fun h => by cases h) ?_
        push_cast -implicitDefEqProofs [eq_self, iff_self, hi']
        trace_state
      · obtain ⟨_, b1, b2⟩ := k2 rfl
        rw [b1] at hMz
        rw [b2] at hSz
        push_cast -implicitDefEqProofs [eq_self, iff_self, hi']
        refine gcallq _ (fun _ => hMz) ?_
        push_cast -implicitDefEqProofs [eq_self, iff_self, hi']
        refine gcallq _ (fun _ => hSz) ?_
        push_cast -implicitDefEqProofs [eq_self, iff_self, hi']
        refine gcallq _ (fun _ => hSt) ?_
        push_cast -implicitDefEqProofs [eq_self, iff_self, hi']
        trace_state
theorem ruleBack_law (us : List AV) (h : ToldAll Go.Proofs.Try.prog Go.Proofs.Try.f6.params.toList us) : Quiet Go.Proofs.Try.prog 6 us (.bool true) := by
  have e1 : Go.Proofs.Try.f6.params.toList = [24] := by kernel_rfl
  rw [e1] at h
  obtain ⟨t, us, rfl, ht, h⟩ := told_T h
  obtain rfl := told_nil h
  exact ruleBack_ok t ht
end
end Go.Sim.Try
