/- The law ExprTells, walked. Conditions: none. -/
import Derived.Test.YtnoajklojkmonaaGreatSimRefF
import Derived.Test.YtnoajklojkmonaaGreatSimLaw02
import Derived.Test.YtnoajklojkmonaaGreatPurSet
set_option linter.unusedSimpArgs false
set_option linter.unusedVariables false
set_option maxRecDepth 100000
namespace Go.Sim.Tryz
open Go Go.Sim
attribute [local push_cast] aops_cons aops_nil aopG_none aopG_some aopP_eq aopE_eq aopC_eq aopE?_eq aopC?_eq gopP_eq gopL_eq ahead_cons ahead_nil ahdG_none ahdG_some ahdP_eq ahdN_eq ahdC_eq ahdN?_eq ahdS_eq ahdS?_eq astoreN ahdC?_eq ghdP_eq ghdC_eq ghdC?_eq ghdZ_eq opt_some opt_none no_eq acondT_true acondT_false acondT_lit aw_skip aw_region aw_regionD aw_seq aw_cond aw_block aw_loop aw_exit aw_label aw_ret thn_normal thn_exit thn_ret inb_normal inb_exit inb_ret qret_ret qret_normal gcond apure aeff anew acallee ares aresT aresL aresC ares1 qfin_eq ev ofV evL gokL tget tput_some tput_none initT abin aint aun aload afaddr aiaddr afield aindex aextract apick pickv_lit Bool.or_false Bool.false_or Bool.or_true Bool.true_or imp_self aslice abound aconv abuild afill splice alen aminmax abuiltin anil apart Value.oneCell' astore aappend srcEs abuildSlice asets isEq plus_obj plus_nxt plus_add plus_set plus_del IntKind.bits Option.map_some Option.map_none Option.bind_some Option.bind_none Option.join_some Option.getD_some Option.getD_none Option.toList Option.isSome_some List.getElem?_toArray List.getElem?_cons_zero List.getElem?_cons_succ List.getElem?_nil List.length_cons List.length_nil List.length_map List.head?_cons List.cons_append List.nil_append List.append_nil List.map_cons List.map_nil List.getD_cons_zero List.getD_cons_succ List.replicate_succ List.replicate_zero List.set_cons_zero List.set_cons_succ List.take_succ_cons List.take_zero List.drop_succ_cons List.drop_zero List.all_cons List.all_nil Nat.zero_add if_true if_false true_and and_true false_and and_false true_implies implies_true forall_const Bool.and_true Bool.true_and Bool.false_and Bool.and_false Bool.true_beq Bool.false_beq Bool.not_not beq_tt beq_ff Int.toNat_natCast decide_true decide_false Bool.not_true Bool.not_false Bool.true_eq_false Bool.false_eq_true false_implies exists_prop eq_self bne_self_eq_false beq_self_eq_true decide_eq_true_eq decide_eq_false_iff_not Bool.not_eq_true' Bool.not_eq_false' AV.int AV.bool AV.nilS ne_eq not_false_eq_true not_true_eq_false exists_eq_left exists_eq_left' Nat.lt_irrefl core_lit grd_lit acells_lit one_lit core_agg grd_agg acells_agg one_agg core_tup grd_tup acells_tup one_tup core_sl grd_sl acells_sl one_sl core_esl grd_esl acells_esl one_esl core_rsl grd_rsl acells_rsl one_rsl core_ptr grd_ptr acells_ptr one_ptr core_iptr grd_iptr acells_iptr one_iptr core_clo grd_clo acells_clo one_clo core_mp grd_mp acells_mp one_mp core_any grd_any acells_any one_any core_gv grd_gv fit_agg fit_lit fit_sl fit_esl fit_rsl fit_ptr fit_iptr fit_clo fit_mp retq_ret retq_normal set_nxt set_set plus_obj_set plus_set_set app_get0 app_get app_set0 app_set List.append_assoc List.length_append List.length_set Nat.lt_add_one Nat.add_lt_add_iff_right Nat.lt_add_right_iff_pos Nat.add_lt_add_iff_left List.mem_cons List.not_mem_nil or_false forall_eq forall_eq_or_imp lt_s0 lt_s1 lt_s2 lt_s3 lt_s4 lt_s5 lt_s6 lt_s7 lt_s8 pickv_t pickv_f or_nand or_nand2 imp_and_l SealT SealOs sealO_cells sl_lit sl_any sl_agg sl_tup sl_sl sl_rsl slO sl_esl sl_nil sl_eslesl sl_eslnil sl_rslrsl sl_eslrsl sl_nilrsl sl_ptr sl_iptr sl_ptri slP sl_clo sl_mp sl_gv sll_nil sll_cons slll_nil slll_cons shut_eq shutO Option.join_none Fn.func.injEq and_self sealL_self sealLL_self seal_self PureL PureLL Pure Nat.le_refl Nat.zero_le AV.lit.injEq Value.int.injEq Value.bool.injEq false_or or_true true_or Int.natCast_zero Int.ofNat_zero Int.cast_ofNat_Int Int.natCast_add Int.natCast_one Option.some.injEq piL_is sop_nil sop_cons sop_none sop_some sopO_some sop_new shut_pi shutL_nil shutL_cons exQ_exit exQ_ret exQ_normal Go.Sim.Tryz.ty_load1 Go.Sim.Tryz.ty_zero1 Go.Sim.Tryz.ty_load2 Go.Sim.Tryz.ty_zero2 Go.Sim.Tryz.ty_und2 Go.Sim.Tryz.ty_load3 Go.Sim.Tryz.ty_zero3 Go.Sim.Tryz.ty_und3 Go.Sim.Tryz.ty_load4 Go.Sim.Tryz.ty_zero4 Go.Sim.Tryz.ty_und4 Go.Sim.Tryz.ty_load5 Go.Sim.Tryz.ty_zero5 Go.Sim.Tryz.ty_und5 Go.Sim.Tryz.ty_load9 Go.Sim.Tryz.ty_zero9 Go.Sim.Tryz.ty_und9 Go.Sim.Tryz.ty_load23 Go.Sim.Tryz.ty_zero23 Go.Sim.Tryz.ty_fld23_0 Go.Sim.Tryz.ty_part23_0 Go.Sim.Tryz.ty_fld23_1 Go.Sim.Tryz.ty_part23_1 Go.Sim.Tryz.ty_struct23 Go.Sim.Tryz.ty_load24 Go.Sim.Tryz.ty_zero24 Go.Sim.Tryz.ty_el24 Go.Sim.Tryz.ty_zeroE24 Go.Sim.Tryz.ty_load26 Go.Sim.Tryz.ty_zero26 Go.Sim.Tryz.ty_fld26_0 Go.Sim.Tryz.ty_part26_0 Go.Sim.Tryz.ty_fld26_1 Go.Sim.Tryz.ty_part26_1 Go.Sim.Tryz.ty_fld26_2 Go.Sim.Tryz.ty_part26_2 Go.Sim.Tryz.ty_fld26_3 Go.Sim.Tryz.ty_part26_3 Go.Sim.Tryz.ty_struct26 Go.Sim.Tryz.ty_load27 Go.Sim.Tryz.ty_zero27 Go.Sim.Tryz.ty_el27 Go.Sim.Tryz.ty_zeroE27 Go.Sim.Tryz.ty_load28 Go.Sim.Tryz.ty_zero28 Go.Sim.Tryz.ty_el28 Go.Sim.Tryz.ty_zeroE28 Go.Sim.Tryz.ty_load30 Go.Sim.Tryz.ty_zero30 Go.Sim.Tryz.ty_load34 Go.Sim.Tryz.ty_zero34 Go.Sim.Tryz.ty_load46 Go.Sim.Tryz.ty_zero46 Go.Sim.Tryz.ty_load49 Go.Sim.Tryz.ty_zero49 Go.Sim.Tryz.ty_fld49_0 Go.Sim.Tryz.ty_part49_0 Go.Sim.Tryz.ty_fld49_1 Go.Sim.Tryz.ty_part49_1 Go.Sim.Tryz.ty_fld49_2 Go.Sim.Tryz.ty_part49_2 Go.Sim.Tryz.ty_struct49 Go.Sim.Tryz.ty_load54 Go.Sim.Tryz.ty_zero54 Go.Sim.Tryz.ty_und54 Go.Sim.Tryz.ty_load56 Go.Sim.Tryz.ty_zero56 Go.Sim.Tryz.ty_load61 Go.Sim.Tryz.ty_zero61 Go.Sim.Tryz.ty_und61 Go.Sim.Tryz.ty_load69 Go.Sim.Tryz.ty_zero69 Go.Sim.Tryz.ty_und69 Go.Sim.Tryz.ty_load71 Go.Sim.Tryz.ty_zero71 Go.Sim.Tryz.ty_und71 Go.Sim.Tryz.ty_load77 Go.Sim.Tryz.ty_zero77 Go.Sim.Tryz.ty_load84 Go.Sim.Tryz.ty_zero84 Go.Sim.Tryz.ty_und84 Go.Sim.Tryz.ty_load88 Go.Sim.Tryz.ty_zero88 encE_mk encE_take encE_len encV encE_one encEs_pure encE_pure

/-! ### Which one may be -/
mutual
theorem partsR_spec : ∀ (e : Ex) (d : Int), 1 ≤ d → d ≤ 7 → (1 ≤ partsR e d ∧ partsR e d ≤ 1000 - 100 * d) ∧ ((partsR e d ≤ 30) ↔ ((cnt e : Int) ≤ 30 ∧ d + hgt e ≤ 7)) ∧ (partsR e d ≤ 30 → partsR e d = cnt e)
  | .mk op col k n l, d, h1, h2 => by
    rw [partsR, cnt, hgt]
    have hh := hgtL_pos l
    by_cases hd : 6 < d
    · rw [if_pos hd]
      exact ⟨by omega, ⟨fun h => by omega, fun h => by omega⟩, fun h => by omega⟩
    · rw [if_neg hd]
      have := partsL_spec l (d + 1) 1 (by omega) (by omega) (by omega) (by omega)
      push_cast
      omega
theorem partsL_spec : ∀ (l : List Ex) (d n : Int), 2 ≤ d → d ≤ 7 → 1 ≤ n → n ≤ 1100 - 100 * d → (n ≤ partsL l d n ∧ partsL l d n ≤ 1100 - 100 * d) ∧ ((partsL l d n ≤ 30) ↔ (n + cntL l ≤ 30 ∧ d + hgtL l ≤ 7)) ∧ (partsL l d n ≤ 30 → partsL l d n = n + cntL l)
  | [], d, n, h1, h2, h3, h4 => by
    rw [partsL, cntL, hgtL]
    push_cast
    omega
  | x :: l, d, n, h1, h2, h3, h4 => by
    rw [partsL, cntL, hgtL]
    have hx := partsR_spec x d (by omega) h2
    have hp := cnt_pos x
    have hh := hgt_pos x
    by_cases hn : n < 31
    · rw [if_pos hn, wrap64 (by omega) (by omega)]
      have := partsL_spec l d (n + partsR x d) h1 h2 (by omega) (by omega)
      push_cast
      omega
    · rw [if_neg hn]
      push_cast
      omega
end
theorem part_iff (op col k n : Int) (l : List Ex) : (Ex.mk op col k n l).part = true ↔
    (0 ≤ op ∧ op < 11 ∧ (wayLo op ≤ l.length ∧ (l.length : Int) ≤ wayHi op) ∧ (col = 0 ∨ (op = 1 ∧ 0 < col ∧ col ≤ 15)) ∧ ((k = 0 ∧ n = 0) ∨ (op = 0 ∧ 0 ≤ k ∧ k < 3 ∧ (k = 0 ∨ n = 0)))) := by
  show ((decide (0 ≤ op) && decide (op < 11) && (decide (wayLo op ≤ l.length) && decide ((l.length : Int) ≤ wayHi op)) && (decide (col = 0) || (decide (op = 1) && decide (0 < col) && decide (col ≤ 15)))
    && ((decide (k = 0) && decide (n = 0)) || (decide (op = 0) && (decide (0 ≤ k) && decide (k < 3) && (decide (k = 0) || decide (n = 0)))))) = true) ↔ _
  simp only [Bool.and_eq_true, Bool.or_eq_true, decide_eq_true_eq, and_assoc]
theorem head_iff (op col k n : Int) (m : Nat) : headR op col k n m = true ↔ (0 ≤ op ∧ op ≤ 10 ∧ manyR op m = true ∧ (0 ≤ k ∧ k < 3 ∧ (k = 0 ∨ n = 0)) ∧ 0 ≤ col ∧ col ≤ 15 ∧ (op = 1 ∨ col = 0) ∧ (op = 0 ∨ (k = 0 ∧ n = 0))) := by
  show ((decide (0 ≤ op) && decide (op ≤ 10) && manyR op m && (decide (0 ≤ k) && decide (k < 3) && (decide (k = 0) || decide (n = 0))) && decide (0 ≤ col) && decide (col ≤ 15) && (decide (op = 1) || decide (col = 0)) && (decide (op = 0) || (decide (k = 0) && decide (n = 0)))) = true) ↔ _
  simp only [Bool.and_eq_true, Bool.or_eq_true, decide_eq_true_eq, and_assoc]
theorem part_head (op col k n : Int) (l : List Ex) : (Ex.mk op col k n l).part = headR op col k n l.length := by
  rw [Bool.eq_iff_iff, part_iff, head_iff]
  by_cases hop : op < 0 ∨ 10 < op
  · constructor
    · intro h; omega
    · intro h; omega
  · have hc : op = 0 ∨ op = 1 ∨ op = 2 ∨ op = 3 ∨ op = 4 ∨ op = 5 ∨ op = 6 ∨ op = 7 ∨ op = 8 ∨ op = 9 ∨ op = 10 := by omega
    have key : (wayLo op ≤ l.length ∧ (l.length : Int) ≤ wayHi op) ↔ manyR op l.length = true := by
      rcases hc with rfl | rfl | rfl | rfl | rfl | rfl | rfl | rfl | rfl | rfl | rfl <;> simp [wayLo, wayHi, manyR] <;> omega
    rw [key]
    constructor
    · rintro ⟨h1, h2, h3, h4, h5⟩
      exact ⟨h1, by omega, h3, by omega, by omega, by omega, by omega, by omega⟩
    · rintro ⟨h1, h2, h3, h4, h5, h6, h7, h8⟩
      exact ⟨h1, by omega, h3, by omega, by omega⟩
mutual
theorem fine_R : ∀ e : Ex, fineR e = fineE e
  | .mk op col k n l => by rw [fineR, fineE, part_head, fine_RL l]
theorem fine_RL : ∀ l : List Ex, fineRL l = fineL l
  | [] => rfl
  | x :: l => by rw [fineRL, fineL, fine_R x, fine_RL l]
end
theorem mayR_eq (e : Ex) : e.mayR = e.may := by
  rw [Ex.mayR, may_eq, fine_R]
  have := (partsR_spec e 1 (by omega) (by omega)).2.1
  have h : decide (partsR e 1 ≤ 30) = (decide (cnt e ≤ 30) && decide (hgt e ≤ 6)) := by
    rw [Bool.eq_iff_iff, Bool.and_eq_true, decide_eq_true_eq, decide_eq_true_eq, decide_eq_true_eq, this]
    omega
  rw [h]
  cases fineE e <;> cases decide (cnt e ≤ 30) <;> cases decide (hgt e ≤ 6) <;> rfl

/-! ### Columns -/
mutual
theorem has_cols (c : Int) : ∀ e : Ex, hasE c e = (colsOf e).contains c
  | .mk op col k n l => by
    rw [hasE, colsOf, List.contains_append, has_colsL c l]
    by_cases h : op = 1
    · subst h
      simp only [if_true, decide_true, Bool.true_and, List.contains_cons, List.contains_nil, Bool.or_false]
      by_cases h2 : col = c
      · simp [h2]
      · have : (c == col) = false := by simp; omega
        simp [h2, this]
    · simp [h]
theorem has_colsL (c : Int) : ∀ l : List Ex, hasL c l = (colsOfL l).contains c
  | [] => by simp [hasL, colsOfL]
  | x :: l => by rw [hasL, colsOfL, List.contains_append, has_cols c x, has_colsL c l]
end
mutual
theorem cols_range : ∀ e : Ex, fineE e = true → ∀ c ∈ colsOf e, 0 ≤ c ∧ c ≤ 15
  | .mk op col k n l, hf, c, hc => by
    rw [fineE, Bool.and_eq_true, part_head, headR] at hf
    rw [colsOf, List.mem_append] at hc
    rcases hc with hc | hc
    · simp only [Bool.and_eq_true, decide_eq_true_eq] at hf
      split at hc
      · rw [List.mem_singleton] at hc
        subst hc
        exact ⟨hf.1.1.1.1.2, hf.1.1.1.2⟩
      · simp at hc
    · exact cols_rangeL l hf.2 c hc
theorem cols_rangeL : ∀ l : List Ex, fineL l = true → ∀ c ∈ colsOfL l, 0 ≤ c ∧ c ≤ 15
  | [], _, c, hc => by simp [colsOfL] at hc
  | x :: l, hf, c, hc => by
    rw [fineL, Bool.and_eq_true] at hf
    rw [colsOfL, List.mem_append] at hc
    rcases hc with hc | hc
    · exact cols_range x hf.1 c hc
    · exact cols_rangeL l hf.2 c hc
end
theorem upto_mem (n : Nat) (c : Int) : c ∈ upto n ↔ 0 ≤ c ∧ c < n := by
  simp only [upto, List.mem_map, List.mem_range]
  constructor
  · rintro ⟨i, hi, rfl⟩
    exact ⟨by simp, by simpa using hi⟩
  · rintro ⟨h1, h2⟩
    exact ⟨c.toNat, by omega, by simp; omega⟩
theorem upto_pw (n : Nat) : (upto n).Pairwise (· < ·) := by
  rw [upto, List.pairwise_map]
  exact List.pairwise_lt_range.imp fun h => by simpa using h
theorem colsR_eq (e : Ex) : e.colsR = e.cols := by
  rw [Ex.colsR, mayR_eq, cols_eq]
  by_cases h : e.may = true
  · rw [if_pos h, if_pos h]
    have hf : fineE e = true := by
      rw [may_eq] at h
      simp only [Bool.and_eq_true] at h
      exact h.1.1
    refine pw_ext ((upto_pw 16).filter _) (uniq_pw (colsOf e)) fun c => ?_
    show c ∈ hasUpto e 16 ↔ c ∈ uniq (colsOf e)
    rw [uniq_mem, hasUpto, List.mem_filter, upto_mem, has_cols, List.contains_iff_mem]
    constructor
    · exact fun h => h.2
    · intro hc
      have := cols_range e hf c hc
      exact ⟨by omega, hc⟩
  · rw [if_neg h, if_neg h]
end Go.Sim.Tryz
