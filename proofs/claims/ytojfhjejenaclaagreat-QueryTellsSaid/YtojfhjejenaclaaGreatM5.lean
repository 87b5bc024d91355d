/- What the row rests on, part 5. Conditions: none. -/
import Derived.Test.YtojfhjejenaclaaGreatM4
set_option linter.unusedSimpArgs false
set_option linter.unusedVariables false
set_option maxRecDepth 100000
namespace Go.Sim.Tryz
open Go Go.Sim
attribute [local push_cast] aops_cons aops_nil aopG_none aopG_some aopP_eq aopE_eq aopC_eq aopE?_eq aopC?_eq aopB_eq aopB?_eq abr anilq gopP_eq gopL_eq ahead_cons ahead_nil ahdG_none ahdG_some ahdP_eq ahdN_eq ahdC_eq ahdN?_eq ahdS_eq ahdS?_eq astoreN ahdC?_eq ghdP_eq ghdC_eq ghdC?_eq ghdZ_f ghdZ_t ahdI_eq ahdI?_eq ghdN?_eq aim_nil aim_cons isIn_nil isIn_none isIn_cons aimm aheP_eq aheA_eq aheC_eq aheC?_eq aheI?_eq aheA?_eq gheP_eq gheC_eq gheC?_eq gheZ_eq aheG_none aheG_some aheff_cons aheff_nil aapp gro_rsl gro_lit gro_esl opt_some opt_none no_eq acondT_true acondT_false acondT_lit aw_skip aw_region aw_regionD aw_seq aw_cond aw_block aw_loop aw_exit aw_label aw_ret thn_normal thn_exit thn_ret inb_normal inb_exit inb_ret qret_ret qret_normal gcond apure aeff anew acallee ares aresT aresL aresC ares1 qfin_eq ev ofV evL gokL tget tput_some tput_none initT abin aint aun aload afaddr aiaddr afield aindex aextract apick pickv_lit Bool.or_false Bool.false_or Bool.or_true Bool.true_or imp_self aslice chunk abound aconv abuild afill splice alen aminmax abuiltin anil apart Value.oneCell' astore aappend srcEs abuildSlice asets isEq plus_obj plus_nxt plus_add plus_set plus_del IntKind.bits Option.map_some Option.map_none Option.bind_some Option.bind_none Option.join_some Option.getD_some Option.getD_none Option.toList Option.isSome_some List.getElem?_toArray List.getElem?_cons_zero List.getElem?_cons_succ List.getElem?_nil List.length_cons List.length_nil List.length_map List.head?_cons List.cons_append List.nil_append List.append_nil List.map_cons List.map_nil List.getD_cons_zero List.getD_cons_succ List.replicate_succ List.replicate_zero List.set_cons_zero List.set_cons_succ List.take_succ_cons List.take_zero List.drop_succ_cons List.drop_zero List.all_cons List.all_nil Nat.zero_add if_true if_false true_and and_true false_and and_false true_implies implies_true forall_const Bool.and_true Bool.true_and Bool.false_and Bool.and_false Bool.true_beq Bool.false_beq Bool.not_not beq_tt beq_ff Int.toNat_natCast decide_true decide_false Bool.not_true Bool.not_false Bool.true_eq_false Bool.false_eq_true false_implies exists_prop eq_self bne_self_eq_false beq_self_eq_true decide_eq_true_eq decide_eq_false_iff_not Bool.not_eq_true' Bool.not_eq_false' AV.int AV.bool AV.nilS ne_eq not_false_eq_true not_true_eq_false exists_eq_left exists_eq_left' Nat.lt_irrefl core_lit grd_lit acells_lit one_lit core_agg grd_agg acells_agg one_agg core_tup grd_tup acells_tup one_tup core_sl grd_sl acells_sl one_sl core_esl grd_esl acells_esl one_esl core_rsl grd_rsl acells_rsl one_rsl core_ptr grd_ptr acells_ptr one_ptr core_iptr grd_iptr acells_iptr one_iptr core_clo grd_clo acells_clo one_clo core_mp grd_mp acells_mp one_mp core_any grd_any acells_any one_any core_gv grd_gv fit_agg fit_lit fit_sl fit_esl fit_rsl fit_ptr fit_iptr fit_clo fit_mp retq_ret retq_normal set_nxt set_set plus_obj_set plus_set_set app_get0 app_get app_set0 app_set List.append_assoc List.length_append List.length_set Nat.lt_add_one Nat.add_lt_add_iff_right Nat.lt_add_right_iff_pos Nat.add_lt_add_iff_left List.mem_cons List.not_mem_nil or_false forall_eq forall_eq_or_imp lt_s0 lt_s1 lt_s2 lt_s3 lt_s4 lt_s5 lt_s6 lt_s7 lt_s8 pickv_t pickv_f or_nand or_nand2 imp_and_l SealT SealOs sealO_cells sl_lit sl_any sl_agg sl_tup sl_sl sl_rsl slO sl_esl sl_nil sl_eslesl sl_eslnil sl_rslrsl sl_eslrsl sl_nilrsl sl_ptr sl_iptr sl_ptri slP sl_clo sl_mp sl_gv sll_nil sll_cons slll_nil slll_cons shut_eq shutO Option.join_none Fn.func.injEq and_self sealL_self sealLL_self seal_self PureL PureLL Pure Nat.le_refl Nat.zero_le AV.lit.injEq Value.int.injEq Value.bool.injEq false_or or_true true_or Int.natCast_zero Int.ofNat_zero Int.cast_ofNat_Int Int.natCast_add Int.natCast_one Option.some.injEq piL_is sop_nil sop_cons sop_none sop_some sopO_some sop_new shut_pi shutL_nil shutL_cons exQ_exit exQ_ret exQ_normal Go.Sim.Tryz.ty_load1 Go.Sim.Tryz.ty_zero1 Go.Sim.Tryz.ty_load2 Go.Sim.Tryz.ty_zero2 Go.Sim.Tryz.ty_und2 Go.Sim.Tryz.ty_load3 Go.Sim.Tryz.ty_zero3 Go.Sim.Tryz.ty_und3 Go.Sim.Tryz.ty_load4 Go.Sim.Tryz.ty_zero4 Go.Sim.Tryz.ty_und4 Go.Sim.Tryz.ty_load5 Go.Sim.Tryz.ty_zero5 Go.Sim.Tryz.ty_und5 Go.Sim.Tryz.ty_load9 Go.Sim.Tryz.ty_zero9 Go.Sim.Tryz.ty_und9 Go.Sim.Tryz.ty_load22 Go.Sim.Tryz.ty_zero22 Go.Sim.Tryz.ty_el22 Go.Sim.Tryz.ty_zeroE22 Go.Sim.Tryz.ty_load24 Go.Sim.Tryz.ty_zero24 Go.Sim.Tryz.ty_fld24_0 Go.Sim.Tryz.ty_part24_0 Go.Sim.Tryz.ty_struct24 Go.Sim.Tryz.ty_load25 Go.Sim.Tryz.ty_zero25 Go.Sim.Tryz.ty_el25 Go.Sim.Tryz.ty_zeroE25 Go.Sim.Tryz.ty_load26 Go.Sim.Tryz.ty_zero26 Go.Sim.Tryz.ty_el26 Go.Sim.Tryz.ty_zeroE26 Go.Sim.Tryz.ty_load28 Go.Sim.Tryz.ty_zero28 Go.Sim.Tryz.ty_fld28_0 Go.Sim.Tryz.ty_part28_0 Go.Sim.Tryz.ty_fld28_1 Go.Sim.Tryz.ty_part28_1 Go.Sim.Tryz.ty_fld28_2 Go.Sim.Tryz.ty_part28_2 Go.Sim.Tryz.ty_fld28_3 Go.Sim.Tryz.ty_part28_3 Go.Sim.Tryz.ty_fld28_4 Go.Sim.Tryz.ty_part28_4 Go.Sim.Tryz.ty_fld28_5 Go.Sim.Tryz.ty_part28_5 Go.Sim.Tryz.ty_struct28 Go.Sim.Tryz.ty_load36 Go.Sim.Tryz.ty_zero36 Go.Sim.Tryz.ty_fld36_0 Go.Sim.Tryz.ty_part36_0 Go.Sim.Tryz.ty_fld36_1 Go.Sim.Tryz.ty_part36_1 Go.Sim.Tryz.ty_struct36 Go.Sim.Tryz.ty_load38 Go.Sim.Tryz.ty_zero38 Go.Sim.Tryz.ty_fld38_0 Go.Sim.Tryz.ty_part38_0 Go.Sim.Tryz.ty_fld38_1 Go.Sim.Tryz.ty_part38_1 Go.Sim.Tryz.ty_fld38_2 Go.Sim.Tryz.ty_part38_2 Go.Sim.Tryz.ty_fld38_3 Go.Sim.Tryz.ty_part38_3 Go.Sim.Tryz.ty_struct38 Go.Sim.Tryz.ty_load48 Go.Sim.Tryz.ty_zero48 Go.Sim.Tryz.ty_el48 Go.Sim.Tryz.ty_zeroE48 Go.Sim.Tryz.ty_load51 Go.Sim.Tryz.ty_zero51 Go.Sim.Tryz.ty_arr51 Go.Sim.Tryz.ty_part51_0 Go.Sim.Tryz.ty_part51_1 Go.Sim.Tryz.ty_struct51 Go.Sim.Tryz.ty_load59 Go.Sim.Tryz.ty_zero59 Go.Sim.Tryz.ty_fld59_0 Go.Sim.Tryz.ty_part59_0 Go.Sim.Tryz.ty_fld59_1 Go.Sim.Tryz.ty_part59_1 Go.Sim.Tryz.ty_struct59 Go.Sim.Tryz.ty_load60 Go.Sim.Tryz.ty_zero60 Go.Sim.Tryz.ty_el60 Go.Sim.Tryz.ty_zeroE60 Go.Sim.Tryz.ty_load62 Go.Sim.Tryz.ty_zero62 Go.Sim.Tryz.ty_fld62_0 Go.Sim.Tryz.ty_part62_0 Go.Sim.Tryz.ty_struct62 Go.Sim.Tryz.ty_load67 Go.Sim.Tryz.ty_zero67 Go.Sim.Tryz.ty_load68 Go.Sim.Tryz.ty_zero68 Go.Sim.Tryz.ty_load75 Go.Sim.Tryz.ty_zero75 Go.Sim.Tryz.ty_load76 Go.Sim.Tryz.ty_zero76 Go.Sim.Tryz.ty_und76 Go.Sim.Tryz.ty_load82 Go.Sim.Tryz.ty_zero82 Go.Sim.Tryz.ty_und82 Go.Sim.Tryz.ty_load85 Go.Sim.Tryz.ty_zero85 Go.Sim.Tryz.ty_und85 Go.Sim.Tryz.ty_load89 Go.Sim.Tryz.ty_zero89 Go.Sim.Tryz.ty_el89 Go.Sim.Tryz.ty_zeroE89 Go.Sim.Tryz.ty_load90 Go.Sim.Tryz.ty_zero90 Go.Sim.Tryz.ty_el90 Go.Sim.Tryz.ty_zeroE90 Go.Sim.Tryz.ty_load93 Go.Sim.Tryz.ty_zero93 Go.Sim.Tryz.ty_load98 Go.Sim.Tryz.ty_zero98 Go.Sim.Tryz.ty_fld98_0 Go.Sim.Tryz.ty_part98_0 Go.Sim.Tryz.ty_fld98_1 Go.Sim.Tryz.ty_part98_1 Go.Sim.Tryz.ty_fld98_2 Go.Sim.Tryz.ty_part98_2 Go.Sim.Tryz.ty_struct98 Go.Sim.Tryz.ty_load100 Go.Sim.Tryz.ty_zero100 Go.Sim.Tryz.ty_load106 Go.Sim.Tryz.ty_zero106 Go.Sim.Tryz.ty_load110 Go.Sim.Tryz.ty_zero110 Go.Sim.Tryz.ty_und110 Go.Sim.Tryz.ty_load118 Go.Sim.Tryz.ty_zero118 Go.Sim.Tryz.ty_und118 Go.Sim.Tryz.ty_load121 Go.Sim.Tryz.ty_zero121 Go.Sim.Tryz.ty_load128 Go.Sim.Tryz.ty_zero128 Go.Sim.Tryz.ty_und128 Go.Sim.Tryz.ty_load132 Go.Sim.Tryz.ty_zero132 encE_mk encE_take encE_len encV encE_one encEs_pure encE_pure

theorem plus_obj' (H : AH) (l : List (Option AObj)) (j : Nat) : (H.plus l).obj j = if j < H.nxt then H.obj j else (l[j - H.nxt]?).join := rfl
theorem plus_plus (H : AH) (l m : List (Option AObj)) : (H.plus l).plus m = H.plus (l ++ m) := by
  refine ah_ext (fun j => ?_) (by simp only [plus_nxt, List.length_append]; omega)
  rw [plus_obj' (H.plus l), plus_obj' H, plus_obj' H, plus_nxt]
  by_cases h1 : j < H.nxt
  · rw [if_pos (by omega), if_pos h1, if_pos h1]
  · rw [if_neg h1, if_neg h1]
    by_cases h2 : j < H.nxt + l.length
    · rw [if_pos h2, List.getElem?_append_left (by omega)]
    · rw [if_neg h2, List.getElem?_append_right (by omega)]
      congr 2
      omega
theorem clone_ok (zs : List Int) (hz : zs.length ≤ 1000000) (H : AH) : ACalls Go.Proofs.Tryz.prog 87 [.sl (rowI zs)] H
    (fun r H' => (r = .rsl (H.nxt + 1) 1 0 zs.length ∧ H' = H.plus [none, some (.cells 1 (rowI zs) 0)]) ∨ (zs = [] ∧ r = .nilS ∧ H' = H.plus [])) := by
  refine acalls_sc (rs := #[.tmp 2]) Go.Proofs.Tryz.func87 rfl rfl rfl mixed rfl (Nat.le_of_ble_eq_true rfl) fun hs _ => ?_
  simp -implicitDefEqProofs only [push_cast, Nat.reduceAdd, Nat.reduceSub, Nat.reduceMul, Nat.reduceLT, Nat.reduceLeDiff, Nat.reduceEqDiff, Nat.reduceBEq, reduceCtorEq, reduceIte, Int.reduceLE, Int.reduceLT, Int.reduceNeg, Int.reduceToNat]
  intro b hb
  simp -implicitDefEqProofs only [push_cast, Nat.reduceAdd, Nat.reduceSub, Nat.reduceMul, Nat.reduceLT, Nat.reduceLeDiff, Nat.reduceEqDiff, Nat.reduceBEq, reduceCtorEq, reduceIte, Int.reduceLE, Int.reduceLT, Int.reduceNeg, Int.reduceToNat]
  refine ⟨fun h => retk trivial (.inr ⟨?_, rfl, rfl⟩), fun h => ⟨⟨of_eq_true (rowI_one zs), fun e he => ?_, by omega⟩, retk trivial (.inl ⟨rfl, rfl⟩)⟩⟩
  · cases zs with
    | nil => rfl
    | cons z zs => rw [h] at hb; exact absurd (hb rfl) (by decide)
  · simp only [rowI, List.mem_map] at he
    obtain ⟨x, _, rfl⟩ := he
    rfl
theorem once_ok (zs : List Int) (hz : zs.length ≤ 1000000) : Quiet Go.Proofs.Tryz.prog 57 [.sl (rowI zs)] (.bool (decide ((uniq zs).length = zs.length))) := by
  refine quiet_of (rs := #[.tmp 2]) Go.Proofs.Tryz.func57 rfl rfl rfl mixed rfl rfl fun H hs => ?_
  simp -implicitDefEqProofs only [push_cast, Nat.reduceAdd, Nat.reduceSub, Nat.reduceMul, Nat.reduceLT, Nat.reduceLeDiff, Nat.reduceEqDiff, Nat.reduceBEq, reduceCtorEq, reduceIte, Int.reduceLE, Int.reduceLT, Int.reduceNeg, Int.reduceToNat]
  refine (clone_ok zs hz _).mono ?_
  rintro r H' (⟨rfl, rfl⟩ | ⟨rfl, rfl, rfl⟩)
  · simp -implicitDefEqProofs only [push_cast, Nat.reduceAdd, Nat.reduceSub, Nat.reduceMul, Nat.reduceLT, Nat.reduceLeDiff, Nat.reduceEqDiff, Nat.reduceBEq, reduceCtorEq, reduceIte, Int.reduceLE, Int.reduceLT, Int.reduceNeg, Int.reduceToNat, plus_plus, Nat.add_zero]
    have hrow : (H.plus [none, some (.cells 1 (rowI zs) 0)]).obj (H.nxt + 1) = some (.cells 1 (rowI zs) 0) := by rw [plus_obj]; rfl
    refine (sort_ok (i := H.nxt + 1) (zs := zs) (by omega) hrow).mono ?_
    rintro r H3 ⟨rfl, rfl⟩
    simp -implicitDefEqProofs only [push_cast, Nat.reduceAdd, Nat.reduceSub, Nat.reduceMul, Nat.reduceLT, Nat.reduceLeDiff, Nat.reduceEqDiff, Nat.reduceBEq, reduceCtorEq, reduceIte, Int.reduceLE, Int.reduceLT, Int.reduceNeg, Int.reduceToNat]
    have hcc := compact_ok (i := H.nxt + 1) (zs := zs.mergeSort fun x y => decide (x ≤ y)) (H := H.plus [none, some (.cells 1 (rowI (zs.mergeSort fun x y => decide (x ≤ y))) 0)]) (by rw [List.length_mergeSort]; omega) (by rw [plus_obj]; rfl)
    rw [List.length_mergeSort] at hcc
    refine hcc.mono ?_
    rintro r H3 ⟨rfl, rfl⟩
    simp -implicitDefEqProofs only [push_cast, Nat.reduceAdd, Nat.reduceSub, Nat.reduceMul, Nat.reduceLT, Nat.reduceLeDiff, Nat.reduceEqDiff, Nat.reduceBEq, reduceCtorEq, reduceIte, Int.reduceLE, Int.reduceLT, Int.reduceNeg, Int.reduceToNat]
    rw [decide_eq_decide, uniq]
    omega
  · simp -implicitDefEqProofs only [push_cast, Nat.reduceAdd, Nat.reduceSub, Nat.reduceMul, Nat.reduceLT, Nat.reduceLeDiff, Nat.reduceEqDiff, Nat.reduceBEq, reduceCtorEq, reduceIte, Int.reduceLE, Int.reduceLT, Int.reduceNeg, Int.reduceToNat, plus_plus, List.append_nil]
    refine (sortN_ok).mono ?_
    rintro r H3 ⟨rfl, rfl⟩
    simp -implicitDefEqProofs only [push_cast, Nat.reduceAdd, Nat.reduceSub, Nat.reduceMul, Nat.reduceLT, Nat.reduceLeDiff, Nat.reduceEqDiff, Nat.reduceBEq, reduceCtorEq, reduceIte, Int.reduceLE, Int.reduceLT, Int.reduceNeg, Int.reduceToNat]
    refine (compactN_ok).mono ?_
    rintro r H3 ⟨rfl, rfl⟩
    simp -implicitDefEqProofs only [push_cast, Nat.reduceAdd, Nat.reduceSub, Nat.reduceMul, Nat.reduceLT, Nat.reduceLeDiff, Nat.reduceEqDiff, Nat.reduceBEq, reduceCtorEq, reduceIte, Int.reduceLE, Int.reduceLT, Int.reduceNeg, Int.reduceToNat]
    simp [uniq, Lib.compact, Lib.compactUpTo]
end Go.Sim.Tryz
set_option linter.unusedSimpArgs false
set_option linter.unusedVariables false
set_option maxRecDepth 100000
namespace Go.Sim.Tryz
open Go Go.Sim
attribute [local push_cast] aops_cons aops_nil aopG_none aopG_some aopP_eq aopE_eq aopC_eq aopE?_eq aopC?_eq aopB_eq aopB?_eq abr anilq gopP_eq gopL_eq ahead_cons ahead_nil ahdG_none ahdG_some ahdP_eq ahdN_eq ahdC_eq ahdN?_eq ahdS_eq ahdS?_eq astoreN ahdC?_eq ghdP_eq ghdC_eq ghdC?_eq ghdZ_f ghdZ_t ahdI_eq ahdI?_eq ghdN?_eq aim_nil aim_cons isIn_nil isIn_none isIn_cons aimm aheP_eq aheA_eq aheC_eq aheC?_eq aheI?_eq aheA?_eq gheP_eq gheC_eq gheC?_eq gheZ_eq aheG_none aheG_some aheff_cons aheff_nil aapp gro_rsl gro_lit gro_esl opt_some opt_none no_eq acondT_true acondT_false acondT_lit aw_skip aw_region aw_regionD aw_seq aw_cond aw_block aw_loop aw_exit aw_label aw_ret thn_normal thn_exit thn_ret inb_normal inb_exit inb_ret qret_ret qret_normal gcond apure aeff anew acallee ares aresT aresL aresC ares1 qfin_eq ev ofV evL gokL tget tput_some tput_none initT abin aint aun aload afaddr aiaddr afield aindex aextract apick pickv_lit Bool.or_false Bool.false_or Bool.or_true Bool.true_or imp_self aslice chunk abound aconv abuild afill splice alen aminmax abuiltin anil apart Value.oneCell' astore aappend srcEs abuildSlice asets isEq plus_obj plus_nxt plus_add plus_set plus_del IntKind.bits Option.map_some Option.map_none Option.bind_some Option.bind_none Option.join_some Option.getD_some Option.getD_none Option.toList Option.isSome_some List.getElem?_toArray List.getElem?_cons_zero List.getElem?_cons_succ List.getElem?_nil List.length_cons List.length_nil List.length_map List.head?_cons List.cons_append List.nil_append List.append_nil List.map_cons List.map_nil List.getD_cons_zero List.getD_cons_succ List.replicate_succ List.replicate_zero List.set_cons_zero List.set_cons_succ List.take_succ_cons List.take_zero List.drop_succ_cons List.drop_zero List.all_cons List.all_nil Nat.zero_add if_true if_false true_and and_true false_and and_false true_implies implies_true forall_const Bool.and_true Bool.true_and Bool.false_and Bool.and_false Bool.true_beq Bool.false_beq Bool.not_not beq_tt beq_ff Int.toNat_natCast decide_true decide_false Bool.not_true Bool.not_false Bool.true_eq_false Bool.false_eq_true false_implies exists_prop eq_self bne_self_eq_false beq_self_eq_true decide_eq_true_eq decide_eq_false_iff_not Bool.not_eq_true' Bool.not_eq_false' AV.int AV.bool AV.nilS ne_eq not_false_eq_true not_true_eq_false exists_eq_left exists_eq_left' Nat.lt_irrefl core_lit grd_lit acells_lit one_lit core_agg grd_agg acells_agg one_agg core_tup grd_tup acells_tup one_tup core_sl grd_sl acells_sl one_sl core_esl grd_esl acells_esl one_esl core_rsl grd_rsl acells_rsl one_rsl core_ptr grd_ptr acells_ptr one_ptr core_iptr grd_iptr acells_iptr one_iptr core_clo grd_clo acells_clo one_clo core_mp grd_mp acells_mp one_mp core_any grd_any acells_any one_any core_gv grd_gv fit_agg fit_lit fit_sl fit_esl fit_rsl fit_ptr fit_iptr fit_clo fit_mp retq_ret retq_normal set_nxt set_set plus_obj_set plus_set_set app_get0 app_get app_set0 app_set List.append_assoc List.length_append List.length_set Nat.lt_add_one Nat.add_lt_add_iff_right Nat.lt_add_right_iff_pos Nat.add_lt_add_iff_left List.mem_cons List.not_mem_nil or_false forall_eq forall_eq_or_imp lt_s0 lt_s1 lt_s2 lt_s3 lt_s4 lt_s5 lt_s6 lt_s7 lt_s8 pickv_t pickv_f or_nand or_nand2 imp_and_l SealT SealOs sealO_cells sl_lit sl_any sl_agg sl_tup sl_sl sl_rsl slO sl_esl sl_nil sl_eslesl sl_eslnil sl_rslrsl sl_eslrsl sl_nilrsl sl_ptr sl_iptr sl_ptri slP sl_clo sl_mp sl_gv sll_nil sll_cons slll_nil slll_cons shut_eq shutO Option.join_none Fn.func.injEq and_self sealL_self sealLL_self seal_self PureL PureLL Pure Nat.le_refl Nat.zero_le AV.lit.injEq Value.int.injEq Value.bool.injEq false_or or_true true_or Int.natCast_zero Int.ofNat_zero Int.cast_ofNat_Int Int.natCast_add Int.natCast_one Option.some.injEq piL_is sop_nil sop_cons sop_none sop_some sopO_some sop_new shut_pi shutL_nil shutL_cons exQ_exit exQ_ret exQ_normal Go.Sim.Tryz.ty_load1 Go.Sim.Tryz.ty_zero1 Go.Sim.Tryz.ty_load2 Go.Sim.Tryz.ty_zero2 Go.Sim.Tryz.ty_und2 Go.Sim.Tryz.ty_load3 Go.Sim.Tryz.ty_zero3 Go.Sim.Tryz.ty_und3 Go.Sim.Tryz.ty_load4 Go.Sim.Tryz.ty_zero4 Go.Sim.Tryz.ty_und4 Go.Sim.Tryz.ty_load5 Go.Sim.Tryz.ty_zero5 Go.Sim.Tryz.ty_und5 Go.Sim.Tryz.ty_load9 Go.Sim.Tryz.ty_zero9 Go.Sim.Tryz.ty_und9 Go.Sim.Tryz.ty_load22 Go.Sim.Tryz.ty_zero22 Go.Sim.Tryz.ty_el22 Go.Sim.Tryz.ty_zeroE22 Go.Sim.Tryz.ty_load24 Go.Sim.Tryz.ty_zero24 Go.Sim.Tryz.ty_fld24_0 Go.Sim.Tryz.ty_part24_0 Go.Sim.Tryz.ty_struct24 Go.Sim.Tryz.ty_load25 Go.Sim.Tryz.ty_zero25 Go.Sim.Tryz.ty_el25 Go.Sim.Tryz.ty_zeroE25 Go.Sim.Tryz.ty_load26 Go.Sim.Tryz.ty_zero26 Go.Sim.Tryz.ty_el26 Go.Sim.Tryz.ty_zeroE26 Go.Sim.Tryz.ty_load28 Go.Sim.Tryz.ty_zero28 Go.Sim.Tryz.ty_fld28_0 Go.Sim.Tryz.ty_part28_0 Go.Sim.Tryz.ty_fld28_1 Go.Sim.Tryz.ty_part28_1 Go.Sim.Tryz.ty_fld28_2 Go.Sim.Tryz.ty_part28_2 Go.Sim.Tryz.ty_fld28_3 Go.Sim.Tryz.ty_part28_3 Go.Sim.Tryz.ty_fld28_4 Go.Sim.Tryz.ty_part28_4 Go.Sim.Tryz.ty_fld28_5 Go.Sim.Tryz.ty_part28_5 Go.Sim.Tryz.ty_struct28 Go.Sim.Tryz.ty_load36 Go.Sim.Tryz.ty_zero36 Go.Sim.Tryz.ty_fld36_0 Go.Sim.Tryz.ty_part36_0 Go.Sim.Tryz.ty_fld36_1 Go.Sim.Tryz.ty_part36_1 Go.Sim.Tryz.ty_struct36 Go.Sim.Tryz.ty_load38 Go.Sim.Tryz.ty_zero38 Go.Sim.Tryz.ty_fld38_0 Go.Sim.Tryz.ty_part38_0 Go.Sim.Tryz.ty_fld38_1 Go.Sim.Tryz.ty_part38_1 Go.Sim.Tryz.ty_fld38_2 Go.Sim.Tryz.ty_part38_2 Go.Sim.Tryz.ty_fld38_3 Go.Sim.Tryz.ty_part38_3 Go.Sim.Tryz.ty_struct38 Go.Sim.Tryz.ty_load48 Go.Sim.Tryz.ty_zero48 Go.Sim.Tryz.ty_el48 Go.Sim.Tryz.ty_zeroE48 Go.Sim.Tryz.ty_load51 Go.Sim.Tryz.ty_zero51 Go.Sim.Tryz.ty_arr51 Go.Sim.Tryz.ty_part51_0 Go.Sim.Tryz.ty_part51_1 Go.Sim.Tryz.ty_struct51 Go.Sim.Tryz.ty_load59 Go.Sim.Tryz.ty_zero59 Go.Sim.Tryz.ty_fld59_0 Go.Sim.Tryz.ty_part59_0 Go.Sim.Tryz.ty_fld59_1 Go.Sim.Tryz.ty_part59_1 Go.Sim.Tryz.ty_struct59 Go.Sim.Tryz.ty_load60 Go.Sim.Tryz.ty_zero60 Go.Sim.Tryz.ty_el60 Go.Sim.Tryz.ty_zeroE60 Go.Sim.Tryz.ty_load62 Go.Sim.Tryz.ty_zero62 Go.Sim.Tryz.ty_fld62_0 Go.Sim.Tryz.ty_part62_0 Go.Sim.Tryz.ty_struct62 Go.Sim.Tryz.ty_load67 Go.Sim.Tryz.ty_zero67 Go.Sim.Tryz.ty_load68 Go.Sim.Tryz.ty_zero68 Go.Sim.Tryz.ty_load75 Go.Sim.Tryz.ty_zero75 Go.Sim.Tryz.ty_load76 Go.Sim.Tryz.ty_zero76 Go.Sim.Tryz.ty_und76 Go.Sim.Tryz.ty_load82 Go.Sim.Tryz.ty_zero82 Go.Sim.Tryz.ty_und82 Go.Sim.Tryz.ty_load85 Go.Sim.Tryz.ty_zero85 Go.Sim.Tryz.ty_und85 Go.Sim.Tryz.ty_load89 Go.Sim.Tryz.ty_zero89 Go.Sim.Tryz.ty_el89 Go.Sim.Tryz.ty_zeroE89 Go.Sim.Tryz.ty_load90 Go.Sim.Tryz.ty_zero90 Go.Sim.Tryz.ty_el90 Go.Sim.Tryz.ty_zeroE90 Go.Sim.Tryz.ty_load93 Go.Sim.Tryz.ty_zero93 Go.Sim.Tryz.ty_load98 Go.Sim.Tryz.ty_zero98 Go.Sim.Tryz.ty_fld98_0 Go.Sim.Tryz.ty_part98_0 Go.Sim.Tryz.ty_fld98_1 Go.Sim.Tryz.ty_part98_1 Go.Sim.Tryz.ty_fld98_2 Go.Sim.Tryz.ty_part98_2 Go.Sim.Tryz.ty_struct98 Go.Sim.Tryz.ty_load100 Go.Sim.Tryz.ty_zero100 Go.Sim.Tryz.ty_load106 Go.Sim.Tryz.ty_zero106 Go.Sim.Tryz.ty_load110 Go.Sim.Tryz.ty_zero110 Go.Sim.Tryz.ty_und110 Go.Sim.Tryz.ty_load118 Go.Sim.Tryz.ty_zero118 Go.Sim.Tryz.ty_und118 Go.Sim.Tryz.ty_load121 Go.Sim.Tryz.ty_zero121 Go.Sim.Tryz.ty_load128 Go.Sim.Tryz.ty_zero128 Go.Sim.Tryz.ty_und128 Go.Sim.Tryz.ty_load132 Go.Sim.Tryz.ty_zero132 encE_mk encE_take encE_len encV encE_one encEs_pure encE_pure

theorem MayQ1_ok (c : List Df) (t : Int) : Quiet Go.Proofs.Tryz.prog 51 [.int t, .iptr [.sl (c.map encD)]] (.bool (!tabOk c t)) := by
  refine quiet_of (rs := #[.tmp 3]) Go.Proofs.Tryz.func51 rfl rfl rfl mixed rfl rfl fun H hs => ?_
  simp -implicitDefEqProofs only [push_cast, Nat.reduceAdd, Nat.reduceSub, Nat.reduceMul, Nat.reduceLT, Nat.reduceLeDiff, Nat.reduceEqDiff, Nat.reduceBEq, reduceCtorEq, reduceIte, Int.reduceLE, Int.reduceLT, Int.reduceNeg, Int.reduceToNat]
  (try simp -implicitDefEqProofs only [push_cast, Nat.reduceAdd, Nat.reduceSub, Nat.reduceMul, Nat.reduceLT, Nat.reduceLeDiff, Nat.reduceEqDiff, Nat.reduceBEq, reduceCtorEq, reduceIte, Int.reduceLE, Int.reduceLT, Int.reduceNeg, Int.reduceToNat])
  unfold tabOk
  rw [Bool.not_and, ← decide_not, ← decide_not]
  congr 1 <;> rw [decide_eq_decide] <;> omega
theorem MayQ_ok (c : List Df) (hcl : c.length ≤ 1000000) (q : Qy) (hq : q.Ok) : Quiet Go.Proofs.Tryz.prog 16 [.agg [.sl (c.map encD)], .agg (encQ q)] (.bool (q.may c)) := by
  refine quiet_of (rs := #[.tmp 4]) Go.Proofs.Tryz.func16 rfl rfl rfl mixed rfl rfl fun H hs => ?_
  simp -implicitDefEqProofs only [push_cast, Nat.reduceAdd, Nat.reduceSub, Nat.reduceMul, Nat.reduceLT, Nat.reduceLeDiff, Nat.reduceEqDiff, Nat.reduceBEq, reduceCtorEq, reduceIte, Int.reduceLE, Int.reduceLT, Int.reduceNeg, Int.reduceToNat, encQ]
  refine fzk H 0 1 [.agg [.sl (c.map encD)]] (by rfl) (by omega) (by simp) ?_ ?_
  · (try simp -implicitDefEqProofs only [push_cast, Nat.reduceAdd, Nat.reduceSub, Nat.reduceMul, Nat.reduceLT, Nat.reduceLeDiff, Nat.reduceEqDiff, Nat.reduceBEq, reduceCtorEq, reduceIte, Int.reduceLE, Int.reduceLT, Int.reduceNeg, Int.reduceToNat, encDs_pure])
  refine callq (dataMay_ok c hcl) ?_
  simp -implicitDefEqProofs only [push_cast, Nat.reduceAdd, Nat.reduceSub, Nat.reduceMul, Nat.reduceLT, Nat.reduceLeDiff, Nat.reduceEqDiff, Nat.reduceBEq, reduceCtorEq, reduceIte, Int.reduceLE, Int.reduceLT, Int.reduceNeg, Int.reduceToNat, encQ]
  refine gcalla [.sl (q.occ.map encI), .clo (.func 51) [] [.iptr [.sl (c.map encD)]]] (.bool (q.occ.any fun t => !tabOk c t)) (fun h => by simpa using h) (fun h => containsFuncI_ok q.occ (by have := hq.2.2.1; omega) _ [.iptr [.sl (c.map encD)]] (by simp [PureL, Pure, encDs_pure]) (fun t => !tabOk c t) fun t _ => MayQ1_ok c t) ?_ ?_
  · (try simp -implicitDefEqProofs only [push_cast, Nat.reduceAdd, Nat.reduceSub, Nat.reduceMul, Nat.reduceLT, Nat.reduceLeDiff, Nat.reduceEqDiff, Nat.reduceBEq, reduceCtorEq, reduceIte, Int.reduceLE, Int.reduceLT, Int.reduceNeg, Int.reduceToNat, encDs_pure, encIs_pure])
  simp -implicitDefEqProofs only [push_cast, Nat.reduceAdd, Nat.reduceSub, Nat.reduceMul, Nat.reduceLT, Nat.reduceLeDiff, Nat.reduceEqDiff, Nat.reduceBEq, reduceCtorEq, reduceIte, Int.reduceLE, Int.reduceLT, Int.reduceNeg, Int.reduceToNat, encQ]
  refine ⟨fun h => ?_, fun h => ?_⟩
  · have : q.may c = false := by
      simp only [Bool.or_eq_true, Bool.not_eq_true', decide_eq_true_eq, List.any_eq_true] at h
      unfold Qy.may
      rcases h with (((h | h) | h) | ⟨x, hx, h⟩) | h
      · simp [h]
      · simp [decide_eq_false (show ¬ 1 ≤ q.occ.length by omega)]
      · simp [decide_eq_false (show ¬ q.occ.length ≤ 4 by omega)]
      · have : q.occ.all (tabOk c) = false := by
          rw [List.all_eq_false]; exact ⟨x, hx, by simp [h]⟩
        simp [this]
      · simp [decide_eq_false (show ¬ q.p.length ≤ 6 by omega)]
    exact this.symm
  have hh : catMay c = true ∧ 1 ≤ q.occ.length ∧ q.occ.length ≤ 4 ∧ q.occ.all (tabOk c) = true ∧ q.p.length ≤ 6 := by
    simp only [Bool.or_eq_false_iff, Bool.not_eq_false', decide_eq_false_iff_not] at h
    obtain ⟨⟨⟨⟨h1, h2⟩, h3⟩, h4⟩, h5⟩ := h
    refine ⟨h1, by omega, by omega, ?_, by omega⟩
    rw [List.all_eq_true]
    intro x hx
    have := List.any_eq_false.1 h4 x hx
    simpa using this
  obtain ⟨hc, ho1, ho4, hot, hp6⟩ := hh
  have hall := all_ok c q hc hq.2.2.1 55 [] [] trivial trivial (fun _ => true) fun o _ => May2_ok o
  have hcols : (colsIn c q fun _ => true).length ≤ 16 := Nat.le_trans (List.length_filter_le _ _) (by rw [upto_len]; omega)
  have hmay : q.may c = (q.p.all (exIn (colsIn c q fun _ => true)) && endMay q (colsIn c q fun _ => true)) := by
    simp only [Qy.may, hc, hot, decide_eq_true ho1, decide_eq_true ho4, decide_eq_true hp6, Bool.true_and]
  rw [hmay]
  generalize (colsIn c q fun _ => true) = cols at hall hcols ⊢
  simp only [encQ] at hall
  refine callq hall ?_
  simp -implicitDefEqProofs only [push_cast, Nat.reduceAdd, Nat.reduceSub, Nat.reduceMul, Nat.reduceLT, Nat.reduceLeDiff, Nat.reduceEqDiff, Nat.reduceBEq, reduceCtorEq, reduceIte, Int.reduceLE, Int.reduceLT, Int.reduceNeg, Int.reduceToNat, encQ]
  refine loop_at hs (σ := Nat) (fun i => i ≤ q.p.length ∧ (q.p.take i).all (exIn cols) = true) (fun i => q.p.length - i)
    (fun i => [(45, .int i), (44, .int q.p.length), (43, .sl (q.p.map encE)), (6, .sl (cols.map encI)), (3, .ptr (H.nxt + 1) 6 0 0)]) (fun i => [none, some (.cells 6 [encQ q] 0)]) [some 0, some 1] 0 ⟨by omega, by simp⟩ rfl ?_ ?_ ?_
  · (try simp -implicitDefEqProofs only [push_cast, Nat.reduceAdd, Nat.reduceSub, Nat.reduceMul, Nat.reduceLT, Nat.reduceLeDiff, Nat.reduceEqDiff, Nat.reduceBEq, reduceCtorEq, reduceIte, Int.reduceLE, Int.reduceLT, Int.reduceNeg, Int.reduceToNat, encEs_pure, encIs_pure])
  · (try simp -implicitDefEqProofs only [push_cast, Nat.reduceAdd, Nat.reduceSub, Nat.reduceMul, Nat.reduceLT, Nat.reduceLeDiff, Nat.reduceEqDiff, Nat.reduceBEq, reduceCtorEq, reduceIte, Int.reduceLE, Int.reduceLT, Int.reduceNeg, Int.reduceToNat, encEs_pure, encIs_pure, encQ])
  rintro i ⟨hi2, hai⟩
  by_cases hi : i < q.p.length
  · have hi' : ((i : Int) < (q.p.length : Int)) = True := by simp; omega
    have hi0 : (0 ≤ (i : Int)) = True := by simp
    have hok := hq.2.1 _ (List.getElem_mem hi)
    simp -implicitDefEqProofs only [push_cast, Nat.reduceAdd, Nat.reduceSub, Nat.reduceMul, Nat.reduceLT, Nat.reduceLeDiff, Nat.reduceEqDiff, Nat.reduceBEq, reduceCtorEq, reduceIte, Int.reduceLE, Int.reduceLT, Int.reduceNeg, Int.reduceToNat, hi', hi0, encEs_get q.p i hi, encQ]
    refine callq (Cols_ok _ hok.1 hok.2) ?_
    simp -implicitDefEqProofs only [push_cast, Nat.reduceAdd, Nat.reduceSub, Nat.reduceMul, Nat.reduceLT, Nat.reduceLeDiff, Nat.reduceEqDiff, Nat.reduceBEq, reduceCtorEq, reduceIte, Int.reduceLE, Int.reduceLT, Int.reduceNeg, Int.reduceToNat, encQ]
    have hcl2 : (q.p[i].cols).length ≤ 1000000 := Nat.le_trans (cols_len _) hok.2
    refine gcallq' (.bool (within q.p[i].cols cols)) (fun h => by simpa using h) (fun _ => within_ok _ _ hcl2 (by omega)) ?_
    simp -implicitDefEqProofs only [push_cast, Nat.reduceAdd, Nat.reduceSub, Nat.reduceMul, Nat.reduceLT, Nat.reduceLeDiff, Nat.reduceEqDiff, Nat.reduceBEq, reduceCtorEq, reduceIte, Int.reduceLE, Int.reduceLT, Int.reduceNeg, Int.reduceToNat, encQ]
    have hex : exIn cols q.p[i] = !(decide ((q.p[i].cols.length : Int) = 0) || !within q.p[i].cols cols) := by
      unfold exIn
      rw [Bool.not_or, Bool.not_not]
      congr 2
      rw [decide_eq_decide]; omega
    refine ⟨fun h => ?_, fun h => ?_⟩
    · have : q.p.all (exIn cols) = false := by
        rw [List.all_eq_false]
        exact ⟨_, List.getElem_mem hi, by rw [hex, h]; simp⟩
      rw [this]
      rfl
    · rw [wrap64 (n := (i : Int) + 1) (by omega) (by omega)]
      refine next_at [some 0, some 1] (i + 1) ⟨by omega, ?_⟩ (by omega) rfl ?_ ?_
      · rw [List.take_succ_eq_append_getElem hi, List.all_append, hai, List.all_cons, hex, h]
        rfl
      · (try simp -implicitDefEqProofs only [push_cast, Nat.reduceAdd, Nat.reduceSub, Nat.reduceMul, Nat.reduceLT, Nat.reduceLeDiff, Nat.reduceEqDiff, Nat.reduceBEq, reduceCtorEq, reduceIte, Int.reduceLE, Int.reduceLT, Int.reduceNeg, Int.reduceToNat, encEs_pure, encIs_pure])
      · (try simp -implicitDefEqProofs only [push_cast, Nat.reduceAdd, Nat.reduceSub, Nat.reduceMul, Nat.reduceLT, Nat.reduceLeDiff, Nat.reduceEqDiff, Nat.reduceBEq, reduceCtorEq, reduceIte, Int.reduceLE, Int.reduceLT, Int.reduceNeg, Int.reduceToNat, encEs_pure, encIs_pure, encQ])
  · have hi' : ((i : Int) < (q.p.length : Int)) = False := by simp; omega
    obtain rfl : i = q.p.length := by omega
    rw [List.take_length] at hai
    rw [hai, Bool.true_and]
    by_cases hby : q.by_ = -1
    · simp -implicitDefEqProofs only [push_cast, Nat.reduceAdd, Nat.reduceSub, Nat.reduceMul, Nat.reduceLT, Nat.reduceLeDiff, Nat.reduceEqDiff, Nat.reduceBEq, reduceCtorEq, reduceIte, Int.reduceLE, Int.reduceLT, Int.reduceNeg, Int.reduceToNat, hi', encQ, hby]
      refine gcallq' (.bool (decide ((uniq q.out).length = q.out.length))) (fun h => by simpa using h) (fun _ => once_ok _ hq.2.2.2.2) ?_
      simp -implicitDefEqProofs only [push_cast, Nat.reduceAdd, Nat.reduceSub, Nat.reduceMul, Nat.reduceLT, Nat.reduceLeDiff, Nat.reduceEqDiff, Nat.reduceBEq, reduceCtorEq, reduceIte, Int.reduceLE, Int.reduceLT, Int.reduceNeg, Int.reduceToNat, encQ]
      refine gcallq' (.bool (within q.out cols)) (fun h => by simpa using h) (fun _ => within_ok _ _ hq.2.2.2.2 (by omega)) ?_
      simp -implicitDefEqProofs only [push_cast, Nat.reduceAdd, Nat.reduceSub, Nat.reduceMul, Nat.reduceLT, Nat.reduceLeDiff, Nat.reduceEqDiff, Nat.reduceBEq, reduceCtorEq, reduceIte, Int.reduceLE, Int.reduceLT, Int.reduceNeg, Int.reduceToNat, encQ]
      refine gcallq' (.bool (q.out.contains q.ord)) (fun h => by simpa using h) (fun _ => containsI_ok _ hq.2.2.2.2 _) ?_
      simp -implicitDefEqProofs only [push_cast, Nat.reduceAdd, Nat.reduceSub, Nat.reduceMul, Nat.reduceLT, Nat.reduceLeDiff, Nat.reduceEqDiff, Nat.reduceBEq, reduceCtorEq, reduceIte, Int.reduceLE, Int.reduceLT, Int.reduceNeg, Int.reduceToNat, encQ]
      refine ⟨fun h1 h2 => by rw [h1]; simpa using h2, ?_⟩
      have a1 : decide ((1 : Int) ≤ (q.out.length : Int)) = decide (1 ≤ q.out.length) := by rw [decide_eq_decide]; omega
      have a2 : decide ((q.out.length : Int) ≤ 8) = decide (q.out.length ≤ 8) := by rw [decide_eq_decide]; omega
      have a3 : decide ((q.sums.length : Int) = 0) = decide (q.sums.length = 0) := by rw [decide_eq_decide]; omega
      rw [a1, a2, a3, once_iff, endMay, if_pos hby]
    · have hby' : decide (q.by_ = -1) = false := by simpa using hby
      simp -implicitDefEqProofs only [push_cast, Nat.reduceAdd, Nat.reduceSub, Nat.reduceMul, Nat.reduceLT, Nat.reduceLeDiff, Nat.reduceEqDiff, Nat.reduceBEq, reduceCtorEq, reduceIte, Int.reduceLE, Int.reduceLT, Int.reduceNeg, Int.reduceToNat, hi', encQ, hby']
      refine fzk H 2 1 [.sl ([q.by_].map encI), .sl (cols.map encI)] (by rfl) (by omega) (by simp) ?_ ?_
      · (try simp -implicitDefEqProofs only [push_cast, Nat.reduceAdd, Nat.reduceSub, Nat.reduceMul, Nat.reduceLT, Nat.reduceLeDiff, Nat.reduceEqDiff, Nat.reduceBEq, reduceCtorEq, reduceIte, Int.reduceLE, Int.reduceLT, Int.reduceNeg, Int.reduceToNat, encIs_pure, encI])
      refine callq (within_ok [q.by_] cols (by simp) (by omega)) ?_
      simp -implicitDefEqProofs only [push_cast, Nat.reduceAdd, Nat.reduceSub, Nat.reduceMul, Nat.reduceLT, Nat.reduceLeDiff, Nat.reduceEqDiff, Nat.reduceBEq, reduceCtorEq, reduceIte, Int.reduceLE, Int.reduceLT, Int.reduceNeg, Int.reduceToNat, encQ]
      refine gcallq' (.bool (within q.sums cols)) (fun h => by simpa using h) (fun _ => within_ok _ _ hq.2.2.2.1 (by omega)) ?_
      simp -implicitDefEqProofs only [push_cast, Nat.reduceAdd, Nat.reduceSub, Nat.reduceMul, Nat.reduceLT, Nat.reduceLeDiff, Nat.reduceEqDiff, Nat.reduceBEq, reduceCtorEq, reduceIte, Int.reduceLE, Int.reduceLT, Int.reduceNeg, Int.reduceToNat, encQ]
      refine ⟨fun h1 h2 => by rw [h1]; simpa using h2, ?_⟩
      have a2 : decide ((q.sums.length : Int) ≤ 4) = decide (q.sums.length ≤ 4) := by rw [decide_eq_decide]; omega
      have a3 : decide ((q.out.length : Int) = 0) = decide (q.out.length = 0) := by rw [decide_eq_decide]; omega
      rw [a2, a3, endMay, if_neg hby]
/-- A set's columns. -/
def Qy.cols (q : Qy) (c : List Df) (s : Int) : List Int := if q.may c then colsIn c q (bitI s) else []
theorem colsIn_le (c : List Df) (q : Qy) (is : Nat → Bool) : (colsIn c q is).length ≤ 16 := Nat.le_trans (List.length_filter_le _ _) (by rw [upto_len]; omega)
theorem ColsQ_ok (c : List Df) (hcl : c.length ≤ 1000000) (q : Qy) (hq : q.Ok) (s : Int) : Quiet Go.Proofs.Tryz.prog 22 [.agg [.sl (c.map encD)], .agg (encQ q), .int s] (.sl ((q.cols c s).map encI)) := by
  have hm := MayQ_ok c hcl q hq
  refine quiet_of (rs := #[.tmp 6]) Go.Proofs.Tryz.func22 rfl rfl rfl mixed rfl rfl fun H hs => ?_
  simp only [encQ] at hm
  simp -implicitDefEqProofs only [push_cast, Nat.reduceAdd, Nat.reduceSub, Nat.reduceMul, Nat.reduceLT, Nat.reduceLeDiff, Nat.reduceEqDiff, Nat.reduceBEq, reduceCtorEq, reduceIte, Int.reduceLE, Int.reduceLT, Int.reduceNeg, Int.reduceToNat, encQ]
  refine callq hm ?_
  simp -implicitDefEqProofs only [push_cast, Nat.reduceAdd, Nat.reduceSub, Nat.reduceMul, Nat.reduceLT, Nat.reduceLeDiff, Nat.reduceEqDiff, Nat.reduceBEq, reduceCtorEq, reduceIte, Int.reduceLE, Int.reduceLT, Int.reduceNeg, Int.reduceToNat, encQ]
  refine ⟨fun h => by simp [Qy.cols, h], fun h => ?_⟩
  have hall := all_ok c q (may_split h).1 hq.2.2.1 66 [.int s] [] (by simp [PureL, Pure]) trivial (bitI s) fun o ho => setHas_ok s o (by omega)
  simp only [encQ] at hall
  refine callq hall ?_
  simp -implicitDefEqProofs only [push_cast, Nat.reduceAdd, Nat.reduceSub, Nat.reduceMul, Nat.reduceLT, Nat.reduceLeDiff, Nat.reduceEqDiff, Nat.reduceBEq, reduceCtorEq, reduceIte, Int.reduceLE, Int.reduceLT, Int.reduceNeg, Int.reduceToNat, encQ]
  (try simp -implicitDefEqProofs only [push_cast, Nat.reduceAdd, Nat.reduceSub, Nat.reduceMul, Nat.reduceLT, Nat.reduceLeDiff, Nat.reduceEqDiff, Nat.reduceBEq, reduceCtorEq, reduceIte, Int.reduceLE, Int.reduceLT, Int.reduceNeg, Int.reduceToNat])
  rw [Qy.cols, if_pos h]
  exact sealLL_pure _ _ _ (encIs_pure _)
end Go.Sim.Tryz
set_option linter.unusedSimpArgs false
set_option linter.unusedVariables false
set_option maxRecDepth 100000
namespace Go.Sim.Tryz
open Go Go.Sim
attribute [local push_cast] aops_cons aops_nil aopG_none aopG_some aopP_eq aopE_eq aopC_eq aopE?_eq aopC?_eq aopB_eq aopB?_eq abr anilq gopP_eq gopL_eq ahead_cons ahead_nil ahdG_none ahdG_some ahdP_eq ahdN_eq ahdC_eq ahdN?_eq ahdS_eq ahdS?_eq astoreN ahdC?_eq ghdP_eq ghdC_eq ghdC?_eq ghdZ_f ghdZ_t ahdI_eq ahdI?_eq ghdN?_eq aim_nil aim_cons isIn_nil isIn_none isIn_cons aimm aheP_eq aheA_eq aheC_eq aheC?_eq aheI?_eq aheA?_eq gheP_eq gheC_eq gheC?_eq gheZ_eq aheG_none aheG_some aheff_cons aheff_nil aapp gro_rsl gro_lit gro_esl opt_some opt_none no_eq acondT_true acondT_false acondT_lit aw_skip aw_region aw_regionD aw_seq aw_cond aw_block aw_loop aw_exit aw_label aw_ret thn_normal thn_exit thn_ret inb_normal inb_exit inb_ret qret_ret qret_normal gcond apure aeff anew acallee ares aresT aresL aresC ares1 qfin_eq ev ofV evL gokL tget tput_some tput_none initT abin aint aun aload afaddr aiaddr afield aindex aextract apick pickv_lit Bool.or_false Bool.false_or Bool.or_true Bool.true_or imp_self aslice chunk abound aconv abuild afill splice alen aminmax abuiltin anil apart Value.oneCell' astore aappend srcEs abuildSlice asets isEq plus_obj plus_nxt plus_add plus_set plus_del IntKind.bits Option.map_some Option.map_none Option.bind_some Option.bind_none Option.join_some Option.getD_some Option.getD_none Option.toList Option.isSome_some List.getElem?_toArray List.getElem?_cons_zero List.getElem?_cons_succ List.getElem?_nil List.length_cons List.length_nil List.length_map List.head?_cons List.cons_append List.nil_append List.append_nil List.map_cons List.map_nil List.getD_cons_zero List.getD_cons_succ List.replicate_succ List.replicate_zero List.set_cons_zero List.set_cons_succ List.take_succ_cons List.take_zero List.drop_succ_cons List.drop_zero List.all_cons List.all_nil Nat.zero_add if_true if_false true_and and_true false_and and_false true_implies implies_true forall_const Bool.and_true Bool.true_and Bool.false_and Bool.and_false Bool.true_beq Bool.false_beq Bool.not_not beq_tt beq_ff Int.toNat_natCast decide_true decide_false Bool.not_true Bool.not_false Bool.true_eq_false Bool.false_eq_true false_implies exists_prop eq_self bne_self_eq_false beq_self_eq_true decide_eq_true_eq decide_eq_false_iff_not Bool.not_eq_true' Bool.not_eq_false' AV.int AV.bool AV.nilS ne_eq not_false_eq_true not_true_eq_false exists_eq_left exists_eq_left' Nat.lt_irrefl core_lit grd_lit acells_lit one_lit core_agg grd_agg acells_agg one_agg core_tup grd_tup acells_tup one_tup core_sl grd_sl acells_sl one_sl core_esl grd_esl acells_esl one_esl core_rsl grd_rsl acells_rsl one_rsl core_ptr grd_ptr acells_ptr one_ptr core_iptr grd_iptr acells_iptr one_iptr core_clo grd_clo acells_clo one_clo core_mp grd_mp acells_mp one_mp core_any grd_any acells_any one_any core_gv grd_gv fit_agg fit_lit fit_sl fit_esl fit_rsl fit_ptr fit_iptr fit_clo fit_mp retq_ret retq_normal set_nxt set_set plus_obj_set plus_set_set app_get0 app_get app_set0 app_set List.append_assoc List.length_append List.length_set Nat.lt_add_one Nat.add_lt_add_iff_right Nat.lt_add_right_iff_pos Nat.add_lt_add_iff_left List.mem_cons List.not_mem_nil or_false forall_eq forall_eq_or_imp lt_s0 lt_s1 lt_s2 lt_s3 lt_s4 lt_s5 lt_s6 lt_s7 lt_s8 pickv_t pickv_f or_nand or_nand2 imp_and_l SealT SealOs sealO_cells sl_lit sl_any sl_agg sl_tup sl_sl sl_rsl slO sl_esl sl_nil sl_eslesl sl_eslnil sl_rslrsl sl_eslrsl sl_nilrsl sl_ptr sl_iptr sl_ptri slP sl_clo sl_mp sl_gv sll_nil sll_cons slll_nil slll_cons shut_eq shutO Option.join_none Fn.func.injEq and_self sealL_self sealLL_self seal_self PureL PureLL Pure Nat.le_refl Nat.zero_le AV.lit.injEq Value.int.injEq Value.bool.injEq false_or or_true true_or Int.natCast_zero Int.ofNat_zero Int.cast_ofNat_Int Int.natCast_add Int.natCast_one Option.some.injEq piL_is sop_nil sop_cons sop_none sop_some sopO_some sop_new shut_pi shutL_nil shutL_cons exQ_exit exQ_ret exQ_normal Go.Sim.Tryz.ty_load1 Go.Sim.Tryz.ty_zero1 Go.Sim.Tryz.ty_load2 Go.Sim.Tryz.ty_zero2 Go.Sim.Tryz.ty_und2 Go.Sim.Tryz.ty_load3 Go.Sim.Tryz.ty_zero3 Go.Sim.Tryz.ty_und3 Go.Sim.Tryz.ty_load4 Go.Sim.Tryz.ty_zero4 Go.Sim.Tryz.ty_und4 Go.Sim.Tryz.ty_load5 Go.Sim.Tryz.ty_zero5 Go.Sim.Tryz.ty_und5 Go.Sim.Tryz.ty_load9 Go.Sim.Tryz.ty_zero9 Go.Sim.Tryz.ty_und9 Go.Sim.Tryz.ty_load22 Go.Sim.Tryz.ty_zero22 Go.Sim.Tryz.ty_el22 Go.Sim.Tryz.ty_zeroE22 Go.Sim.Tryz.ty_load24 Go.Sim.Tryz.ty_zero24 Go.Sim.Tryz.ty_fld24_0 Go.Sim.Tryz.ty_part24_0 Go.Sim.Tryz.ty_struct24 Go.Sim.Tryz.ty_load25 Go.Sim.Tryz.ty_zero25 Go.Sim.Tryz.ty_el25 Go.Sim.Tryz.ty_zeroE25 Go.Sim.Tryz.ty_load26 Go.Sim.Tryz.ty_zero26 Go.Sim.Tryz.ty_el26 Go.Sim.Tryz.ty_zeroE26 Go.Sim.Tryz.ty_load28 Go.Sim.Tryz.ty_zero28 Go.Sim.Tryz.ty_fld28_0 Go.Sim.Tryz.ty_part28_0 Go.Sim.Tryz.ty_fld28_1 Go.Sim.Tryz.ty_part28_1 Go.Sim.Tryz.ty_fld28_2 Go.Sim.Tryz.ty_part28_2 Go.Sim.Tryz.ty_fld28_3 Go.Sim.Tryz.ty_part28_3 Go.Sim.Tryz.ty_fld28_4 Go.Sim.Tryz.ty_part28_4 Go.Sim.Tryz.ty_fld28_5 Go.Sim.Tryz.ty_part28_5 Go.Sim.Tryz.ty_struct28 Go.Sim.Tryz.ty_load36 Go.Sim.Tryz.ty_zero36 Go.Sim.Tryz.ty_fld36_0 Go.Sim.Tryz.ty_part36_0 Go.Sim.Tryz.ty_fld36_1 Go.Sim.Tryz.ty_part36_1 Go.Sim.Tryz.ty_struct36 Go.Sim.Tryz.ty_load38 Go.Sim.Tryz.ty_zero38 Go.Sim.Tryz.ty_fld38_0 Go.Sim.Tryz.ty_part38_0 Go.Sim.Tryz.ty_fld38_1 Go.Sim.Tryz.ty_part38_1 Go.Sim.Tryz.ty_fld38_2 Go.Sim.Tryz.ty_part38_2 Go.Sim.Tryz.ty_fld38_3 Go.Sim.Tryz.ty_part38_3 Go.Sim.Tryz.ty_struct38 Go.Sim.Tryz.ty_load48 Go.Sim.Tryz.ty_zero48 Go.Sim.Tryz.ty_el48 Go.Sim.Tryz.ty_zeroE48 Go.Sim.Tryz.ty_load51 Go.Sim.Tryz.ty_zero51 Go.Sim.Tryz.ty_arr51 Go.Sim.Tryz.ty_part51_0 Go.Sim.Tryz.ty_part51_1 Go.Sim.Tryz.ty_struct51 Go.Sim.Tryz.ty_load59 Go.Sim.Tryz.ty_zero59 Go.Sim.Tryz.ty_fld59_0 Go.Sim.Tryz.ty_part59_0 Go.Sim.Tryz.ty_fld59_1 Go.Sim.Tryz.ty_part59_1 Go.Sim.Tryz.ty_struct59 Go.Sim.Tryz.ty_load60 Go.Sim.Tryz.ty_zero60 Go.Sim.Tryz.ty_el60 Go.Sim.Tryz.ty_zeroE60 Go.Sim.Tryz.ty_load62 Go.Sim.Tryz.ty_zero62 Go.Sim.Tryz.ty_fld62_0 Go.Sim.Tryz.ty_part62_0 Go.Sim.Tryz.ty_struct62 Go.Sim.Tryz.ty_load67 Go.Sim.Tryz.ty_zero67 Go.Sim.Tryz.ty_load68 Go.Sim.Tryz.ty_zero68 Go.Sim.Tryz.ty_load75 Go.Sim.Tryz.ty_zero75 Go.Sim.Tryz.ty_load76 Go.Sim.Tryz.ty_zero76 Go.Sim.Tryz.ty_und76 Go.Sim.Tryz.ty_load82 Go.Sim.Tryz.ty_zero82 Go.Sim.Tryz.ty_und82 Go.Sim.Tryz.ty_load85 Go.Sim.Tryz.ty_zero85 Go.Sim.Tryz.ty_und85 Go.Sim.Tryz.ty_load89 Go.Sim.Tryz.ty_zero89 Go.Sim.Tryz.ty_el89 Go.Sim.Tryz.ty_zeroE89 Go.Sim.Tryz.ty_load90 Go.Sim.Tryz.ty_zero90 Go.Sim.Tryz.ty_el90 Go.Sim.Tryz.ty_zeroE90 Go.Sim.Tryz.ty_load93 Go.Sim.Tryz.ty_zero93 Go.Sim.Tryz.ty_load98 Go.Sim.Tryz.ty_zero98 Go.Sim.Tryz.ty_fld98_0 Go.Sim.Tryz.ty_part98_0 Go.Sim.Tryz.ty_fld98_1 Go.Sim.Tryz.ty_part98_1 Go.Sim.Tryz.ty_fld98_2 Go.Sim.Tryz.ty_part98_2 Go.Sim.Tryz.ty_struct98 Go.Sim.Tryz.ty_load100 Go.Sim.Tryz.ty_zero100 Go.Sim.Tryz.ty_load106 Go.Sim.Tryz.ty_zero106 Go.Sim.Tryz.ty_load110 Go.Sim.Tryz.ty_zero110 Go.Sim.Tryz.ty_und110 Go.Sim.Tryz.ty_load118 Go.Sim.Tryz.ty_zero118 Go.Sim.Tryz.ty_und118 Go.Sim.Tryz.ty_load121 Go.Sim.Tryz.ty_zero121 Go.Sim.Tryz.ty_load128 Go.Sim.Tryz.ty_zero128 Go.Sim.Tryz.ty_und128 Go.Sim.Tryz.ty_load132 Go.Sim.Tryz.ty_zero132 encE_mk encE_take encE_len encV encE_one encEs_pure encE_pure

def encP (p : Int × Int) : List AV := [.int p.1, .int p.2]
abbrev rowP (zs : List (Int × Int)) : List (List AV) := zs.map encP
theorem rowP_nil : rowP [] = [] := rfl
theorem rowP_pure (l : List (Int × Int)) : PureLL (rowP l) := by
  rw [pureLL_iff]
  simp only [rowP, List.mem_map]
  rintro _ ⟨x, _, rfl⟩
  simp [encP, PureL, Pure]
theorem rowP_one (l : List (Int × Int)) : (∀ e ∈ rowP l, e.length = 2) = True := by
  simp only [rowP, List.mem_map, eq_iff_iff, iff_true]
  rintro _ ⟨x, _, rfl⟩
  rfl
theorem take_rowP (l : List (Int × Int)) (n : Nat) (h : l.length ≤ n) : List.take n (rowP l) = rowP l := List.take_of_length_le (by simpa [rowP] using h)
theorem snocP (l : List (Int × Int)) (x y : Int) : rowP l ++ [[.lit (.int .i64 x), .lit (.int .i64 y)]] = rowP (l ++ [(x, y)]) := by rw [rowP, rowP, List.map_append]; rfl
theorem encPs_get (l : List (Int × Int)) (i : Nat) (h : i < l.length) : (l.map encP).getD i [] = encP l[i] := getD_map encP l [] i h
theorem holds_col (s x : Int) (h0 : 0 ≤ x) (h1 : x ≤ 15) : holdsI s (ofBits (ofC [x])) = bitC s x := by
  obtain ⟨k, hk⟩ : ∃ k : Nat, x / 4 = k := ⟨(x / 4).toNat, by omega⟩
  have hk4 : k < 4 := by omega
  have hb : ∀ i : Nat, i < 4 → bitI (ofBits (ofC [x])) i = decide (k = i) := fun i hi => by
    rw [ofBits_bit _ i hi, ofC, List.any_cons, List.any_nil, Bool.or_false, hk, decide_eq_decide]; omega
  rw [bitC, hk, Int.toNat_natCast, Bool.eq_iff_iff, holdsI_iff]
  constructor
  · intro h
    exact h k hk4 (by rw [hb k hk4]; simp)
  · intro h i hi hx
    rw [hb i hi, decide_eq_true_eq] at hx
    exact hx ▸ h
theorem pairsF_take (a b : Int) (P : List Ex) (l : List Int) (i : Nat) (h : i < l.length) : pairsF a b P (l.take (i + 1)) = pairsF a b P (l.take i) ++ pairOf a b (P.getD l[i].toNat exO) := by
  rw [List.take_succ_eq_append_getElem h, pairsF, pairsF, List.flatMap_append, List.flatMap_cons, List.flatMap_nil, List.append_nil]
theorem Pairs_ok (q : Qy) (hq : q.Ok) (a b : Int) : Quiet Go.Proofs.Tryz.prog 26 [.agg (encQ q), .int a, .int b] (.sl ((q.pairs a b).map encP)) := by
  have hn := New_ok q hq a b
  have hnl : (q.new a b).length ≤ 1000000 := Nat.le_trans (idxF_lt _ _) hq.1
  have hnm : ∀ i ∈ q.new a b, 0 ≤ i ∧ i < q.p.length := fun i hi => by rw [Qy.new, idxF_mem] at hi; omega
  rw [Qy.pairs]
  generalize q.new a b = l at hn hnl hnm ⊢
  simp only [encQ] at hn
  refine quiet_of (rs := #[.tmp 6]) Go.Proofs.Tryz.func26 rfl rfl rfl mixed rfl rfl fun H hs => ?_
  simp -implicitDefEqProofs only [push_cast, Nat.reduceAdd, Nat.reduceSub, Nat.reduceMul, Nat.reduceLT, Nat.reduceLeDiff, Nat.reduceEqDiff, Nat.reduceBEq, reduceCtorEq, reduceIte, Int.reduceLE, Int.reduceLT, Int.reduceNeg, Int.reduceToNat, encQ]
  refine callq hn ?_
  simp -implicitDefEqProofs only [push_cast, Nat.reduceAdd, Nat.reduceSub, Nat.reduceMul, Nat.reduceLT, Nat.reduceLeDiff, Nat.reduceEqDiff, Nat.reduceBEq, reduceCtorEq, reduceIte, Int.reduceLE, Int.reduceLT, Int.reduceNeg, Int.reduceToNat, encQ]
  refine loop_at hs (σ := Nat) (fun i => i ≤ l.length) (fun i => l.length - i)
    (fun i => [(20, .int i), (19, .int l.length), (18, .sl (l.map encI)), (3, .ptr (H.nxt + 0) 6 0 0), (1, .int a), (2, .int b), (7, .rsl (H.nxt + 1) 2 0 (pairsF a b q.p (l.take i)).length)]) (fun i => [some (.cells 6 [encQ q] 0), some (.cells 2 (rowP (pairsF a b q.p (l.take i))) 0)]) [some 0, none] 0 (by omega) rfl ?_ ?_ ?_
  · (try simp -implicitDefEqProofs only [push_cast, Nat.reduceAdd, Nat.reduceSub, Nat.reduceMul, Nat.reduceLT, Nat.reduceLeDiff, Nat.reduceEqDiff, Nat.reduceBEq, reduceCtorEq, reduceIte, Int.reduceLE, Int.reduceLT, Int.reduceNeg, Int.reduceToNat, rowP_nil, List.take_zero, encEs_pure, encIs_pure, encQ, pairsF, List.flatMap_nil])
  · (try simp -implicitDefEqProofs only [push_cast, Nat.reduceAdd, Nat.reduceSub, Nat.reduceMul, Nat.reduceLT, Nat.reduceLeDiff, Nat.reduceEqDiff, Nat.reduceBEq, reduceCtorEq, reduceIte, Int.reduceLE, Int.reduceLT, Int.reduceNeg, Int.reduceToNat, rowP_nil, List.take_zero, encEs_pure, encIs_pure, encQ, pairsF, List.flatMap_nil])
  intro i hi2
  by_cases hi : i < l.length
  · have hi' : ((i : Int) < (l.length : Int)) = True := by simp; omega
    have hi0 : (0 ≤ (i : Int)) = True := by simp
    obtain ⟨h0, h1⟩ := hnm _ (List.getElem_mem hi)
    obtain ⟨k, hk⟩ : ∃ k : Nat, l[i] = k := ⟨l[i].toNat, by omega⟩
    have hkl : k < q.p.length := by omega
    have hk0 : (0 ≤ (k : Int)) = True := by simp
    have hk' : ((k : Int) < (q.p.length : Int)) = True := by simp; omega
    have hok := hq.2.1 _ (List.getElem_mem hkl)
    have hge : q.p.getD l[i].toNat exO = q.p[k] := by
      rw [hk, Int.toNat_natCast, List.getD_eq_getElem?_getD, List.getElem?_eq_getElem hkl]; rfl
    have hps := pairsF_take a b q.p l i hi
    rw [hge] at hps
    simp -implicitDefEqProofs only [push_cast, Nat.reduceAdd, Nat.reduceSub, Nat.reduceMul, Nat.reduceLT, Nat.reduceLeDiff, Nat.reduceEqDiff, Nat.reduceBEq, reduceCtorEq, reduceIte, Int.reduceLE, Int.reduceLT, Int.reduceNeg, Int.reduceToNat, hi', hi0, encIs_get l i hi, encI, hk, hk0, hk', encEs_get q.p k hkl, encQ]
    refine callq (Pair_ok _ hok.1) ?_
    simp -implicitDefEqProofs only [push_cast, Nat.reduceAdd, Nat.reduceSub, Nat.reduceMul, Nat.reduceLT, Nat.reduceLeDiff, Nat.reduceEqDiff, Nat.reduceBEq, reduceCtorEq, reduceIte, Int.reduceLE, Int.reduceLT, Int.reduceNeg, Int.reduceToNat, encQ]
    have hpl : (pairsF a b q.p (l.take i)).length ≤ 1000000 := by
      refine Nat.le_trans (flat_len _ _ fun x _ => pairOf_len _ _ _) ?_
      rw [List.length_take]; omega
    refine ⟨fun his => ?_, fun his => ?_⟩
    · have hp0 : pairOf a b q.p[k] = [] := by rw [pairOf, if_neg (by simp [his])]
      rw [hp0, List.append_nil] at hps
      rw [wrap64 (n := (i : Int) + 1) (by omega) (by omega)]
      refine next_at [some 0, some 1] (i + 1) (by omega) (by omega) rfl ?_ ?_
      · (try simp -implicitDefEqProofs only [push_cast, Nat.reduceAdd, Nat.reduceSub, Nat.reduceMul, Nat.reduceLT, Nat.reduceLeDiff, Nat.reduceEqDiff, Nat.reduceBEq, reduceCtorEq, reduceIte, Int.reduceLE, Int.reduceLT, Int.reduceNeg, Int.reduceToNat, hps, encEs_pure, encIs_pure, encQ])
      · (try simp -implicitDefEqProofs only [push_cast, Nat.reduceAdd, Nat.reduceSub, Nat.reduceMul, Nat.reduceLT, Nat.reduceLeDiff, Nat.reduceEqDiff, Nat.reduceBEq, reduceCtorEq, reduceIte, Int.reduceLE, Int.reduceLT, Int.reduceNeg, Int.reduceToNat, hps, encEs_pure, encIs_pure, encQ, rowP_pure, rowP_one])
    · obtain ⟨_, _, hx, hy, _⟩ := pair_spec his
      have hpo : pairOf a b q.p[k] = if bitC a q.p[k].pair.1 && bitC b q.p[k].pair.2.1 then [(q.p[k].pair.1, q.p[k].pair.2.1)] else if bitC a q.p[k].pair.2.1 && bitC b q.p[k].pair.1 then [(q.p[k].pair.2.1, q.p[k].pair.1)] else [] := by rw [pairOf, if_pos his]
      generalize q.p[k].pair.1 = x at hx hpo ⊢
      generalize q.p[k].pair.2.1 = y at hy hpo ⊢
      generalize pairsF a b q.p (l.take i) = ps at hps hpl ⊢
      have hlx := holds_col a x hx.1 hx.2
      have hly := holds_col a y hy.1 hy.2
      have hmx := holds_col b x hx.1 hx.2
      have hmy := holds_col b y hy.1 hy.2
      have hof : ∀ z, 0 ≤ z → z ≤ 15 → Quiet Go.Proofs.Tryz.prog 65 [.sl [[.int z]]] (.int (ofBits (ofC [z]))) := fun z h0 h1 => ofSet_ok [z] (by simp) (by simpa using ⟨h0, h1⟩)
      obtain ⟨c1, hc1⟩ : ∃ c, c = (bitC a x && bitC b y) := ⟨_, rfl⟩
      obtain ⟨c2, hc2⟩ : ∃ c, c = (bitC a y && bitC b x) := ⟨_, rfl⟩
      rw [← hc1, ← hc2] at hpo
      refine loop_at hs (σ := Nat) (fun j => j ≤ 2 ∧ (1 ≤ j → c1 = false) ∧ (2 ≤ j → c2 = false)) (fun j => 2 - j)
        (fun j => [(44, .int j), (43, .int 2), (42, .rsl (H.nxt + 2) 2 0 2), (20, .int i), (19, .int l.length), (18, .sl (l.map encI)), (3, .ptr (H.nxt + 0) 6 0 0), (1, .int a), (2, .int b), (7, .rsl (H.nxt + 1) 2 0 ps.length)])
        (fun j => [some (.cells 6 [encQ q] 0), some (.cells 2 (rowP ps) 0), some (.cells 2 (rowP [(x, y), (y, x)]) 0)]) [some 0, some 1, some 2] 0 ⟨by omega, fun h => by omega, fun h => by omega⟩ rfl ?_ ?_ ?_
      · (try simp -implicitDefEqProofs only [push_cast, Nat.reduceAdd, Nat.reduceSub, Nat.reduceMul, Nat.reduceLT, Nat.reduceLeDiff, Nat.reduceEqDiff, Nat.reduceBEq, reduceCtorEq, reduceIte, Int.reduceLE, Int.reduceLT, Int.reduceNeg, Int.reduceToNat, encEs_pure, encIs_pure, encQ, encP, Int.reduceAdd])
      · (try simp -implicitDefEqProofs only [push_cast, Nat.reduceAdd, Nat.reduceSub, Nat.reduceMul, Nat.reduceLT, Nat.reduceLeDiff, Nat.reduceEqDiff, Nat.reduceBEq, reduceCtorEq, reduceIte, Int.reduceLE, Int.reduceLT, Int.reduceNeg, Int.reduceToNat, encEs_pure, encIs_pure, encQ, rowP_pure, rowP_one, encP])
      rintro j ⟨hj2, hj3, hj4⟩
      obtain rfl | rfl | rfl : j = 0 ∨ j = 1 ∨ j = 2 := by omega
      · simp -implicitDefEqProofs only [push_cast, Nat.reduceAdd, Nat.reduceSub, Nat.reduceMul, Nat.reduceLT, Nat.reduceLeDiff, Nat.reduceEqDiff, Nat.reduceBEq, reduceCtorEq, reduceIte, Int.reduceLE, Int.reduceLT, Int.reduceNeg, Int.reduceToNat, encQ, encP, Int.reduceAdd]
        refine ⟨by decide, callq (hof x hx.1 hx.2) ?_⟩
        simp -implicitDefEqProofs only [push_cast, Nat.reduceAdd, Nat.reduceSub, Nat.reduceMul, Nat.reduceLT, Nat.reduceLeDiff, Nat.reduceEqDiff, Nat.reduceBEq, reduceCtorEq, reduceIte, Int.reduceLE, Int.reduceLT, Int.reduceNeg, Int.reduceToNat, encQ, encP, Int.reduceAdd]
        refine callq (setHolds_ok a _ (ofBits_range _).1 (ofBits_range _).2) ?_
        cases hax : bitC a x
        · simp -implicitDefEqProofs only [push_cast, Nat.reduceAdd, Nat.reduceSub, Nat.reduceMul, Nat.reduceLT, Nat.reduceLeDiff, Nat.reduceEqDiff, Nat.reduceBEq, reduceCtorEq, reduceIte, Int.reduceLE, Int.reduceLT, Int.reduceNeg, Int.reduceToNat, encQ, encP, Int.reduceAdd, hlx, hax]
          refine gskip ?_
          simp -implicitDefEqProofs only [push_cast, Nat.reduceAdd, Nat.reduceSub, Nat.reduceMul, Nat.reduceLT, Nat.reduceLeDiff, Nat.reduceEqDiff, Nat.reduceBEq, reduceCtorEq, reduceIte, Int.reduceLE, Int.reduceLT, Int.reduceNeg, Int.reduceToNat, encQ, encP, Int.reduceAdd]
          refine gskip ?_
          simp -implicitDefEqProofs only [push_cast, Nat.reduceAdd, Nat.reduceSub, Nat.reduceMul, Nat.reduceLT, Nat.reduceLeDiff, Nat.reduceEqDiff, Nat.reduceBEq, reduceCtorEq, reduceIte, Int.reduceLE, Int.reduceLT, Int.reduceNeg, Int.reduceToNat, encQ, encP, Int.reduceAdd]
          refine gskip ?_
          simp -implicitDefEqProofs only [push_cast, Nat.reduceAdd, Nat.reduceSub, Nat.reduceMul, Nat.reduceLT, Nat.reduceLeDiff, Nat.reduceEqDiff, Nat.reduceBEq, reduceCtorEq, reduceIte, Int.reduceLE, Int.reduceLT, Int.reduceNeg, Int.reduceToNat, encQ, encP, Int.reduceAdd]
          rw [wrap64 (n := 1) (by omega) (by omega)]
          refine next_at [some 0, some 1, some 2] 1 ⟨by omega, fun _ => by rw [hc1, hax]; rfl, fun h => by omega⟩ (by omega) rfl ?_ ?_
          · (try simp -implicitDefEqProofs only [push_cast, Nat.reduceAdd, Nat.reduceSub, Nat.reduceMul, Nat.reduceLT, Nat.reduceLeDiff, Nat.reduceEqDiff, Nat.reduceBEq, reduceCtorEq, reduceIte, Int.reduceLE, Int.reduceLT, Int.reduceNeg, Int.reduceToNat, encEs_pure, encIs_pure, encQ, encP, Int.reduceAdd])
          · (try simp -implicitDefEqProofs only [push_cast, Nat.reduceAdd, Nat.reduceSub, Nat.reduceMul, Nat.reduceLT, Nat.reduceLeDiff, Nat.reduceEqDiff, Nat.reduceBEq, reduceCtorEq, reduceIte, Int.reduceLE, Int.reduceLT, Int.reduceNeg, Int.reduceToNat, encEs_pure, encIs_pure, encQ, rowP_pure, rowP_one, encP])
        · simp -implicitDefEqProofs only [push_cast, Nat.reduceAdd, Nat.reduceSub, Nat.reduceMul, Nat.reduceLT, Nat.reduceLeDiff, Nat.reduceEqDiff, Nat.reduceBEq, reduceCtorEq, reduceIte, Int.reduceLE, Int.reduceLT, Int.reduceNeg, Int.reduceToNat, encQ, encP, Int.reduceAdd, hlx, hax]
          refine gdo (by decide) ?_
          simp -implicitDefEqProofs only [push_cast, Nat.reduceAdd, Nat.reduceSub, Nat.reduceMul, Nat.reduceLT, Nat.reduceLeDiff, Nat.reduceEqDiff, Nat.reduceBEq, reduceCtorEq, reduceIte, Int.reduceLE, Int.reduceLT, Int.reduceNeg, Int.reduceToNat, encQ, encP, Int.reduceAdd]
          refine gcall trivial (callq (hof y hy.1 hy.2) ?_)
          simp -implicitDefEqProofs only [push_cast, Nat.reduceAdd, Nat.reduceSub, Nat.reduceMul, Nat.reduceLT, Nat.reduceLeDiff, Nat.reduceEqDiff, Nat.reduceBEq, reduceCtorEq, reduceIte, Int.reduceLE, Int.reduceLT, Int.reduceNeg, Int.reduceToNat, encQ, encP, Int.reduceAdd]
          refine gcall trivial (callq (setHolds_ok b _ (ofBits_range _).1 (ofBits_range _).2) ?_)
          simp -implicitDefEqProofs only [push_cast, Nat.reduceAdd, Nat.reduceSub, Nat.reduceMul, Nat.reduceLT, Nat.reduceLeDiff, Nat.reduceEqDiff, Nat.reduceBEq, reduceCtorEq, reduceIte, Int.reduceLE, Int.reduceLT, Int.reduceNeg, Int.reduceToNat, encQ, encP, Int.reduceAdd, hmy]
          refine ⟨fun h => ⟨by omega, ?_⟩, fun h => ?_⟩
          · have hpo1 : pairOf a b q.p[k] = [(x, y)] := by rw [hpo, hc1, hax, h]; rfl
            rw [hpo1] at hps
            rw [wrap64 (n := (i : Int) + 1) (by omega) (by omega)]
            refine next_at [some 0, some 5] (i + 1) (by omega) (by omega) rfl ?_ ?_
            · (try simp -implicitDefEqProofs only [push_cast, Nat.reduceAdd, Nat.reduceSub, Nat.reduceMul, Nat.reduceLT, Nat.reduceLeDiff, Nat.reduceEqDiff, Nat.reduceBEq, reduceCtorEq, reduceIte, Int.reduceLE, Int.reduceLT, Int.reduceNeg, Int.reduceToNat, hps, encEs_pure, encIs_pure, encQ])
            · (try simp -implicitDefEqProofs only [push_cast, Nat.reduceAdd, Nat.reduceSub, Nat.reduceMul, Nat.reduceLT, Nat.reduceLeDiff, Nat.reduceEqDiff, Nat.reduceBEq, reduceCtorEq, reduceIte, Int.reduceLE, Int.reduceLT, Int.reduceNeg, Int.reduceToNat, hps, encEs_pure, encIs_pure, encQ, take_rowP _ _ (Nat.le_refl _), snocP, rowP_pure, rowP_one])
          · rw [wrap64 (n := 1) (by omega) (by omega)]
            refine next_at [some 0, some 1, some 2] 1 ⟨by omega, fun _ => by rw [hc1, hax, h]; rfl, fun h => by omega⟩ (by omega) rfl ?_ ?_
            · (try simp -implicitDefEqProofs only [push_cast, Nat.reduceAdd, Nat.reduceSub, Nat.reduceMul, Nat.reduceLT, Nat.reduceLeDiff, Nat.reduceEqDiff, Nat.reduceBEq, reduceCtorEq, reduceIte, Int.reduceLE, Int.reduceLT, Int.reduceNeg, Int.reduceToNat, encEs_pure, encIs_pure, encQ, encP, Int.reduceAdd])
            · (try simp -implicitDefEqProofs only [push_cast, Nat.reduceAdd, Nat.reduceSub, Nat.reduceMul, Nat.reduceLT, Nat.reduceLeDiff, Nat.reduceEqDiff, Nat.reduceBEq, reduceCtorEq, reduceIte, Int.reduceLE, Int.reduceLT, Int.reduceNeg, Int.reduceToNat, encEs_pure, encIs_pure, encQ, rowP_pure, rowP_one, encP])
      · simp -implicitDefEqProofs only [push_cast, Nat.reduceAdd, Nat.reduceSub, Nat.reduceMul, Nat.reduceLT, Nat.reduceLeDiff, Nat.reduceEqDiff, Nat.reduceBEq, reduceCtorEq, reduceIte, Int.reduceLE, Int.reduceLT, Int.reduceNeg, Int.reduceToNat, encQ, encP, Int.reduceAdd]
        refine ⟨by decide, callq (hof y hy.1 hy.2) ?_⟩
        simp -implicitDefEqProofs only [push_cast, Nat.reduceAdd, Nat.reduceSub, Nat.reduceMul, Nat.reduceLT, Nat.reduceLeDiff, Nat.reduceEqDiff, Nat.reduceBEq, reduceCtorEq, reduceIte, Int.reduceLE, Int.reduceLT, Int.reduceNeg, Int.reduceToNat, encQ, encP, Int.reduceAdd]
        refine callq (setHolds_ok a _ (ofBits_range _).1 (ofBits_range _).2) ?_
        cases hax : bitC a y
        · simp -implicitDefEqProofs only [push_cast, Nat.reduceAdd, Nat.reduceSub, Nat.reduceMul, Nat.reduceLT, Nat.reduceLeDiff, Nat.reduceEqDiff, Nat.reduceBEq, reduceCtorEq, reduceIte, Int.reduceLE, Int.reduceLT, Int.reduceNeg, Int.reduceToNat, encQ, encP, Int.reduceAdd, hly, hax]
          refine gskip ?_
          simp -implicitDefEqProofs only [push_cast, Nat.reduceAdd, Nat.reduceSub, Nat.reduceMul, Nat.reduceLT, Nat.reduceLeDiff, Nat.reduceEqDiff, Nat.reduceBEq, reduceCtorEq, reduceIte, Int.reduceLE, Int.reduceLT, Int.reduceNeg, Int.reduceToNat, encQ, encP, Int.reduceAdd]
          refine gskip ?_
          simp -implicitDefEqProofs only [push_cast, Nat.reduceAdd, Nat.reduceSub, Nat.reduceMul, Nat.reduceLT, Nat.reduceLeDiff, Nat.reduceEqDiff, Nat.reduceBEq, reduceCtorEq, reduceIte, Int.reduceLE, Int.reduceLT, Int.reduceNeg, Int.reduceToNat, encQ, encP, Int.reduceAdd]
          refine gskip ?_
          simp -implicitDefEqProofs only [push_cast, Nat.reduceAdd, Nat.reduceSub, Nat.reduceMul, Nat.reduceLT, Nat.reduceLeDiff, Nat.reduceEqDiff, Nat.reduceBEq, reduceCtorEq, reduceIte, Int.reduceLE, Int.reduceLT, Int.reduceNeg, Int.reduceToNat, encQ, encP, Int.reduceAdd]
          rw [wrap64 (n := 2) (by omega) (by omega)]
          refine next_at [some 0, some 1, some 2] 2 ⟨by omega, fun _ => hj3 (by omega), fun _ => by rw [hc2, hax]; rfl⟩ (by omega) rfl ?_ ?_
          · (try simp -implicitDefEqProofs only [push_cast, Nat.reduceAdd, Nat.reduceSub, Nat.reduceMul, Nat.reduceLT, Nat.reduceLeDiff, Nat.reduceEqDiff, Nat.reduceBEq, reduceCtorEq, reduceIte, Int.reduceLE, Int.reduceLT, Int.reduceNeg, Int.reduceToNat, encEs_pure, encIs_pure, encQ, encP, Int.reduceAdd])
          · (try simp -implicitDefEqProofs only [push_cast, Nat.reduceAdd, Nat.reduceSub, Nat.reduceMul, Nat.reduceLT, Nat.reduceLeDiff, Nat.reduceEqDiff, Nat.reduceBEq, reduceCtorEq, reduceIte, Int.reduceLE, Int.reduceLT, Int.reduceNeg, Int.reduceToNat, encEs_pure, encIs_pure, encQ, rowP_pure, rowP_one, encP])
        · simp -implicitDefEqProofs only [push_cast, Nat.reduceAdd, Nat.reduceSub, Nat.reduceMul, Nat.reduceLT, Nat.reduceLeDiff, Nat.reduceEqDiff, Nat.reduceBEq, reduceCtorEq, reduceIte, Int.reduceLE, Int.reduceLT, Int.reduceNeg, Int.reduceToNat, encQ, encP, Int.reduceAdd, hly, hax]
          refine gdo (by decide) ?_
          simp -implicitDefEqProofs only [push_cast, Nat.reduceAdd, Nat.reduceSub, Nat.reduceMul, Nat.reduceLT, Nat.reduceLeDiff, Nat.reduceEqDiff, Nat.reduceBEq, reduceCtorEq, reduceIte, Int.reduceLE, Int.reduceLT, Int.reduceNeg, Int.reduceToNat, encQ, encP, Int.reduceAdd]
          refine gcall trivial (callq (hof x hx.1 hx.2) ?_)
          simp -implicitDefEqProofs only [push_cast, Nat.reduceAdd, Nat.reduceSub, Nat.reduceMul, Nat.reduceLT, Nat.reduceLeDiff, Nat.reduceEqDiff, Nat.reduceBEq, reduceCtorEq, reduceIte, Int.reduceLE, Int.reduceLT, Int.reduceNeg, Int.reduceToNat, encQ, encP, Int.reduceAdd]
          refine gcall trivial (callq (setHolds_ok b _ (ofBits_range _).1 (ofBits_range _).2) ?_)
          simp -implicitDefEqProofs only [push_cast, Nat.reduceAdd, Nat.reduceSub, Nat.reduceMul, Nat.reduceLT, Nat.reduceLeDiff, Nat.reduceEqDiff, Nat.reduceBEq, reduceCtorEq, reduceIte, Int.reduceLE, Int.reduceLT, Int.reduceNeg, Int.reduceToNat, encQ, encP, Int.reduceAdd, hmx]
          refine ⟨fun h => ⟨by omega, ?_⟩, fun h => ?_⟩
          · have hpo1 : pairOf a b q.p[k] = [(y, x)] := by rw [hpo, hj3 (by omega), hc2, hax, h]; rfl
            rw [hpo1] at hps
            rw [wrap64 (n := (i : Int) + 1) (by omega) (by omega)]
            refine next_at [some 0, some 5] (i + 1) (by omega) (by omega) rfl ?_ ?_
            · (try simp -implicitDefEqProofs only [push_cast, Nat.reduceAdd, Nat.reduceSub, Nat.reduceMul, Nat.reduceLT, Nat.reduceLeDiff, Nat.reduceEqDiff, Nat.reduceBEq, reduceCtorEq, reduceIte, Int.reduceLE, Int.reduceLT, Int.reduceNeg, Int.reduceToNat, hps, encEs_pure, encIs_pure, encQ])
            · (try simp -implicitDefEqProofs only [push_cast, Nat.reduceAdd, Nat.reduceSub, Nat.reduceMul, Nat.reduceLT, Nat.reduceLeDiff, Nat.reduceEqDiff, Nat.reduceBEq, reduceCtorEq, reduceIte, Int.reduceLE, Int.reduceLT, Int.reduceNeg, Int.reduceToNat, hps, encEs_pure, encIs_pure, encQ, take_rowP _ _ (Nat.le_refl _), snocP, rowP_pure, rowP_one])
          · rw [wrap64 (n := 2) (by omega) (by omega)]
            refine next_at [some 0, some 1, some 2] 2 ⟨by omega, fun _ => hj3 (by omega), fun _ => by rw [hc2, hax, h]; rfl⟩ (by omega) rfl ?_ ?_
            · (try simp -implicitDefEqProofs only [push_cast, Nat.reduceAdd, Nat.reduceSub, Nat.reduceMul, Nat.reduceLT, Nat.reduceLeDiff, Nat.reduceEqDiff, Nat.reduceBEq, reduceCtorEq, reduceIte, Int.reduceLE, Int.reduceLT, Int.reduceNeg, Int.reduceToNat, encEs_pure, encIs_pure, encQ, encP, Int.reduceAdd])
            · (try simp -implicitDefEqProofs only [push_cast, Nat.reduceAdd, Nat.reduceSub, Nat.reduceMul, Nat.reduceLT, Nat.reduceLeDiff, Nat.reduceEqDiff, Nat.reduceBEq, reduceCtorEq, reduceIte, Int.reduceLE, Int.reduceLT, Int.reduceNeg, Int.reduceToNat, encEs_pure, encIs_pure, encQ, rowP_pure, rowP_one, encP])
      · simp -implicitDefEqProofs only [push_cast, Nat.reduceAdd, Nat.reduceSub, Nat.reduceMul, Nat.reduceLT, Nat.reduceLeDiff, Nat.reduceEqDiff, Nat.reduceBEq, reduceCtorEq, reduceIte, Int.reduceLE, Int.reduceLT, Int.reduceNeg, Int.reduceToNat, encQ, encP, Int.reduceAdd]
        rw [hj3 (by omega), hj4 (by omega)] at hpo
        simp only [Bool.false_eq_true, if_false] at hpo
        rw [hpo, List.append_nil] at hps
        rw [wrap64 (n := (i : Int) + 1) (by omega) (by omega)]
        refine next_at [some 0, some 1] (i + 1) (by omega) (by omega) rfl ?_ ?_
        · (try simp -implicitDefEqProofs only [push_cast, Nat.reduceAdd, Nat.reduceSub, Nat.reduceMul, Nat.reduceLT, Nat.reduceLeDiff, Nat.reduceEqDiff, Nat.reduceBEq, reduceCtorEq, reduceIte, Int.reduceLE, Int.reduceLT, Int.reduceNeg, Int.reduceToNat, hps, encEs_pure, encIs_pure, encQ])
        · (try simp -implicitDefEqProofs only [push_cast, Nat.reduceAdd, Nat.reduceSub, Nat.reduceMul, Nat.reduceLT, Nat.reduceLeDiff, Nat.reduceEqDiff, Nat.reduceBEq, reduceCtorEq, reduceIte, Int.reduceLE, Int.reduceLT, Int.reduceNeg, Int.reduceToNat, hps, encEs_pure, encIs_pure, encQ, rowP_pure, rowP_one])
  · have hi' : ((i : Int) < (l.length : Int)) = False := by simp; omega
    have h5 : l.take i = l := List.take_of_length_le (by omega)
    simp -implicitDefEqProofs only [push_cast, Nat.reduceAdd, Nat.reduceSub, Nat.reduceMul, Nat.reduceLT, Nat.reduceLeDiff, Nat.reduceEqDiff, Nat.reduceBEq, reduceCtorEq, reduceIte, Int.reduceLE, Int.reduceLT, Int.reduceNeg, Int.reduceToNat, hi', h5]
    (try simp -implicitDefEqProofs only [push_cast, Nat.reduceAdd, Nat.reduceSub, Nat.reduceMul, Nat.reduceLT, Nat.reduceLeDiff, Nat.reduceEqDiff, Nat.reduceBEq, reduceCtorEq, reduceIte, Int.reduceLE, Int.reduceLT, Int.reduceNeg, Int.reduceToNat])
    rw [take_rowP _ _ (Nat.le_refl _)]
    exact sealLL_pure _ _ _ (rowP_pure _)
end Go.Sim.Tryz
set_option linter.unusedSimpArgs false
set_option linter.unusedVariables false
set_option maxRecDepth 100000
namespace Go.Sim.Tryz
open Go Go.Sim
attribute [local push_cast] aops_cons aops_nil aopG_none aopG_some aopP_eq aopE_eq aopC_eq aopE?_eq aopC?_eq aopB_eq aopB?_eq abr anilq gopP_eq gopL_eq ahead_cons ahead_nil ahdG_none ahdG_some ahdP_eq ahdN_eq ahdC_eq ahdN?_eq ahdS_eq ahdS?_eq astoreN ahdC?_eq ghdP_eq ghdC_eq ghdC?_eq ghdZ_f ghdZ_t ahdI_eq ahdI?_eq ghdN?_eq aim_nil aim_cons isIn_nil isIn_none isIn_cons aimm aheP_eq aheA_eq aheC_eq aheC?_eq aheI?_eq aheA?_eq gheP_eq gheC_eq gheC?_eq gheZ_eq aheG_none aheG_some aheff_cons aheff_nil aapp gro_rsl gro_lit gro_esl opt_some opt_none no_eq acondT_true acondT_false acondT_lit aw_skip aw_region aw_regionD aw_seq aw_cond aw_block aw_loop aw_exit aw_label aw_ret thn_normal thn_exit thn_ret inb_normal inb_exit inb_ret qret_ret qret_normal gcond apure aeff anew acallee ares aresT aresL aresC ares1 qfin_eq ev ofV evL gokL tget tput_some tput_none initT abin aint aun aload afaddr aiaddr afield aindex aextract apick pickv_lit Bool.or_false Bool.false_or Bool.or_true Bool.true_or imp_self aslice chunk abound aconv abuild afill splice alen aminmax abuiltin anil apart Value.oneCell' astore aappend srcEs abuildSlice asets isEq plus_obj plus_nxt plus_add plus_set plus_del IntKind.bits Option.map_some Option.map_none Option.bind_some Option.bind_none Option.join_some Option.getD_some Option.getD_none Option.toList Option.isSome_some List.getElem?_toArray List.getElem?_cons_zero List.getElem?_cons_succ List.getElem?_nil List.length_cons List.length_nil List.length_map List.head?_cons List.cons_append List.nil_append List.append_nil List.map_cons List.map_nil List.getD_cons_zero List.getD_cons_succ List.replicate_succ List.replicate_zero List.set_cons_zero List.set_cons_succ List.take_succ_cons List.take_zero List.drop_succ_cons List.drop_zero List.all_cons List.all_nil Nat.zero_add if_true if_false true_and and_true false_and and_false true_implies implies_true forall_const Bool.and_true Bool.true_and Bool.false_and Bool.and_false Bool.true_beq Bool.false_beq Bool.not_not beq_tt beq_ff Int.toNat_natCast decide_true decide_false Bool.not_true Bool.not_false Bool.true_eq_false Bool.false_eq_true false_implies exists_prop eq_self bne_self_eq_false beq_self_eq_true decide_eq_true_eq decide_eq_false_iff_not Bool.not_eq_true' Bool.not_eq_false' AV.int AV.bool AV.nilS ne_eq not_false_eq_true not_true_eq_false exists_eq_left exists_eq_left' Nat.lt_irrefl core_lit grd_lit acells_lit one_lit core_agg grd_agg acells_agg one_agg core_tup grd_tup acells_tup one_tup core_sl grd_sl acells_sl one_sl core_esl grd_esl acells_esl one_esl core_rsl grd_rsl acells_rsl one_rsl core_ptr grd_ptr acells_ptr one_ptr core_iptr grd_iptr acells_iptr one_iptr core_clo grd_clo acells_clo one_clo core_mp grd_mp acells_mp one_mp core_any grd_any acells_any one_any core_gv grd_gv fit_agg fit_lit fit_sl fit_esl fit_rsl fit_ptr fit_iptr fit_clo fit_mp retq_ret retq_normal set_nxt set_set plus_obj_set plus_set_set app_get0 app_get app_set0 app_set List.append_assoc List.length_append List.length_set Nat.lt_add_one Nat.add_lt_add_iff_right Nat.lt_add_right_iff_pos Nat.add_lt_add_iff_left List.mem_cons List.not_mem_nil or_false forall_eq forall_eq_or_imp lt_s0 lt_s1 lt_s2 lt_s3 lt_s4 lt_s5 lt_s6 lt_s7 lt_s8 pickv_t pickv_f or_nand or_nand2 imp_and_l SealT SealOs sealO_cells sl_lit sl_any sl_agg sl_tup sl_sl sl_rsl slO sl_esl sl_nil sl_eslesl sl_eslnil sl_rslrsl sl_eslrsl sl_nilrsl sl_ptr sl_iptr sl_ptri slP sl_clo sl_mp sl_gv sll_nil sll_cons slll_nil slll_cons shut_eq shutO Option.join_none Fn.func.injEq and_self sealL_self sealLL_self seal_self PureL PureLL Pure Nat.le_refl Nat.zero_le AV.lit.injEq Value.int.injEq Value.bool.injEq false_or or_true true_or Int.natCast_zero Int.ofNat_zero Int.cast_ofNat_Int Int.natCast_add Int.natCast_one Option.some.injEq piL_is sop_nil sop_cons sop_none sop_some sopO_some sop_new shut_pi shutL_nil shutL_cons exQ_exit exQ_ret exQ_normal Go.Sim.Tryz.ty_load1 Go.Sim.Tryz.ty_zero1 Go.Sim.Tryz.ty_load2 Go.Sim.Tryz.ty_zero2 Go.Sim.Tryz.ty_und2 Go.Sim.Tryz.ty_load3 Go.Sim.Tryz.ty_zero3 Go.Sim.Tryz.ty_und3 Go.Sim.Tryz.ty_load4 Go.Sim.Tryz.ty_zero4 Go.Sim.Tryz.ty_und4 Go.Sim.Tryz.ty_load5 Go.Sim.Tryz.ty_zero5 Go.Sim.Tryz.ty_und5 Go.Sim.Tryz.ty_load9 Go.Sim.Tryz.ty_zero9 Go.Sim.Tryz.ty_und9 Go.Sim.Tryz.ty_load22 Go.Sim.Tryz.ty_zero22 Go.Sim.Tryz.ty_el22 Go.Sim.Tryz.ty_zeroE22 Go.Sim.Tryz.ty_load24 Go.Sim.Tryz.ty_zero24 Go.Sim.Tryz.ty_fld24_0 Go.Sim.Tryz.ty_part24_0 Go.Sim.Tryz.ty_struct24 Go.Sim.Tryz.ty_load25 Go.Sim.Tryz.ty_zero25 Go.Sim.Tryz.ty_el25 Go.Sim.Tryz.ty_zeroE25 Go.Sim.Tryz.ty_load26 Go.Sim.Tryz.ty_zero26 Go.Sim.Tryz.ty_el26 Go.Sim.Tryz.ty_zeroE26 Go.Sim.Tryz.ty_load28 Go.Sim.Tryz.ty_zero28 Go.Sim.Tryz.ty_fld28_0 Go.Sim.Tryz.ty_part28_0 Go.Sim.Tryz.ty_fld28_1 Go.Sim.Tryz.ty_part28_1 Go.Sim.Tryz.ty_fld28_2 Go.Sim.Tryz.ty_part28_2 Go.Sim.Tryz.ty_fld28_3 Go.Sim.Tryz.ty_part28_3 Go.Sim.Tryz.ty_fld28_4 Go.Sim.Tryz.ty_part28_4 Go.Sim.Tryz.ty_fld28_5 Go.Sim.Tryz.ty_part28_5 Go.Sim.Tryz.ty_struct28 Go.Sim.Tryz.ty_load36 Go.Sim.Tryz.ty_zero36 Go.Sim.Tryz.ty_fld36_0 Go.Sim.Tryz.ty_part36_0 Go.Sim.Tryz.ty_fld36_1 Go.Sim.Tryz.ty_part36_1 Go.Sim.Tryz.ty_struct36 Go.Sim.Tryz.ty_load38 Go.Sim.Tryz.ty_zero38 Go.Sim.Tryz.ty_fld38_0 Go.Sim.Tryz.ty_part38_0 Go.Sim.Tryz.ty_fld38_1 Go.Sim.Tryz.ty_part38_1 Go.Sim.Tryz.ty_fld38_2 Go.Sim.Tryz.ty_part38_2 Go.Sim.Tryz.ty_fld38_3 Go.Sim.Tryz.ty_part38_3 Go.Sim.Tryz.ty_struct38 Go.Sim.Tryz.ty_load48 Go.Sim.Tryz.ty_zero48 Go.Sim.Tryz.ty_el48 Go.Sim.Tryz.ty_zeroE48 Go.Sim.Tryz.ty_load51 Go.Sim.Tryz.ty_zero51 Go.Sim.Tryz.ty_arr51 Go.Sim.Tryz.ty_part51_0 Go.Sim.Tryz.ty_part51_1 Go.Sim.Tryz.ty_struct51 Go.Sim.Tryz.ty_load59 Go.Sim.Tryz.ty_zero59 Go.Sim.Tryz.ty_fld59_0 Go.Sim.Tryz.ty_part59_0 Go.Sim.Tryz.ty_fld59_1 Go.Sim.Tryz.ty_part59_1 Go.Sim.Tryz.ty_struct59 Go.Sim.Tryz.ty_load60 Go.Sim.Tryz.ty_zero60 Go.Sim.Tryz.ty_el60 Go.Sim.Tryz.ty_zeroE60 Go.Sim.Tryz.ty_load62 Go.Sim.Tryz.ty_zero62 Go.Sim.Tryz.ty_fld62_0 Go.Sim.Tryz.ty_part62_0 Go.Sim.Tryz.ty_struct62 Go.Sim.Tryz.ty_load67 Go.Sim.Tryz.ty_zero67 Go.Sim.Tryz.ty_load68 Go.Sim.Tryz.ty_zero68 Go.Sim.Tryz.ty_load75 Go.Sim.Tryz.ty_zero75 Go.Sim.Tryz.ty_load76 Go.Sim.Tryz.ty_zero76 Go.Sim.Tryz.ty_und76 Go.Sim.Tryz.ty_load82 Go.Sim.Tryz.ty_zero82 Go.Sim.Tryz.ty_und82 Go.Sim.Tryz.ty_load85 Go.Sim.Tryz.ty_zero85 Go.Sim.Tryz.ty_und85 Go.Sim.Tryz.ty_load89 Go.Sim.Tryz.ty_zero89 Go.Sim.Tryz.ty_el89 Go.Sim.Tryz.ty_zeroE89 Go.Sim.Tryz.ty_load90 Go.Sim.Tryz.ty_zero90 Go.Sim.Tryz.ty_el90 Go.Sim.Tryz.ty_zeroE90 Go.Sim.Tryz.ty_load93 Go.Sim.Tryz.ty_zero93 Go.Sim.Tryz.ty_load98 Go.Sim.Tryz.ty_zero98 Go.Sim.Tryz.ty_fld98_0 Go.Sim.Tryz.ty_part98_0 Go.Sim.Tryz.ty_fld98_1 Go.Sim.Tryz.ty_part98_1 Go.Sim.Tryz.ty_fld98_2 Go.Sim.Tryz.ty_part98_2 Go.Sim.Tryz.ty_struct98 Go.Sim.Tryz.ty_load100 Go.Sim.Tryz.ty_zero100 Go.Sim.Tryz.ty_load106 Go.Sim.Tryz.ty_zero106 Go.Sim.Tryz.ty_load110 Go.Sim.Tryz.ty_zero110 Go.Sim.Tryz.ty_und110 Go.Sim.Tryz.ty_load118 Go.Sim.Tryz.ty_zero118 Go.Sim.Tryz.ty_und118 Go.Sim.Tryz.ty_load121 Go.Sim.Tryz.ty_zero121 Go.Sim.Tryz.ty_load128 Go.Sim.Tryz.ty_zero128 Go.Sim.Tryz.ty_und128 Go.Sim.Tryz.ty_load132 Go.Sim.Tryz.ty_zero132 encE_mk encE_take encE_len encV encE_one encEs_pure encE_pure

theorem compactAll_le (ys : List Int) : (Lib.compact ys).length ≤ (compactAll ys).length := by rw [compactAll, List.length_append]; omega
theorem compact_take (zs : List Int) : (rowI (compactAll (zs.mergeSort fun x y => decide (x ≤ y)))).take (Lib.compact (zs.mergeSort fun x y => decide (x ≤ y))).length = (uniq zs).map encI := by
  have hfun : rowI = fun l : List Int => l.map encI := rfl
  rw [hfun]
  simp only [← List.map_take, compactAll, List.take_left]
  rfl
theorem ordOne_len (e : Ex) : (ordOne e).length ≤ 2 := by unfold ordOne; split <;> simp
theorem ordFlat_len : ∀ l : List Ex, (l.flatMap ordOne).length ≤ 2 * l.length
  | [] => by simp
  | e :: l => by
    rw [List.flatMap_cons, List.length_append, List.length_cons]
    have := ordOne_len e
    have := ordFlat_len l
    omega
def ordTo (q : Qy) (i : Nat) : List Int := -1 :: (q.p.take i).flatMap ordOne
theorem ordTo_zero (q : Qy) : ordTo q 0 = [-1] := rfl
theorem ordTo_len (q : Qy) (i : Nat) : (ordTo q i).length ≤ 2 * q.p.length + 1 := by
  rw [ordTo, List.length_cons]
  have := ordFlat_len (q.p.take i)
  rw [List.length_take] at this
  omega
theorem ordTo_yes (q : Qy) (i : Nat) (h : i < q.p.length) (his : q.p[i].pair.2.2 = true) : ordTo q (i + 1) = ordTo q i ++ [q.p[i].pair.1, q.p[i].pair.2.1] := by
  rw [ordTo, List.take_succ_eq_append_getElem h, List.flatMap_append, List.flatMap_cons, List.flatMap_nil, List.append_nil, ordOne, if_pos his]
  rfl
theorem ordTo_no (q : Qy) (i : Nat) (h : i < q.p.length) (his : q.p[i].pair.2.2 = false) : ordTo q (i + 1) = ordTo q i := by
  rw [ordTo, List.take_succ_eq_append_getElem h, List.flatMap_append, List.flatMap_cons, List.flatMap_nil, List.append_nil, ordOne, if_neg (by simp [his]), List.append_nil]
  rfl
theorem snoc2I (l : List Int) (x y : Int) : rowI l ++ [[.lit (.int .i64 x)], [.lit (.int .i64 y)]] = rowI (l ++ [x, y]) := by rw [rowI, rowI, List.map_append]; rfl
def ordFin (q : Qy) (j : Nat) : List Int := ordTo q q.p.length ++ (if 1 ≤ j then ordEnd q.by_ else []) ++ (if 2 ≤ j then ordEnd q.ord else [])
theorem ordFin_all (q : Qy) : ordFin q 2 = q.ordAll := by simp [ordFin, ordTo, Qy.ordAll]
theorem Orders_ok (q : Qy) (hq : q.Ok) : Quiet Go.Proofs.Tryz.prog 27 [.agg (encQ q)] (.sl (q.orders.map encI)) := by
  refine quiet_of (rs := #[.tmp 2]) Go.Proofs.Tryz.func27 rfl rfl rfl mixed rfl rfl fun H hs => ?_
  simp -implicitDefEqProofs only [push_cast, Nat.reduceAdd, Nat.reduceSub, Nat.reduceMul, Nat.reduceLT, Nat.reduceLeDiff, Nat.reduceEqDiff, Nat.reduceBEq, reduceCtorEq, reduceIte, Int.reduceLE, Int.reduceLT, Int.reduceNeg, Int.reduceToNat, encQ]
  refine loop_at hs (σ := Nat) (fun i => i ≤ q.p.length) (fun i => q.p.length - i)
    (fun i => [(15, .int i), (14, .int q.p.length), (13, .sl (q.p.map encE)), (1, .ptr (H.nxt + 0) 6 0 0), (3, .rsl (H.nxt + 1) 1 0 (ordTo q i).length)]) (fun i => [some (.cells 6 [encQ q] 0), some (.cells 1 (rowI (ordTo q i)) 0)]) [some 0, some 1] 0 (by omega) rfl ?_ ?_ ?_
  · (try simp -implicitDefEqProofs only [push_cast, Nat.reduceAdd, Nat.reduceSub, Nat.reduceMul, Nat.reduceLT, Nat.reduceLeDiff, Nat.reduceEqDiff, Nat.reduceBEq, reduceCtorEq, reduceIte, Int.reduceLE, Int.reduceLT, Int.reduceNeg, Int.reduceToNat, ordTo_zero, encEs_pure, encIs_pure, encQ])
  · (try simp -implicitDefEqProofs only [push_cast, Nat.reduceAdd, Nat.reduceSub, Nat.reduceMul, Nat.reduceLT, Nat.reduceLeDiff, Nat.reduceEqDiff, Nat.reduceBEq, reduceCtorEq, reduceIte, Int.reduceLE, Int.reduceLT, Int.reduceNeg, Int.reduceToNat, ordTo_zero, encEs_pure, encIs_pure, encQ, encI])
  intro i hi2
  have hlen := ordTo_len q i
  have hP := hq.1
  by_cases hi : i < q.p.length
  · have hi' : ((i : Int) < (q.p.length : Int)) = True := by simp; omega
    have hi0 : (0 ≤ (i : Int)) = True := by simp
    have ho := hq.2.1 _ (List.getElem_mem hi)
    simp -implicitDefEqProofs only [push_cast, Nat.reduceAdd, Nat.reduceSub, Nat.reduceMul, Nat.reduceLT, Nat.reduceLeDiff, Nat.reduceEqDiff, Nat.reduceBEq, reduceCtorEq, reduceIte, Int.reduceLE, Int.reduceLT, Int.reduceNeg, Int.reduceToNat, hi', hi0, encEs_get q.p i hi, encQ]
    refine callq (Pair_ok _ ho.1) ?_
    simp -implicitDefEqProofs only [push_cast, Nat.reduceAdd, Nat.reduceSub, Nat.reduceMul, Nat.reduceLT, Nat.reduceLeDiff, Nat.reduceEqDiff, Nat.reduceBEq, reduceCtorEq, reduceIte, Int.reduceLE, Int.reduceLT, Int.reduceNeg, Int.reduceToNat, encQ]
    refine ⟨fun his => ⟨by omega, ?_⟩, fun his => ?_⟩
    · rw [wrap64 (n := (i : Int) + 1) (by omega) (by omega)]
      refine next_at [some 0, some 4] (i + 1) (by omega) (by omega) rfl ?_ ?_
      · (try simp -implicitDefEqProofs only [push_cast, Nat.reduceAdd, Nat.reduceSub, Nat.reduceMul, Nat.reduceLT, Nat.reduceLeDiff, Nat.reduceEqDiff, Nat.reduceBEq, reduceCtorEq, reduceIte, Int.reduceLE, Int.reduceLT, Int.reduceNeg, Int.reduceToNat, ordTo_yes q i hi his, encEs_pure, encIs_pure, encQ])
      · (try simp -implicitDefEqProofs only [push_cast, Nat.reduceAdd, Nat.reduceSub, Nat.reduceMul, Nat.reduceLT, Nat.reduceLeDiff, Nat.reduceEqDiff, Nat.reduceBEq, reduceCtorEq, reduceIte, Int.reduceLE, Int.reduceLT, Int.reduceNeg, Int.reduceToNat, ordTo_yes q i hi his, encEs_pure, encIs_pure, encQ, take_rowI _ _ (Nat.le_refl _), snoc2I, rowI_pure, rowI_one])
    · rw [wrap64 (n := (i : Int) + 1) (by omega) (by omega)]
      refine next_at [some 0, some 1] (i + 1) (by omega) (by omega) rfl ?_ ?_
      · (try simp -implicitDefEqProofs only [push_cast, Nat.reduceAdd, Nat.reduceSub, Nat.reduceMul, Nat.reduceLT, Nat.reduceLeDiff, Nat.reduceEqDiff, Nat.reduceBEq, reduceCtorEq, reduceIte, Int.reduceLE, Int.reduceLT, Int.reduceNeg, Int.reduceToNat, ordTo_no q i hi his, encEs_pure, encIs_pure, encQ])
      · (try simp -implicitDefEqProofs only [push_cast, Nat.reduceAdd, Nat.reduceSub, Nat.reduceMul, Nat.reduceLT, Nat.reduceLeDiff, Nat.reduceEqDiff, Nat.reduceBEq, reduceCtorEq, reduceIte, Int.reduceLE, Int.reduceLT, Int.reduceNeg, Int.reduceToNat, ordTo_no q i hi his, encEs_pure, encIs_pure, encQ, rowI_pure, rowI_one])
  · have hi' : ((i : Int) < (q.p.length : Int)) = False := by simp; omega
    obtain rfl : i = q.p.length := by omega
    simp -implicitDefEqProofs only [push_cast, Nat.reduceAdd, Nat.reduceSub, Nat.reduceMul, Nat.reduceLT, Nat.reduceLeDiff, Nat.reduceEqDiff, Nat.reduceBEq, reduceCtorEq, reduceIte, Int.reduceLE, Int.reduceLT, Int.reduceNeg, Int.reduceToNat, hi', encQ]
    have e0 : ordFin q 0 = ordTo q q.p.length := by simp [ordFin]
    have e1 : ordFin q 1 = ordFin q 0 ++ ordEnd q.by_ := by simp [ordFin]
    have e2 : ordFin q 2 = ordFin q 1 ++ ordEnd q.ord := by simp [ordFin]
    have hy : ∀ x : Int, (decide (0 ≤ x) && decide (x ≤ 15)) = true → ordEnd x = [x] := fun x h => by
      simp only [Bool.and_eq_true, decide_eq_true_eq] at h
      rw [ordEnd, if_pos h]
    have hn : ∀ x : Int, (decide (0 ≤ x) && decide (x ≤ 15)) = false → ordEnd x = [] := fun x h => by
      rw [ordEnd, if_neg fun hh => by simp [hh] at h]
    have he : ∀ x : Int, (ordEnd x).length ≤ 1 := fun x => by unfold ordEnd; split <;> simp
    have hl : ∀ j ≤ 2, (ordFin q j).length ≤ 2 * q.p.length + 3 := fun j hj => by
      have := he q.by_
      have := he q.ord
      rw [ordFin, List.length_append, List.length_append]
      split <;> split <;> (try simp only [List.length_nil]) <;> omega
    have hl0 := hl 0 (by omega)
    have hl1 := hl 1 (by omega)
    have hl2 := hl 2 (by omega)
    refine loop_at hs (σ := Nat) (fun j => j ≤ 2) (fun j => 2 - j)
      (fun j => [(38, .int j), (37, .int 2), (36, .rsl (H.nxt + 2) 1 0 2), (3, .rsl (H.nxt + 1) 1 0 (ordFin q j).length)]) (fun j => [none, some (.cells 1 (rowI (ordFin q j)) 0), some (.cells 1 (rowI [q.by_, q.ord]) 0)]) [none, some 1, some 2] 0 (by omega) rfl ?_ ?_ ?_
    · (try simp -implicitDefEqProofs only [push_cast, Nat.reduceAdd, Nat.reduceSub, Nat.reduceMul, Nat.reduceLT, Nat.reduceLeDiff, Nat.reduceEqDiff, Nat.reduceBEq, reduceCtorEq, reduceIte, Int.reduceLE, Int.reduceLT, Int.reduceNeg, Int.reduceToNat, e0, encI, Int.reduceAdd])
    · (try simp -implicitDefEqProofs only [push_cast, Nat.reduceAdd, Nat.reduceSub, Nat.reduceMul, Nat.reduceLT, Nat.reduceLeDiff, Nat.reduceEqDiff, Nat.reduceBEq, reduceCtorEq, reduceIte, Int.reduceLE, Int.reduceLT, Int.reduceNeg, Int.reduceToNat, e0, encEs_pure, encIs_pure, encQ, rowI_pure, rowI_one, encI])
    intro j hj2
    obtain rfl | rfl | rfl : j = 0 ∨ j = 1 ∨ j = 2 := by omega
    · simp -implicitDefEqProofs only [push_cast, Nat.reduceAdd, Nat.reduceSub, Nat.reduceMul, Nat.reduceLT, Nat.reduceLeDiff, Nat.reduceEqDiff, Nat.reduceBEq, reduceCtorEq, reduceIte, Int.reduceLE, Int.reduceLT, Int.reduceNeg, Int.reduceToNat, encI, Int.reduceAdd]
      refine ⟨fun h => ⟨by omega, ?_⟩, fun h => ?_⟩
      · have e : ordFin q 1 = ordFin q 0 ++ [q.by_] := by rw [e1, hy _ h]
        rw [wrap64 (n := 1) (by omega) (by omega)]
        refine next_at [none, some 4, some 2] 1 (by omega) (by omega) rfl ?_ ?_
        · (try simp -implicitDefEqProofs only [push_cast, Nat.reduceAdd, Nat.reduceSub, Nat.reduceMul, Nat.reduceLT, Nat.reduceLeDiff, Nat.reduceEqDiff, Nat.reduceBEq, reduceCtorEq, reduceIte, Int.reduceLE, Int.reduceLT, Int.reduceNeg, Int.reduceToNat, e, encI, Int.reduceAdd])
        · (try simp -implicitDefEqProofs only [push_cast, Nat.reduceAdd, Nat.reduceSub, Nat.reduceMul, Nat.reduceLT, Nat.reduceLeDiff, Nat.reduceEqDiff, Nat.reduceBEq, reduceCtorEq, reduceIte, Int.reduceLE, Int.reduceLT, Int.reduceNeg, Int.reduceToNat, e, take_rowI _ _ (Nat.le_refl _), snocI, rowI_pure, rowI_one, encI])
      · have e : ordFin q 1 = ordFin q 0 := by rw [e1, hn _ h, List.append_nil]
        rw [wrap64 (n := 1) (by omega) (by omega)]
        refine next_at [none, some 1, some 2] 1 (by omega) (by omega) rfl ?_ ?_
        · (try simp -implicitDefEqProofs only [push_cast, Nat.reduceAdd, Nat.reduceSub, Nat.reduceMul, Nat.reduceLT, Nat.reduceLeDiff, Nat.reduceEqDiff, Nat.reduceBEq, reduceCtorEq, reduceIte, Int.reduceLE, Int.reduceLT, Int.reduceNeg, Int.reduceToNat, e, encI, Int.reduceAdd])
        · (try simp -implicitDefEqProofs only [push_cast, Nat.reduceAdd, Nat.reduceSub, Nat.reduceMul, Nat.reduceLT, Nat.reduceLeDiff, Nat.reduceEqDiff, Nat.reduceBEq, reduceCtorEq, reduceIte, Int.reduceLE, Int.reduceLT, Int.reduceNeg, Int.reduceToNat, e, rowI_pure, rowI_one, encI])
    · simp -implicitDefEqProofs only [push_cast, Nat.reduceAdd, Nat.reduceSub, Nat.reduceMul, Nat.reduceLT, Nat.reduceLeDiff, Nat.reduceEqDiff, Nat.reduceBEq, reduceCtorEq, reduceIte, Int.reduceLE, Int.reduceLT, Int.reduceNeg, Int.reduceToNat, encI, Int.reduceAdd]
      refine ⟨fun h => ⟨by omega, ?_⟩, fun h => ?_⟩
      · have e : ordFin q 2 = ordFin q 1 ++ [q.ord] := by rw [e2, hy _ h]
        rw [wrap64 (n := 2) (by omega) (by omega)]
        refine next_at [none, some 4, some 2] 2 (by omega) (by omega) rfl ?_ ?_
        · (try simp -implicitDefEqProofs only [push_cast, Nat.reduceAdd, Nat.reduceSub, Nat.reduceMul, Nat.reduceLT, Nat.reduceLeDiff, Nat.reduceEqDiff, Nat.reduceBEq, reduceCtorEq, reduceIte, Int.reduceLE, Int.reduceLT, Int.reduceNeg, Int.reduceToNat, e, encI, Int.reduceAdd])
        · (try simp -implicitDefEqProofs only [push_cast, Nat.reduceAdd, Nat.reduceSub, Nat.reduceMul, Nat.reduceLT, Nat.reduceLeDiff, Nat.reduceEqDiff, Nat.reduceBEq, reduceCtorEq, reduceIte, Int.reduceLE, Int.reduceLT, Int.reduceNeg, Int.reduceToNat, e, take_rowI _ _ (Nat.le_refl _), snocI, rowI_pure, rowI_one, encI])
      · have e : ordFin q 2 = ordFin q 1 := by rw [e2, hn _ h, List.append_nil]
        rw [wrap64 (n := 2) (by omega) (by omega)]
        refine next_at [none, some 1, some 2] 2 (by omega) (by omega) rfl ?_ ?_
        · (try simp -implicitDefEqProofs only [push_cast, Nat.reduceAdd, Nat.reduceSub, Nat.reduceMul, Nat.reduceLT, Nat.reduceLeDiff, Nat.reduceEqDiff, Nat.reduceBEq, reduceCtorEq, reduceIte, Int.reduceLE, Int.reduceLT, Int.reduceNeg, Int.reduceToNat, e, encI, Int.reduceAdd])
        · (try simp -implicitDefEqProofs only [push_cast, Nat.reduceAdd, Nat.reduceSub, Nat.reduceMul, Nat.reduceLT, Nat.reduceLeDiff, Nat.reduceEqDiff, Nat.reduceBEq, reduceCtorEq, reduceIte, Int.reduceLE, Int.reduceLT, Int.reduceNeg, Int.reduceToNat, e, rowI_pure, rowI_one, encI])
    · simp -implicitDefEqProofs only [push_cast, Nat.reduceAdd, Nat.reduceSub, Nat.reduceMul, Nat.reduceLT, Nat.reduceLeDiff, Nat.reduceEqDiff, Nat.reduceBEq, reduceCtorEq, reduceIte, Int.reduceLE, Int.reduceLT, Int.reduceNeg, Int.reduceToNat, encI, Int.reduceAdd]
      rw [Qy.orders, ← ordFin_all]
      generalize ordFin q 2 = zs at hl2 ⊢
      refine (sort_ok (i := H.nxt + 1) (zs := zs) (by omega) (by rw [plus_obj]; rfl)).mono ?_
      rintro r H3 ⟨rfl, rfl⟩
      simp -implicitDefEqProofs only [push_cast, Nat.reduceAdd, Nat.reduceSub, Nat.reduceMul, Nat.reduceLT, Nat.reduceLeDiff, Nat.reduceEqDiff, Nat.reduceBEq, reduceCtorEq, reduceIte, Int.reduceLE, Int.reduceLT, Int.reduceNeg, Int.reduceToNat]
      have hcc := compact_ok (i := H.nxt + 1) (zs := zs.mergeSort fun x y => decide (x ≤ y)) (H := H.plus [none, some (.cells 1 (rowI (zs.mergeSort fun x y => decide (x ≤ y))) 0), some (.cells 1 (rowI [q.by_, q.ord]) 0)]) (by rw [List.length_mergeSort]; omega) (by rw [plus_obj]; rfl)
      rw [List.length_mergeSort] at hcc
      refine hcc.mono ?_
      rintro r H3 ⟨rfl, rfl⟩
      simp -implicitDefEqProofs only [push_cast, Nat.reduceAdd, Nat.reduceSub, Nat.reduceMul, Nat.reduceLT, Nat.reduceLeDiff, Nat.reduceEqDiff, Nat.reduceBEq, reduceCtorEq, reduceIte, Int.reduceLE, Int.reduceLT, Int.reduceNeg, Int.reduceToNat]
      exact ⟨compactAll_le _, by rw [compact_take]; exact sealLL_pure _ _ _ (encIs_pure _)⟩
end Go.Sim.Tryz
set_option linter.unusedSimpArgs false
set_option linter.unusedVariables false
set_option maxRecDepth 100000
namespace Go.Sim.Tryz
open Go Go.Sim
attribute [local push_cast] aops_cons aops_nil aopG_none aopG_some aopP_eq aopE_eq aopC_eq aopE?_eq aopC?_eq aopB_eq aopB?_eq abr anilq gopP_eq gopL_eq ahead_cons ahead_nil ahdG_none ahdG_some ahdP_eq ahdN_eq ahdC_eq ahdN?_eq ahdS_eq ahdS?_eq astoreN ahdC?_eq ghdP_eq ghdC_eq ghdC?_eq ghdZ_f ghdZ_t ahdI_eq ahdI?_eq ghdN?_eq aim_nil aim_cons isIn_nil isIn_none isIn_cons aimm aheP_eq aheA_eq aheC_eq aheC?_eq aheI?_eq aheA?_eq gheP_eq gheC_eq gheC?_eq gheZ_eq aheG_none aheG_some aheff_cons aheff_nil aapp gro_rsl gro_lit gro_esl opt_some opt_none no_eq acondT_true acondT_false acondT_lit aw_skip aw_region aw_regionD aw_seq aw_cond aw_block aw_loop aw_exit aw_label aw_ret thn_normal thn_exit thn_ret inb_normal inb_exit inb_ret qret_ret qret_normal gcond apure aeff anew acallee ares aresT aresL aresC ares1 qfin_eq ev ofV evL gokL tget tput_some tput_none initT abin aint aun aload afaddr aiaddr afield aindex aextract apick pickv_lit Bool.or_false Bool.false_or Bool.or_true Bool.true_or imp_self aslice chunk abound aconv abuild afill splice alen aminmax abuiltin anil apart Value.oneCell' astore aappend srcEs abuildSlice asets isEq plus_obj plus_nxt plus_add plus_set plus_del IntKind.bits Option.map_some Option.map_none Option.bind_some Option.bind_none Option.join_some Option.getD_some Option.getD_none Option.toList Option.isSome_some List.getElem?_toArray List.getElem?_cons_zero List.getElem?_cons_succ List.getElem?_nil List.length_cons List.length_nil List.length_map List.head?_cons List.cons_append List.nil_append List.append_nil List.map_cons List.map_nil List.getD_cons_zero List.getD_cons_succ List.replicate_succ List.replicate_zero List.set_cons_zero List.set_cons_succ List.take_succ_cons List.take_zero List.drop_succ_cons List.drop_zero List.all_cons List.all_nil Nat.zero_add if_true if_false true_and and_true false_and and_false true_implies implies_true forall_const Bool.and_true Bool.true_and Bool.false_and Bool.and_false Bool.true_beq Bool.false_beq Bool.not_not beq_tt beq_ff Int.toNat_natCast decide_true decide_false Bool.not_true Bool.not_false Bool.true_eq_false Bool.false_eq_true false_implies exists_prop eq_self bne_self_eq_false beq_self_eq_true decide_eq_true_eq decide_eq_false_iff_not Bool.not_eq_true' Bool.not_eq_false' AV.int AV.bool AV.nilS ne_eq not_false_eq_true not_true_eq_false exists_eq_left exists_eq_left' Nat.lt_irrefl core_lit grd_lit acells_lit one_lit core_agg grd_agg acells_agg one_agg core_tup grd_tup acells_tup one_tup core_sl grd_sl acells_sl one_sl core_esl grd_esl acells_esl one_esl core_rsl grd_rsl acells_rsl one_rsl core_ptr grd_ptr acells_ptr one_ptr core_iptr grd_iptr acells_iptr one_iptr core_clo grd_clo acells_clo one_clo core_mp grd_mp acells_mp one_mp core_any grd_any acells_any one_any core_gv grd_gv fit_agg fit_lit fit_sl fit_esl fit_rsl fit_ptr fit_iptr fit_clo fit_mp retq_ret retq_normal set_nxt set_set plus_obj_set plus_set_set app_get0 app_get app_set0 app_set List.append_assoc List.length_append List.length_set Nat.lt_add_one Nat.add_lt_add_iff_right Nat.lt_add_right_iff_pos Nat.add_lt_add_iff_left List.mem_cons List.not_mem_nil or_false forall_eq forall_eq_or_imp lt_s0 lt_s1 lt_s2 lt_s3 lt_s4 lt_s5 lt_s6 lt_s7 lt_s8 pickv_t pickv_f or_nand or_nand2 imp_and_l SealT SealOs sealO_cells sl_lit sl_any sl_agg sl_tup sl_sl sl_rsl slO sl_esl sl_nil sl_eslesl sl_eslnil sl_rslrsl sl_eslrsl sl_nilrsl sl_ptr sl_iptr sl_ptri slP sl_clo sl_mp sl_gv sll_nil sll_cons slll_nil slll_cons shut_eq shutO Option.join_none Fn.func.injEq and_self sealL_self sealLL_self seal_self PureL PureLL Pure Nat.le_refl Nat.zero_le AV.lit.injEq Value.int.injEq Value.bool.injEq false_or or_true true_or Int.natCast_zero Int.ofNat_zero Int.cast_ofNat_Int Int.natCast_add Int.natCast_one Option.some.injEq piL_is sop_nil sop_cons sop_none sop_some sopO_some sop_new shut_pi shutL_nil shutL_cons exQ_exit exQ_ret exQ_normal Go.Sim.Tryz.ty_load1 Go.Sim.Tryz.ty_zero1 Go.Sim.Tryz.ty_load2 Go.Sim.Tryz.ty_zero2 Go.Sim.Tryz.ty_und2 Go.Sim.Tryz.ty_load3 Go.Sim.Tryz.ty_zero3 Go.Sim.Tryz.ty_und3 Go.Sim.Tryz.ty_load4 Go.Sim.Tryz.ty_zero4 Go.Sim.Tryz.ty_und4 Go.Sim.Tryz.ty_load5 Go.Sim.Tryz.ty_zero5 Go.Sim.Tryz.ty_und5 Go.Sim.Tryz.ty_load9 Go.Sim.Tryz.ty_zero9 Go.Sim.Tryz.ty_und9 Go.Sim.Tryz.ty_load22 Go.Sim.Tryz.ty_zero22 Go.Sim.Tryz.ty_el22 Go.Sim.Tryz.ty_zeroE22 Go.Sim.Tryz.ty_load24 Go.Sim.Tryz.ty_zero24 Go.Sim.Tryz.ty_fld24_0 Go.Sim.Tryz.ty_part24_0 Go.Sim.Tryz.ty_struct24 Go.Sim.Tryz.ty_load25 Go.Sim.Tryz.ty_zero25 Go.Sim.Tryz.ty_el25 Go.Sim.Tryz.ty_zeroE25 Go.Sim.Tryz.ty_load26 Go.Sim.Tryz.ty_zero26 Go.Sim.Tryz.ty_el26 Go.Sim.Tryz.ty_zeroE26 Go.Sim.Tryz.ty_load28 Go.Sim.Tryz.ty_zero28 Go.Sim.Tryz.ty_fld28_0 Go.Sim.Tryz.ty_part28_0 Go.Sim.Tryz.ty_fld28_1 Go.Sim.Tryz.ty_part28_1 Go.Sim.Tryz.ty_fld28_2 Go.Sim.Tryz.ty_part28_2 Go.Sim.Tryz.ty_fld28_3 Go.Sim.Tryz.ty_part28_3 Go.Sim.Tryz.ty_fld28_4 Go.Sim.Tryz.ty_part28_4 Go.Sim.Tryz.ty_fld28_5 Go.Sim.Tryz.ty_part28_5 Go.Sim.Tryz.ty_struct28 Go.Sim.Tryz.ty_load36 Go.Sim.Tryz.ty_zero36 Go.Sim.Tryz.ty_fld36_0 Go.Sim.Tryz.ty_part36_0 Go.Sim.Tryz.ty_fld36_1 Go.Sim.Tryz.ty_part36_1 Go.Sim.Tryz.ty_struct36 Go.Sim.Tryz.ty_load38 Go.Sim.Tryz.ty_zero38 Go.Sim.Tryz.ty_fld38_0 Go.Sim.Tryz.ty_part38_0 Go.Sim.Tryz.ty_fld38_1 Go.Sim.Tryz.ty_part38_1 Go.Sim.Tryz.ty_fld38_2 Go.Sim.Tryz.ty_part38_2 Go.Sim.Tryz.ty_fld38_3 Go.Sim.Tryz.ty_part38_3 Go.Sim.Tryz.ty_struct38 Go.Sim.Tryz.ty_load48 Go.Sim.Tryz.ty_zero48 Go.Sim.Tryz.ty_el48 Go.Sim.Tryz.ty_zeroE48 Go.Sim.Tryz.ty_load51 Go.Sim.Tryz.ty_zero51 Go.Sim.Tryz.ty_arr51 Go.Sim.Tryz.ty_part51_0 Go.Sim.Tryz.ty_part51_1 Go.Sim.Tryz.ty_struct51 Go.Sim.Tryz.ty_load59 Go.Sim.Tryz.ty_zero59 Go.Sim.Tryz.ty_fld59_0 Go.Sim.Tryz.ty_part59_0 Go.Sim.Tryz.ty_fld59_1 Go.Sim.Tryz.ty_part59_1 Go.Sim.Tryz.ty_struct59 Go.Sim.Tryz.ty_load60 Go.Sim.Tryz.ty_zero60 Go.Sim.Tryz.ty_el60 Go.Sim.Tryz.ty_zeroE60 Go.Sim.Tryz.ty_load62 Go.Sim.Tryz.ty_zero62 Go.Sim.Tryz.ty_fld62_0 Go.Sim.Tryz.ty_part62_0 Go.Sim.Tryz.ty_struct62 Go.Sim.Tryz.ty_load67 Go.Sim.Tryz.ty_zero67 Go.Sim.Tryz.ty_load68 Go.Sim.Tryz.ty_zero68 Go.Sim.Tryz.ty_load75 Go.Sim.Tryz.ty_zero75 Go.Sim.Tryz.ty_load76 Go.Sim.Tryz.ty_zero76 Go.Sim.Tryz.ty_und76 Go.Sim.Tryz.ty_load82 Go.Sim.Tryz.ty_zero82 Go.Sim.Tryz.ty_und82 Go.Sim.Tryz.ty_load85 Go.Sim.Tryz.ty_zero85 Go.Sim.Tryz.ty_und85 Go.Sim.Tryz.ty_load89 Go.Sim.Tryz.ty_zero89 Go.Sim.Tryz.ty_el89 Go.Sim.Tryz.ty_zeroE89 Go.Sim.Tryz.ty_load90 Go.Sim.Tryz.ty_zero90 Go.Sim.Tryz.ty_el90 Go.Sim.Tryz.ty_zeroE90 Go.Sim.Tryz.ty_load93 Go.Sim.Tryz.ty_zero93 Go.Sim.Tryz.ty_load98 Go.Sim.Tryz.ty_zero98 Go.Sim.Tryz.ty_fld98_0 Go.Sim.Tryz.ty_part98_0 Go.Sim.Tryz.ty_fld98_1 Go.Sim.Tryz.ty_part98_1 Go.Sim.Tryz.ty_fld98_2 Go.Sim.Tryz.ty_part98_2 Go.Sim.Tryz.ty_struct98 Go.Sim.Tryz.ty_load100 Go.Sim.Tryz.ty_zero100 Go.Sim.Tryz.ty_load106 Go.Sim.Tryz.ty_zero106 Go.Sim.Tryz.ty_load110 Go.Sim.Tryz.ty_zero110 Go.Sim.Tryz.ty_und110 Go.Sim.Tryz.ty_load118 Go.Sim.Tryz.ty_zero118 Go.Sim.Tryz.ty_und118 Go.Sim.Tryz.ty_load121 Go.Sim.Tryz.ty_zero121 Go.Sim.Tryz.ty_load128 Go.Sim.Tryz.ty_zero128 Go.Sim.Tryz.ty_und128 Go.Sim.Tryz.ty_load132 Go.Sim.Tryz.ty_zero132 encE_mk encE_take encE_len encV encE_one encEs_pure encE_pure
/-- Each number of it is one of 64 bits. -/
inductive Ex.In : Ex → Prop
  | mk {op col k n : Int} {l : List Ex} (h1 : In64 n) (h2 : ∀ x ∈ l, x.In) : Ex.In (.mk op col k n l)
/-! ### What the document tells is what the program tells -/
theorem MayR_ok2 (e : Ex) (hok : e.Ok) : Quiet Go.Proofs.Tryz.prog 93 [.agg (encE e)] (.bool e.may) := by
  have := MayR_ok e hok
  rwa [mayR_eq] at this
theorem ColsR_ok2 (e : Ex) (hok : e.Ok) : Quiet Go.Proofs.Tryz.prog 72 [.agg (encE e)] (.sl (e.cols.map encI)) := by
  have := ColsR_ok e hok
  rwa [colsR_eq] at this
theorem PairR_ok (e : Ex) (hok : e.Ok) : Quiet Go.Proofs.Tryz.prog 77 [.agg (encE e)] (.tup [.int e.pair.1, .int e.pair.2.1, .bool e.pair.2.2]) := by
  obtain ⟨op, col, k, n, l⟩ := e
  refine quiet_of (rs := #[.tmp 2, .tmp 3, .tmp 4]) Go.Proofs.Tryz.func77 rfl rfl rfl mixed rfl rfl fun H hs => ?_
  have hm := MayR_ok2 _ hok
  simp only [encE_mk] at hm
  simp -implicitDefEqProofs only [push_cast, Nat.reduceAdd, Nat.reduceSub, Nat.reduceMul, Nat.reduceLT, Nat.reduceLeDiff, Nat.reduceEqDiff, Nat.reduceBEq, reduceCtorEq, reduceIte, Int.reduceLE, Int.reduceLT, Int.reduceNeg, Int.reduceToNat]
  refine callq hm ?_
  by_cases h6 : (Ex.mk op col k n l).may = true ∧ op = 6
  · obtain ⟨hmay, hop⟩ := h6
    have h2 : l.length = 2 := by
      obtain ⟨hp, _⟩ := may_fine hmay
      obtain ⟨_, _, ⟨h3, h4⟩, _⟩ := (part_iff _ _ _ _ _).1 hp
      rw [hop] at h3 h4
      simp [wayLo, wayHi] at h3 h4
      omega
    obtain ⟨a, b, rfl⟩ : ∃ a b, l = [a, b] := by
      match l, h2 with
      | [a, b], _ => exact ⟨a, b, rfl⟩
    obtain ⟨ao, ac, ak, an, al⟩ := a
    obtain ⟨bo, bc, bk, bn, bl⟩ := b
    rw [hmay]
    simp -implicitDefEqProofs only [push_cast, Nat.reduceAdd, Nat.reduceSub, Nat.reduceMul, Nat.reduceLT, Nat.reduceLeDiff, Nat.reduceEqDiff, Nat.reduceBEq, reduceCtorEq, reduceIte, Int.reduceLE, Int.reduceLT, Int.reduceNeg, Int.reduceToNat]
    refine areg_at 35 (by kernel_rfl) (by kernel_rfl) ?_
    simp -implicitDefEqProofs only [push_cast, Nat.reduceAdd, Nat.reduceSub, Nat.reduceMul, Nat.reduceLT, Nat.reduceLeDiff, Nat.reduceEqDiff, Nat.reduceBEq, reduceCtorEq, reduceIte, Int.reduceLE, Int.reduceLT, Int.reduceNeg, Int.reduceToNat, hop, List.map_cons, List.map_nil]
    refine ⟨by omega, fun _ => by omega, fun _ => by omega, fun _ => by omega, fun h1 => ?_, fun h1 => ?_⟩
    · have hz : (Ex.mk op col k n [Ex.mk ao ac ak an al, Ex.mk bo bc bk bn bl]).pair = (ac, bc, true) := by
        simp only [Ex.pair, hmay, hop, Ex.op, Ex.col]
        rw [if_pos (by grind)]
      rw [hop] at hz
      rw [hz]
      refine areg_at 11 (by kernel_rfl) (by kernel_rfl) ?_
      simp -implicitDefEqProofs only [push_cast, Nat.reduceAdd, Nat.reduceSub, Nat.reduceMul, Nat.reduceLT, Nat.reduceLeDiff, Nat.reduceEqDiff, Nat.reduceBEq, reduceCtorEq, reduceIte, Int.reduceLE, Int.reduceLT, Int.reduceNeg, Int.reduceToNat, List.map_cons, List.map_nil]
      omega
    · have hz : (Ex.mk op col k n [Ex.mk ao ac ak an al, Ex.mk bo bc bk bn bl]).pair = (0, 0, false) := by
        simp only [Ex.pair, hmay, hop, Ex.op, Ex.col]
        rw [if_neg (by grind)]
      rw [hop] at hz
      rw [hz]
      (try simp -implicitDefEqProofs only [push_cast, Nat.reduceAdd, Nat.reduceSub, Nat.reduceMul, Nat.reduceLT, Nat.reduceLeDiff, Nat.reduceEqDiff, Nat.reduceBEq, reduceCtorEq, reduceIte, Int.reduceLE, Int.reduceLT, Int.reduceNeg, Int.reduceToNat])
  · have hz : (Ex.mk op col k n l).pair = (0, 0, false) := by
      unfold Ex.pair
      split
      · rename_i a b heq
        injection heq with e1 e2 e3 e4 e5
        subst e1 e2 e3 e4 e5
        rw [if_neg (by grind)]
      · rfl
    rw [hz]
    generalize (Ex.mk op col k n l).may = mv at h6
    have fin : ∀ l' : List Ex, l'.map encE = l.map encE → True := fun _ _ => trivial
    rcases l with _ | ⟨⟨ao, ac, ak, an, al⟩, _ | ⟨⟨bo, bc, bk, bn, bl⟩, l⟩⟩
    all_goals cases mv
    all_goals first
      | (have hop : (op = 6) = False := by simpa using h6)
      | skip
    all_goals (simp -implicitDefEqProofs only [push_cast, Nat.reduceAdd, Nat.reduceSub, Nat.reduceMul, Nat.reduceLT, Nat.reduceLeDiff, Nat.reduceEqDiff, Nat.reduceBEq, reduceCtorEq, reduceIte, Int.reduceLE, Int.reduceLT, Int.reduceNeg, Int.reduceToNat])
    all_goals (refine areg_at 35 (by kernel_rfl) (by kernel_rfl) ?_)
    all_goals (first | (simp -implicitDefEqProofs only [push_cast, Nat.reduceAdd, Nat.reduceSub, Nat.reduceMul, Nat.reduceLT, Nat.reduceLeDiff, Nat.reduceEqDiff, Nat.reduceBEq, reduceCtorEq, reduceIte, Int.reduceLE, Int.reduceLT, Int.reduceNeg, Int.reduceToNat, hop, List.map_cons, List.map_nil, List.getD_nil, List.drop_nil]) | (simp -implicitDefEqProofs only [push_cast, Nat.reduceAdd, Nat.reduceSub, Nat.reduceMul, Nat.reduceLT, Nat.reduceLeDiff, Nat.reduceEqDiff, Nat.reduceBEq, reduceCtorEq, reduceIte, Int.reduceLE, Int.reduceLT, Int.reduceNeg, Int.reduceToNat, List.map_cons, List.map_nil, List.getD_nil, List.drop_nil]))
    all_goals ((try simp -implicitDefEqProofs only [push_cast, Nat.reduceAdd, Nat.reduceSub, Nat.reduceMul, Nat.reduceLT, Nat.reduceLeDiff, Nat.reduceEqDiff, Nat.reduceBEq, reduceCtorEq, reduceIte, Int.reduceLE, Int.reduceLT, Int.reduceNeg, Int.reduceToNat]))

end Go.Sim.Tryz
set_option linter.unusedSimpArgs false
set_option linter.unusedVariables false
set_option maxRecDepth 100000
namespace Go.Sim.Tryz
open Go Go.Sim
attribute [local push_cast] aops_cons aops_nil aopG_none aopG_some aopP_eq aopE_eq aopC_eq aopE?_eq aopC?_eq aopB_eq aopB?_eq abr anilq gopP_eq gopL_eq ahead_cons ahead_nil ahdG_none ahdG_some ahdP_eq ahdN_eq ahdC_eq ahdN?_eq ahdS_eq ahdS?_eq astoreN ahdC?_eq ghdP_eq ghdC_eq ghdC?_eq ghdZ_f ghdZ_t ahdI_eq ahdI?_eq ghdN?_eq aim_nil aim_cons isIn_nil isIn_none isIn_cons aimm aheP_eq aheA_eq aheC_eq aheC?_eq aheI?_eq aheA?_eq gheP_eq gheC_eq gheC?_eq gheZ_eq aheG_none aheG_some aheff_cons aheff_nil aapp gro_rsl gro_lit gro_esl opt_some opt_none no_eq acondT_true acondT_false acondT_lit aw_skip aw_region aw_regionD aw_seq aw_cond aw_block aw_loop aw_exit aw_label aw_ret thn_normal thn_exit thn_ret inb_normal inb_exit inb_ret qret_ret qret_normal gcond apure aeff anew acallee ares aresT aresL aresC ares1 qfin_eq ev ofV evL gokL tget tput_some tput_none initT abin aint aun aload afaddr aiaddr afield aindex aextract apick pickv_lit Bool.or_false Bool.false_or Bool.or_true Bool.true_or imp_self aslice chunk abound aconv abuild afill splice alen aminmax abuiltin anil apart Value.oneCell' astore aappend srcEs abuildSlice asets isEq plus_obj plus_nxt plus_add plus_set plus_del IntKind.bits Option.map_some Option.map_none Option.bind_some Option.bind_none Option.join_some Option.getD_some Option.getD_none Option.toList Option.isSome_some List.getElem?_toArray List.getElem?_cons_zero List.getElem?_cons_succ List.getElem?_nil List.length_cons List.length_nil List.length_map List.head?_cons List.cons_append List.nil_append List.append_nil List.map_cons List.map_nil List.getD_cons_zero List.getD_cons_succ List.replicate_succ List.replicate_zero List.set_cons_zero List.set_cons_succ List.take_succ_cons List.take_zero List.drop_succ_cons List.drop_zero List.all_cons List.all_nil Nat.zero_add if_true if_false true_and and_true false_and and_false true_implies implies_true forall_const Bool.and_true Bool.true_and Bool.false_and Bool.and_false Bool.true_beq Bool.false_beq Bool.not_not beq_tt beq_ff Int.toNat_natCast decide_true decide_false Bool.not_true Bool.not_false Bool.true_eq_false Bool.false_eq_true false_implies exists_prop eq_self bne_self_eq_false beq_self_eq_true decide_eq_true_eq decide_eq_false_iff_not Bool.not_eq_true' Bool.not_eq_false' AV.int AV.bool AV.nilS ne_eq not_false_eq_true not_true_eq_false exists_eq_left exists_eq_left' Nat.lt_irrefl core_lit grd_lit acells_lit one_lit core_agg grd_agg acells_agg one_agg core_tup grd_tup acells_tup one_tup core_sl grd_sl acells_sl one_sl core_esl grd_esl acells_esl one_esl core_rsl grd_rsl acells_rsl one_rsl core_ptr grd_ptr acells_ptr one_ptr core_iptr grd_iptr acells_iptr one_iptr core_clo grd_clo acells_clo one_clo core_mp grd_mp acells_mp one_mp core_any grd_any acells_any one_any core_gv grd_gv fit_agg fit_lit fit_sl fit_esl fit_rsl fit_ptr fit_iptr fit_clo fit_mp retq_ret retq_normal set_nxt set_set plus_obj_set plus_set_set app_get0 app_get app_set0 app_set List.append_assoc List.length_append List.length_set Nat.lt_add_one Nat.add_lt_add_iff_right Nat.lt_add_right_iff_pos Nat.add_lt_add_iff_left List.mem_cons List.not_mem_nil or_false forall_eq forall_eq_or_imp lt_s0 lt_s1 lt_s2 lt_s3 lt_s4 lt_s5 lt_s6 lt_s7 lt_s8 pickv_t pickv_f or_nand or_nand2 imp_and_l SealT SealOs sealO_cells sl_lit sl_any sl_agg sl_tup sl_sl sl_rsl slO sl_esl sl_nil sl_eslesl sl_eslnil sl_rslrsl sl_eslrsl sl_nilrsl sl_ptr sl_iptr sl_ptri slP sl_clo sl_mp sl_gv sll_nil sll_cons slll_nil slll_cons shut_eq shutO Option.join_none Fn.func.injEq and_self sealL_self sealLL_self seal_self PureL PureLL Pure Nat.le_refl Nat.zero_le AV.lit.injEq Value.int.injEq Value.bool.injEq false_or or_true true_or Int.natCast_zero Int.ofNat_zero Int.cast_ofNat_Int Int.natCast_add Int.natCast_one Option.some.injEq piL_is sop_nil sop_cons sop_none sop_some sopO_some sop_new shut_pi shutL_nil shutL_cons exQ_exit exQ_ret exQ_normal Go.Sim.Tryz.ty_load1 Go.Sim.Tryz.ty_zero1 Go.Sim.Tryz.ty_load2 Go.Sim.Tryz.ty_zero2 Go.Sim.Tryz.ty_und2 Go.Sim.Tryz.ty_load3 Go.Sim.Tryz.ty_zero3 Go.Sim.Tryz.ty_und3 Go.Sim.Tryz.ty_load4 Go.Sim.Tryz.ty_zero4 Go.Sim.Tryz.ty_und4 Go.Sim.Tryz.ty_load5 Go.Sim.Tryz.ty_zero5 Go.Sim.Tryz.ty_und5 Go.Sim.Tryz.ty_load9 Go.Sim.Tryz.ty_zero9 Go.Sim.Tryz.ty_und9 Go.Sim.Tryz.ty_load22 Go.Sim.Tryz.ty_zero22 Go.Sim.Tryz.ty_el22 Go.Sim.Tryz.ty_zeroE22 Go.Sim.Tryz.ty_load24 Go.Sim.Tryz.ty_zero24 Go.Sim.Tryz.ty_fld24_0 Go.Sim.Tryz.ty_part24_0 Go.Sim.Tryz.ty_struct24 Go.Sim.Tryz.ty_load25 Go.Sim.Tryz.ty_zero25 Go.Sim.Tryz.ty_el25 Go.Sim.Tryz.ty_zeroE25 Go.Sim.Tryz.ty_load26 Go.Sim.Tryz.ty_zero26 Go.Sim.Tryz.ty_el26 Go.Sim.Tryz.ty_zeroE26 Go.Sim.Tryz.ty_load28 Go.Sim.Tryz.ty_zero28 Go.Sim.Tryz.ty_fld28_0 Go.Sim.Tryz.ty_part28_0 Go.Sim.Tryz.ty_fld28_1 Go.Sim.Tryz.ty_part28_1 Go.Sim.Tryz.ty_fld28_2 Go.Sim.Tryz.ty_part28_2 Go.Sim.Tryz.ty_fld28_3 Go.Sim.Tryz.ty_part28_3 Go.Sim.Tryz.ty_fld28_4 Go.Sim.Tryz.ty_part28_4 Go.Sim.Tryz.ty_fld28_5 Go.Sim.Tryz.ty_part28_5 Go.Sim.Tryz.ty_struct28 Go.Sim.Tryz.ty_load36 Go.Sim.Tryz.ty_zero36 Go.Sim.Tryz.ty_fld36_0 Go.Sim.Tryz.ty_part36_0 Go.Sim.Tryz.ty_fld36_1 Go.Sim.Tryz.ty_part36_1 Go.Sim.Tryz.ty_struct36 Go.Sim.Tryz.ty_load38 Go.Sim.Tryz.ty_zero38 Go.Sim.Tryz.ty_fld38_0 Go.Sim.Tryz.ty_part38_0 Go.Sim.Tryz.ty_fld38_1 Go.Sim.Tryz.ty_part38_1 Go.Sim.Tryz.ty_fld38_2 Go.Sim.Tryz.ty_part38_2 Go.Sim.Tryz.ty_fld38_3 Go.Sim.Tryz.ty_part38_3 Go.Sim.Tryz.ty_struct38 Go.Sim.Tryz.ty_load48 Go.Sim.Tryz.ty_zero48 Go.Sim.Tryz.ty_el48 Go.Sim.Tryz.ty_zeroE48 Go.Sim.Tryz.ty_load51 Go.Sim.Tryz.ty_zero51 Go.Sim.Tryz.ty_arr51 Go.Sim.Tryz.ty_part51_0 Go.Sim.Tryz.ty_part51_1 Go.Sim.Tryz.ty_struct51 Go.Sim.Tryz.ty_load59 Go.Sim.Tryz.ty_zero59 Go.Sim.Tryz.ty_fld59_0 Go.Sim.Tryz.ty_part59_0 Go.Sim.Tryz.ty_fld59_1 Go.Sim.Tryz.ty_part59_1 Go.Sim.Tryz.ty_struct59 Go.Sim.Tryz.ty_load60 Go.Sim.Tryz.ty_zero60 Go.Sim.Tryz.ty_el60 Go.Sim.Tryz.ty_zeroE60 Go.Sim.Tryz.ty_load62 Go.Sim.Tryz.ty_zero62 Go.Sim.Tryz.ty_fld62_0 Go.Sim.Tryz.ty_part62_0 Go.Sim.Tryz.ty_struct62 Go.Sim.Tryz.ty_load67 Go.Sim.Tryz.ty_zero67 Go.Sim.Tryz.ty_load68 Go.Sim.Tryz.ty_zero68 Go.Sim.Tryz.ty_load75 Go.Sim.Tryz.ty_zero75 Go.Sim.Tryz.ty_load76 Go.Sim.Tryz.ty_zero76 Go.Sim.Tryz.ty_und76 Go.Sim.Tryz.ty_load82 Go.Sim.Tryz.ty_zero82 Go.Sim.Tryz.ty_und82 Go.Sim.Tryz.ty_load85 Go.Sim.Tryz.ty_zero85 Go.Sim.Tryz.ty_und85 Go.Sim.Tryz.ty_load89 Go.Sim.Tryz.ty_zero89 Go.Sim.Tryz.ty_el89 Go.Sim.Tryz.ty_zeroE89 Go.Sim.Tryz.ty_load90 Go.Sim.Tryz.ty_zero90 Go.Sim.Tryz.ty_el90 Go.Sim.Tryz.ty_zeroE90 Go.Sim.Tryz.ty_load93 Go.Sim.Tryz.ty_zero93 Go.Sim.Tryz.ty_load98 Go.Sim.Tryz.ty_zero98 Go.Sim.Tryz.ty_fld98_0 Go.Sim.Tryz.ty_part98_0 Go.Sim.Tryz.ty_fld98_1 Go.Sim.Tryz.ty_part98_1 Go.Sim.Tryz.ty_fld98_2 Go.Sim.Tryz.ty_part98_2 Go.Sim.Tryz.ty_struct98 Go.Sim.Tryz.ty_load100 Go.Sim.Tryz.ty_zero100 Go.Sim.Tryz.ty_load106 Go.Sim.Tryz.ty_zero106 Go.Sim.Tryz.ty_load110 Go.Sim.Tryz.ty_zero110 Go.Sim.Tryz.ty_und110 Go.Sim.Tryz.ty_load118 Go.Sim.Tryz.ty_zero118 Go.Sim.Tryz.ty_und118 Go.Sim.Tryz.ty_load121 Go.Sim.Tryz.ty_zero121 Go.Sim.Tryz.ty_load128 Go.Sim.Tryz.ty_zero128 Go.Sim.Tryz.ty_und128 Go.Sim.Tryz.ty_load132 Go.Sim.Tryz.ty_zero132 encE_mk encE_take encE_len encV encE_one encEs_pure encE_pure

def Qy.In (q : Qy) : Prop := (∀ x ∈ q.out, In64 x) ∧ (∀ x ∈ q.sums, In64 x) ∧ In64 q.by_
def exR (c : List Df) (q : Qy) (e : Ex) : Bool := e.cols.all (isCol c q) && !decide (e.cols.length = 0)
def outR (c : List Df) (q : Qy) (i : Nat) : Bool := isCol c q (q.out.getD i 0) && decide (idx (fun x => decide (q.out.getD i 0 = x)) q.out = i)
def endR (c : List Df) (q : Qy) : Bool :=
  if q.by_ = -1 then decide (q.sums.length = 0) && decide (0 < q.out.length) && (decide (q.ord = -1) || decide (0 ≤ idx (fun x => decide (q.ord = x)) q.out))
  else isCol c q q.by_ && decide (q.out.length = 0) && (decide (q.ord = -1) || decide (q.ord = q.by_))
def hdR (c : List Df) (q : Qy) : Bool := catMay c && decide (1 ≤ q.occ.length) && decide (q.occ.length ≤ 4) && decide (q.p.length ≤ 6) && decide (q.sums.length ≤ 4) && decide (q.out.length ≤ 8)
def Qy.mayR (q : Qy) (c : List Df) : Bool :=
  hdR c q && q.occ.all (tabOk c) && q.p.all (exR c q) && (List.range q.out.length).all (outR c q) && q.sums.all (isCol c q) && endR c q
theorem out_R (q : Qy) (c : List Df) : (List.range q.out.length).all (outR c q) = (q.out.all (isCol c q) && decide q.out.Nodup) := by
  have hg : ∀ i, (h : i < q.out.length) → q.out.getD i 0 = q.out[i] := fun i h => by rw [List.getD_eq_getElem?_getD, List.getElem?_eq_getElem h]; rfl
  rw [Bool.eq_iff_iff, Bool.and_eq_true, List.all_eq_true, List.all_eq_true, decide_eq_true_eq, ← place_iff]
  constructor
  · intro h
    have h' : ∀ i, (hi : i < q.out.length) → isCol c q q.out[i] = true ∧ idx (fun x => decide (q.out[i] = x)) q.out = i := fun i hi => by
      have := h i (List.mem_range.2 hi)
      rw [outR, hg i hi, Bool.and_eq_true, decide_eq_true_eq] at this
      exact this
    refine ⟨fun x hx => ?_, fun i hi => (h' i hi).2⟩
    obtain ⟨i, hi, rfl⟩ := List.mem_iff_getElem.1 hx
    exact (h' i hi).1
  · rintro ⟨h1, h2⟩ i hi
    rw [List.mem_range] at hi
    rw [outR, hg i hi, Bool.and_eq_true, decide_eq_true_eq]
    exact ⟨h1 _ (List.getElem_mem hi), h2 i hi⟩
theorem ex_R (q : Qy) (c : List Df) (e : Ex) : exR c q e = exIn (colsIn c q fun _ => true) e := by
  rw [exR, exIn, within_isCol, Bool.and_comm]
theorem mayQ_eq (q : Qy) (c : List Df) : q.mayR c = q.may c := by
  have hord : decide (0 ≤ idx (fun x => decide (q.ord = x)) q.out) = q.out.contains q.ord := by
    have := idx_neg q.out q.ord
    rw [← Bool.not_inj_iff, ← this, ← decide_not, decide_eq_decide]
    omega
  have hex : q.p.all (exR c q) = q.p.all (exIn (colsIn c q fun _ => true)) := congrArg _ (funext fun e => ex_R q c e)
  have hs0 : q.sums.length = 0 → q.sums.all (isCol c q) = true := fun h => by
    rw [List.eq_nil_of_length_eq_zero h]; rfl
  have ho0 : q.out.length = 0 → q.out.all (isCol c q) = true ∧ q.out.Nodup := fun h => by
    rw [List.eq_nil_of_length_eq_zero h]; simp
  have hb : within [q.by_] (colsIn c q fun _ => true) = isCol c q q.by_ := by
    rw [within_isCol]; simp
  rw [Qy.mayR, out_R, hex, hdR, endR, Qy.may, endMay, hord, within_isCol c q q.out, within_isCol c q q.sums, hb, Bool.eq_iff_iff]
  by_cases h : q.by_ = -1
  · rw [if_pos h, if_pos h]
    simp only [Bool.and_eq_true, decide_eq_true_eq, Bool.or_eq_true]
    constructor
    · rintro ⟨⟨⟨⟨⟨⟨⟨⟨⟨⟨z, a⟩, b⟩, d⟩, e⟩, f⟩, g⟩, i⟩, j, k⟩, l⟩, ⟨m, n⟩, o⟩
      exact ⟨⟨⟨⟨⟨⟨z, a⟩, b⟩, g⟩, d⟩, i⟩, ⟨⟨⟨⟨⟨by omega, f⟩, k⟩, j⟩, m⟩, o⟩⟩
    · rintro ⟨⟨⟨⟨⟨⟨z, a⟩, b⟩, g⟩, d⟩, i⟩, ⟨⟨⟨⟨⟨n, f⟩, k⟩, j⟩, m⟩, o⟩⟩
      exact ⟨⟨⟨⟨⟨⟨⟨⟨⟨⟨z, a⟩, b⟩, d⟩, by omega⟩, f⟩, g⟩, i⟩, j, k⟩, hs0 m⟩, ⟨m, by omega⟩, o⟩
  · rw [if_neg h, if_neg h]
    simp only [Bool.and_eq_true, decide_eq_true_eq, Bool.or_eq_true]
    constructor
    · rintro ⟨⟨⟨⟨⟨⟨⟨⟨⟨⟨z, a⟩, b⟩, d⟩, e⟩, f⟩, g⟩, i⟩, j, k⟩, l⟩, ⟨m, n⟩, o⟩
      exact ⟨⟨⟨⟨⟨⟨z, a⟩, b⟩, g⟩, d⟩, i⟩, ⟨⟨⟨⟨m, e⟩, l⟩, n⟩, o⟩⟩
    · rintro ⟨⟨⟨⟨⟨⟨z, a⟩, b⟩, g⟩, d⟩, i⟩, ⟨⟨⟨⟨m, e⟩, l⟩, n⟩, o⟩⟩
      exact ⟨⟨⟨⟨⟨⟨⟨⟨⟨⟨z, a⟩, b⟩, d⟩, e⟩, by omega⟩, g⟩, i⟩, (ho0 n).1, (ho0 n).2⟩, l⟩, ⟨m, n⟩, o⟩
theorem MayRQ_ok (c : List Df) (hcl : c.length ≤ 1000000) (q : Qy) (hq : q.Ok) (hin : q.In) : Quiet Go.Proofs.Tryz.prog 29 [.agg [.sl (c.map encD)], .agg (encQ q)] (.bool (q.may c)) := by
  rw [← mayQ_eq]
  obtain ⟨hP, hex, hO, hS, hT⟩ := hq
  obtain ⟨hin1, hin2, hin3⟩ := hin
  refine quiet_of (rs := #[.tmp 4]) Go.Proofs.Tryz.func29 rfl rfl rfl mixed rfl rfl fun H hs => ?_
  simp -implicitDefEqProofs only [push_cast, Nat.reduceAdd, Nat.reduceSub, Nat.reduceMul, Nat.reduceLT, Nat.reduceLeDiff, Nat.reduceEqDiff, Nat.reduceBEq, reduceCtorEq, reduceIte, Int.reduceLE, Int.reduceLT, Int.reduceNeg, Int.reduceToNat, encQ]
  refine callq (MayC_ok c hcl) ?_
  simp -implicitDefEqProofs only [push_cast, Nat.reduceAdd, Nat.reduceSub, Nat.reduceMul, Nat.reduceLT, Nat.reduceLeDiff, Nat.reduceEqDiff, Nat.reduceBEq, reduceCtorEq, reduceIte, Int.reduceLE, Int.reduceLT, Int.reduceNeg, Int.reduceToNat, encQ]
  refine ⟨fun h => ?_, fun h => ?_⟩
  · have : q.mayR c = false := by
      have h0 : hdR c q = false := by
        simp only [Bool.or_eq_true, Bool.not_eq_true', decide_eq_true_eq] at h
        unfold hdR
        rcases h with ((((h | h) | h) | h) | h) | h
        · simp [h]
        · simp [decide_eq_false (show ¬ 1 ≤ q.occ.length by omega)]
        · simp [decide_eq_false (show ¬ q.occ.length ≤ 4 by omega)]
        · simp [decide_eq_false (show ¬ q.p.length ≤ 6 by omega)]
        · simp [decide_eq_false (show ¬ q.sums.length ≤ 4 by omega)]
        · simp [decide_eq_false (show ¬ q.out.length ≤ 8 by omega)]
      rw [Qy.mayR, h0]; rfl
    exact this.symm
  have hh : hdR c q = true ∧ catMay c = true ∧ q.occ.length ≤ 4 ∧ q.p.length ≤ 6 ∧ q.sums.length ≤ 4 ∧ q.out.length ≤ 8 := by
    simp only [Bool.or_eq_false_iff, Bool.not_eq_false', decide_eq_false_iff_not] at h
    obtain ⟨⟨⟨⟨⟨h1, h2⟩, h3⟩, h4⟩, h5⟩, h6⟩ := h
    refine ⟨?_, h1, by omega, by omega, by omega, by omega⟩
    rw [hdR, h1, decide_eq_true (show 1 ≤ q.occ.length by omega), decide_eq_true (show q.occ.length ≤ 4 by omega), decide_eq_true (show q.p.length ≤ 6 by omega), decide_eq_true (show q.sums.length ≤ 4 by omega), decide_eq_true (show q.out.length ≤ 8 by omega)]
    rfl
  obtain ⟨hhd, hc, ho4, hp6, hs4, ht8⟩ := hh
  have hmay : q.mayR c = (q.occ.all (tabOk c) && q.p.all (exR c q) && (List.range q.out.length).all (outR c q) && q.sums.all (isCol c q) && endR c q) := by
    rw [Qy.mayR, hhd]; simp only [Bool.true_and]
  rw [hmay]
  have hcol : ∀ id, In64 id → Quiet Go.Proofs.Tryz.prog 74 [.agg [.sl (c.map encD)], .agg (encQ q), .int id] (.bool (isCol c q id)) := fun id hid => column_ok c hcl q hO id hid
  simp only [encQ] at hcol
  refine loop_at hs (σ := Nat) (fun i => i ≤ q.occ.length ∧ (q.occ.take i).all (tabOk c) = true) (fun i => q.occ.length - i)
    (fun i => [(6, .int i), (2, .ptr (H.nxt + 0) 1 0 0), (3, .ptr (H.nxt + 1) 6 0 0)]) (fun i => [some (.cells 1 [[.sl (c.map encD)]] 0), some (.cells 6 [encQ q] 0)]) [some 0, some 1] 0 ⟨by omega, rfl⟩ rfl ?_ ?_ ?_
  · (try simp -implicitDefEqProofs only [push_cast, Nat.reduceAdd, Nat.reduceSub, Nat.reduceMul, Nat.reduceLT, Nat.reduceLeDiff, Nat.reduceEqDiff, Nat.reduceBEq, reduceCtorEq, reduceIte, Int.reduceLE, Int.reduceLT, Int.reduceNeg, Int.reduceToNat, encDs_pure, encEs_pure, encIs_pure, encQ])
  · (try simp -implicitDefEqProofs only [push_cast, Nat.reduceAdd, Nat.reduceSub, Nat.reduceMul, Nat.reduceLT, Nat.reduceLeDiff, Nat.reduceEqDiff, Nat.reduceBEq, reduceCtorEq, reduceIte, Int.reduceLE, Int.reduceLT, Int.reduceNeg, Int.reduceToNat, encDs_pure, encEs_pure, encIs_pure, encQ])
  rintro i ⟨hi2, hia⟩
  by_cases hi : i < q.occ.length
  · have hi' : ((i : Int) < (q.occ.length : Int)) = True := by simp; omega
    have hi0 : (0 ≤ (i : Int)) = True := by simp
    simp -implicitDefEqProofs only [push_cast, Nat.reduceAdd, Nat.reduceSub, Nat.reduceMul, Nat.reduceLT, Nat.reduceLeDiff, Nat.reduceEqDiff, Nat.reduceBEq, reduceCtorEq, reduceIte, Int.reduceLE, Int.reduceLT, Int.reduceNeg, Int.reduceToNat, hi', hi0, encIs_get q.occ i hi, encI, encQ]
    refine areg_at 17 (by kernel_rfl) (by kernel_rfl) ?_
    simp -implicitDefEqProofs only [push_cast, Nat.reduceAdd, Nat.reduceSub, Nat.reduceMul, Nat.reduceLT, Nat.reduceLeDiff, Nat.reduceEqDiff, Nat.reduceBEq, reduceCtorEq, reduceIte, Int.reduceLE, Int.reduceLT, Int.reduceNeg, Int.reduceToNat, hi', hi0, encIs_get q.occ i hi, encI, encQ]
    have ht : (decide (q.occ[i] < 0) || decide ((c.length : Int) ≤ q.occ[i])) = !tabOk c q.occ[i] := by
      unfold tabOk
      rw [Bool.not_and, ← decide_not, ← decide_not]
      congr 1 <;> rw [decide_eq_decide] <;> omega
    rw [ht]
    refine ⟨fun h => ?_, fun h => ?_⟩
    · have : q.occ.all (tabOk c) = false := by rw [List.all_eq_false]; exact ⟨_, List.getElem_mem hi, by simpa using h⟩
      rw [this]; rfl
    · rw [wrap64 (n := (i : Int) + 1) (by omega) (by omega)]
      refine next_at [some 0, some 1] (i + 1) ⟨by omega, ?_⟩ (by omega) rfl ?_ ?_
      · rw [List.take_succ_eq_append_getElem hi, List.all_append, hia, List.all_cons]
        simpa using h
      · (try simp -implicitDefEqProofs only [push_cast, Nat.reduceAdd, Nat.reduceSub, Nat.reduceMul, Nat.reduceLT, Nat.reduceLeDiff, Nat.reduceEqDiff, Nat.reduceBEq, reduceCtorEq, reduceIte, Int.reduceLE, Int.reduceLT, Int.reduceNeg, Int.reduceToNat, encDs_pure, encEs_pure, encIs_pure, encQ])
      · (try simp -implicitDefEqProofs only [push_cast, Nat.reduceAdd, Nat.reduceSub, Nat.reduceMul, Nat.reduceLT, Nat.reduceLeDiff, Nat.reduceEqDiff, Nat.reduceBEq, reduceCtorEq, reduceIte, Int.reduceLE, Int.reduceLT, Int.reduceNeg, Int.reduceToNat, encDs_pure, encEs_pure, encIs_pure, encQ])
  have hi' : ((i : Int) < (q.occ.length : Int)) = False := by simp; omega
  obtain rfl : i = q.occ.length := by omega
  rw [List.take_length] at hia
  rw [hia, Bool.true_and]
  simp -implicitDefEqProofs only [push_cast, Nat.reduceAdd, Nat.reduceSub, Nat.reduceMul, Nat.reduceLT, Nat.reduceLeDiff, Nat.reduceEqDiff, Nat.reduceBEq, reduceCtorEq, reduceIte, Int.reduceLE, Int.reduceLT, Int.reduceNeg, Int.reduceToNat, hi', encQ]
  clear hia hi hi' hi2
  refine loop_at hs (σ := Nat) (fun i => i ≤ q.p.length ∧ (q.p.take i).all (exR c q) = true) (fun i => q.p.length - i)
    (fun i => [(7, .int i), (2, .ptr (H.nxt + 0) 1 0 0), (3, .ptr (H.nxt + 1) 6 0 0)]) (fun i => [some (.cells 1 [[.sl (c.map encD)]] 0), some (.cells 6 [encQ q] 0)]) [some 0, some 1] 0 ⟨by omega, rfl⟩ rfl ?_ ?_ ?_
  · (try simp -implicitDefEqProofs only [push_cast, Nat.reduceAdd, Nat.reduceSub, Nat.reduceMul, Nat.reduceLT, Nat.reduceLeDiff, Nat.reduceEqDiff, Nat.reduceBEq, reduceCtorEq, reduceIte, Int.reduceLE, Int.reduceLT, Int.reduceNeg, Int.reduceToNat, encDs_pure, encEs_pure, encIs_pure, encQ])
  · (try simp -implicitDefEqProofs only [push_cast, Nat.reduceAdd, Nat.reduceSub, Nat.reduceMul, Nat.reduceLT, Nat.reduceLeDiff, Nat.reduceEqDiff, Nat.reduceBEq, reduceCtorEq, reduceIte, Int.reduceLE, Int.reduceLT, Int.reduceNeg, Int.reduceToNat, encDs_pure, encEs_pure, encIs_pure, encQ])
  rintro i ⟨hi2, hia⟩
  by_cases hi : i < q.p.length
  · have hi' : ((i : Int) < (q.p.length : Int)) = True := by simp; omega
    have hi0 : (0 ≤ (i : Int)) = True := by simp
    have hok := hex _ (List.getElem_mem hi)
    have hno : exR c q q.p[i] = false → q.p.all (exR c q) = false := fun h => by
      rw [List.all_eq_false]; exact ⟨_, List.getElem_mem hi, by rw [h]; simp⟩
    have hcr := cols_rng q.p[i]
    have hcl2 : q.p[i].cols.length ≤ 1000000 := Nat.le_trans (cols_len _) hok.2
    simp -implicitDefEqProofs only [push_cast, Nat.reduceAdd, Nat.reduceSub, Nat.reduceMul, Nat.reduceLT, Nat.reduceLeDiff, Nat.reduceEqDiff, Nat.reduceBEq, reduceCtorEq, reduceIte, Int.reduceLE, Int.reduceLT, Int.reduceNeg, Int.reduceToNat, hi', hi0, encEs_get q.p i hi, encQ]
    refine callq (ColsR_ok2 _ hok.1) ?_
    simp -implicitDefEqProofs only [push_cast, Nat.reduceAdd, Nat.reduceSub, Nat.reduceMul, Nat.reduceLT, Nat.reduceLeDiff, Nat.reduceEqDiff, Nat.reduceBEq, reduceCtorEq, reduceIte, Int.reduceLE, Int.reduceLT, Int.reduceNeg, Int.reduceToNat, encQ]
    have hyes : exR c q q.p[i] = true → (q.p.take (i + 1)).all (exR c q) = true := fun h => by
      rw [List.take_succ_eq_append_getElem hi, List.all_append, hia, List.all_cons, h]; rfl
    have hexR : exR c q q.p[i] = (q.p[i].cols.all (isCol c q) && !decide (q.p[i].cols.length = 0)) := rfl
    generalize q.p[i].cols = cols at hcr hcl2 hexR ⊢
    refine loop_at hs (σ := Nat) (fun k => k ≤ cols.length ∧ (cols.take k).all (isCol c q) = true) (fun k => cols.length - k)
      (fun k => [(9, .int k), (8, .sl (cols.map encI)), (7, .int i), (2, .ptr (H.nxt + 0) 1 0 0), (3, .ptr (H.nxt + 1) 6 0 0)]) (fun k => [some (.cells 1 [[.sl (c.map encD)]] 0), some (.cells 6 [encQ q] 0)]) [some 0, some 1] 0 ⟨by omega, rfl⟩ rfl ?_ ?_ ?_
    · (try simp -implicitDefEqProofs only [push_cast, Nat.reduceAdd, Nat.reduceSub, Nat.reduceMul, Nat.reduceLT, Nat.reduceLeDiff, Nat.reduceEqDiff, Nat.reduceBEq, reduceCtorEq, reduceIte, Int.reduceLE, Int.reduceLT, Int.reduceNeg, Int.reduceToNat, encDs_pure, encEs_pure, encIs_pure, encQ])
    · (try simp -implicitDefEqProofs only [push_cast, Nat.reduceAdd, Nat.reduceSub, Nat.reduceMul, Nat.reduceLT, Nat.reduceLeDiff, Nat.reduceEqDiff, Nat.reduceBEq, reduceCtorEq, reduceIte, Int.reduceLE, Int.reduceLT, Int.reduceNeg, Int.reduceToNat, encDs_pure, encEs_pure, encIs_pure, encQ])
    rintro k ⟨hk2, hka⟩
    by_cases hk : k < cols.length
    · have hk' : ((k : Int) < (cols.length : Int)) = True := by simp; omega
      have hk0 : (0 ≤ (k : Int)) = True := by simp
      have hr := hcr _ (List.getElem_mem hk)
      simp -implicitDefEqProofs only [push_cast, Nat.reduceAdd, Nat.reduceSub, Nat.reduceMul, Nat.reduceLT, Nat.reduceLeDiff, Nat.reduceEqDiff, Nat.reduceBEq, reduceCtorEq, reduceIte, Int.reduceLE, Int.reduceLT, Int.reduceNeg, Int.reduceToNat, hk', hk0, encQ]
      refine areg_at 8 (by kernel_rfl) (by kernel_rfl) ?_
      simp -implicitDefEqProofs only [push_cast, Nat.reduceAdd, Nat.reduceSub, Nat.reduceMul, Nat.reduceLT, Nat.reduceLeDiff, Nat.reduceEqDiff, Nat.reduceBEq, reduceCtorEq, reduceIte, Int.reduceLE, Int.reduceLT, Int.reduceNeg, Int.reduceToNat, hk', hk0, encIs_get cols k hk, encI, encQ]
      refine ahdq (hcol cols[k] (by unfold In64; omega)) ?_
      simp -implicitDefEqProofs only [push_cast, Nat.reduceAdd, Nat.reduceSub, Nat.reduceMul, Nat.reduceLT, Nat.reduceLeDiff, Nat.reduceEqDiff, Nat.reduceBEq, reduceCtorEq, reduceIte, Int.reduceLE, Int.reduceLT, Int.reduceNeg, Int.reduceToNat, encQ]
      refine ⟨fun h => ?_, fun h => ?_⟩
      · have : cols.all (isCol c q) = false := by rw [List.all_eq_false]; exact ⟨_, List.getElem_mem hk, by simp [h]⟩
        rw [hno (by rw [hexR, this]; rfl)]; rfl
      · rw [wrap64 (n := (k : Int) + 1) (by omega) (by omega)]
        refine next_at [some 0, some 1] (k + 1) ⟨by omega, ?_⟩ (by omega) rfl ?_ ?_
        · rw [List.take_succ_eq_append_getElem hk, List.all_append, hka, List.all_cons, h]; rfl
        · (try simp -implicitDefEqProofs only [push_cast, Nat.reduceAdd, Nat.reduceSub, Nat.reduceMul, Nat.reduceLT, Nat.reduceLeDiff, Nat.reduceEqDiff, Nat.reduceBEq, reduceCtorEq, reduceIte, Int.reduceLE, Int.reduceLT, Int.reduceNeg, Int.reduceToNat, encDs_pure, encEs_pure, encIs_pure, encQ])
        · (try simp -implicitDefEqProofs only [push_cast, Nat.reduceAdd, Nat.reduceSub, Nat.reduceMul, Nat.reduceLT, Nat.reduceLeDiff, Nat.reduceEqDiff, Nat.reduceBEq, reduceCtorEq, reduceIte, Int.reduceLE, Int.reduceLT, Int.reduceNeg, Int.reduceToNat, encDs_pure, encEs_pure, encIs_pure, encQ])
    · have hk' : ((k : Int) < (cols.length : Int)) = False := by simp; omega
      obtain rfl : k = cols.length := by omega
      rw [List.take_length] at hka
      simp -implicitDefEqProofs only [push_cast, Nat.reduceAdd, Nat.reduceSub, Nat.reduceMul, Nat.reduceLT, Nat.reduceLeDiff, Nat.reduceEqDiff, Nat.reduceBEq, reduceCtorEq, reduceIte, Int.reduceLE, Int.reduceLT, Int.reduceNeg, Int.reduceToNat, hk', encQ]
      refine ⟨fun h => ?_, fun h => ?_⟩
      · rw [hno (by rw [hexR, decide_eq_true (show cols.length = 0 by omega)]; simp)]; rfl
      · rw [wrap64 (n := (i : Int) + 1) (by omega) (by omega)]
        refine next_at [some 0, some 1] (i + 1) ⟨by omega, hyes ?_⟩ (by omega) rfl ?_ ?_
        · rw [hexR, hka, decide_eq_false (show ¬ cols.length = 0 by omega)]; rfl
        · (try simp -implicitDefEqProofs only [push_cast, Nat.reduceAdd, Nat.reduceSub, Nat.reduceMul, Nat.reduceLT, Nat.reduceLeDiff, Nat.reduceEqDiff, Nat.reduceBEq, reduceCtorEq, reduceIte, Int.reduceLE, Int.reduceLT, Int.reduceNeg, Int.reduceToNat, encDs_pure, encEs_pure, encIs_pure, encQ])
        · (try simp -implicitDefEqProofs only [push_cast, Nat.reduceAdd, Nat.reduceSub, Nat.reduceMul, Nat.reduceLT, Nat.reduceLeDiff, Nat.reduceEqDiff, Nat.reduceBEq, reduceCtorEq, reduceIte, Int.reduceLE, Int.reduceLT, Int.reduceNeg, Int.reduceToNat, encDs_pure, encEs_pure, encIs_pure, encQ])
  have hi' : ((i : Int) < (q.p.length : Int)) = False := by simp; omega
  obtain rfl : i = q.p.length := by omega
  rw [List.take_length] at hia
  rw [hia, Bool.true_and]
  simp -implicitDefEqProofs only [push_cast, Nat.reduceAdd, Nat.reduceSub, Nat.reduceMul, Nat.reduceLT, Nat.reduceLeDiff, Nat.reduceEqDiff, Nat.reduceBEq, reduceCtorEq, reduceIte, Int.reduceLE, Int.reduceLT, Int.reduceNeg, Int.reduceToNat, hi', encQ]
  clear hia hi hi' hi2
  refine loop_at hs (σ := Nat) (fun i => i ≤ q.out.length ∧ (List.range i).all (outR c q) = true) (fun i => q.out.length - i)
    (fun i => [(11, .int i), (2, .ptr (H.nxt + 0) 1 0 0), (3, .ptr (H.nxt + 1) 6 0 0)]) (fun i => [some (.cells 1 [[.sl (c.map encD)]] 0), some (.cells 6 [encQ q] 0)]) [some 0, some 1] 0 ⟨by omega, rfl⟩ rfl ?_ ?_ ?_
  · (try simp -implicitDefEqProofs only [push_cast, Nat.reduceAdd, Nat.reduceSub, Nat.reduceMul, Nat.reduceLT, Nat.reduceLeDiff, Nat.reduceEqDiff, Nat.reduceBEq, reduceCtorEq, reduceIte, Int.reduceLE, Int.reduceLT, Int.reduceNeg, Int.reduceToNat, encDs_pure, encEs_pure, encIs_pure, encQ])
  · (try simp -implicitDefEqProofs only [push_cast, Nat.reduceAdd, Nat.reduceSub, Nat.reduceMul, Nat.reduceLT, Nat.reduceLeDiff, Nat.reduceEqDiff, Nat.reduceBEq, reduceCtorEq, reduceIte, Int.reduceLE, Int.reduceLT, Int.reduceNeg, Int.reduceToNat, encDs_pure, encEs_pure, encIs_pure, encQ])
  rintro i ⟨hi2, hia⟩
  by_cases hi : i < q.out.length
  · have hi' : ((i : Int) < (q.out.length : Int)) = True := by simp; omega
    have hi0 : (0 ≤ (i : Int)) = True := by simp
    simp -implicitDefEqProofs only [push_cast, Nat.reduceAdd, Nat.reduceSub, Nat.reduceMul, Nat.reduceLT, Nat.reduceLeDiff, Nat.reduceEqDiff, Nat.reduceBEq, reduceCtorEq, reduceIte, Int.reduceLE, Int.reduceLT, Int.reduceNeg, Int.reduceToNat, hi', hi0, encQ]
    refine areg_at 9 (by kernel_rfl) (by kernel_rfl) ?_
    simp -implicitDefEqProofs only [push_cast, Nat.reduceAdd, Nat.reduceSub, Nat.reduceMul, Nat.reduceLT, Nat.reduceLeDiff, Nat.reduceEqDiff, Nat.reduceBEq, reduceCtorEq, reduceIte, Int.reduceLE, Int.reduceLT, Int.reduceNeg, Int.reduceToNat, hi', hi0, encIs_get q.out i hi, encI, encQ]
    refine ahdq (hcol q.out[i] (hin1 _ (List.getElem_mem hi))) ?_
    simp -implicitDefEqProofs only [push_cast, Nat.reduceAdd, Nat.reduceSub, Nat.reduceMul, Nat.reduceLT, Nat.reduceLeDiff, Nat.reduceEqDiff, Nat.reduceBEq, reduceCtorEq, reduceIte, Int.reduceLE, Int.reduceLT, Int.reduceNeg, Int.reduceToNat, encQ]
    refine areg_at 14 (by kernel_rfl) (by kernel_rfl) ?_
    simp -implicitDefEqProofs only [push_cast, Nat.reduceAdd, Nat.reduceSub, Nat.reduceMul, Nat.reduceLT, Nat.reduceLeDiff, Nat.reduceEqDiff, Nat.reduceBEq, reduceCtorEq, reduceIte, Int.reduceLE, Int.reduceLT, Int.reduceNeg, Int.reduceToNat, hi', hi0, encIs_get q.out i hi, encI, encQ]
    refine gcallq (.int (idx (fun x => decide (q.out[i] = x)) q.out)) (fun _ => Place_ok _ hT _) ?_
    simp -implicitDefEqProofs only [push_cast, Nat.reduceAdd, Nat.reduceSub, Nat.reduceMul, Nat.reduceLT, Nat.reduceLeDiff, Nat.reduceEqDiff, Nat.reduceBEq, reduceCtorEq, reduceIte, Int.reduceLE, Int.reduceLT, Int.reduceNeg, Int.reduceToNat, encQ]
    have hg : q.out.getD i 0 = q.out[i] := by rw [List.getD_eq_getElem?_getD, List.getElem?_eq_getElem hi]; rfl
    have ho : outR c q i = !(!isCol c q q.out[i] || !decide (idx (fun x => decide (q.out[i] = x)) q.out = i)) := by
      rw [outR, hg, Bool.not_or, Bool.not_not, Bool.not_not]
    refine ⟨fun h => ?_, fun h => ?_⟩
    · have : (List.range q.out.length).all (outR c q) = false := by rw [List.all_eq_false]; exact ⟨i, List.mem_range.2 hi, by rw [ho, h]; simp⟩
      rw [this]; rfl
    · rw [wrap64 (n := (i : Int) + 1) (by omega) (by omega)]
      refine next_at [some 0, some 1] (i + 1) ⟨by omega, ?_⟩ (by omega) rfl ?_ ?_
      · rw [List.range_succ, List.all_append, hia, List.all_cons, ho, h]; rfl
      · (try simp -implicitDefEqProofs only [push_cast, Nat.reduceAdd, Nat.reduceSub, Nat.reduceMul, Nat.reduceLT, Nat.reduceLeDiff, Nat.reduceEqDiff, Nat.reduceBEq, reduceCtorEq, reduceIte, Int.reduceLE, Int.reduceLT, Int.reduceNeg, Int.reduceToNat, encDs_pure, encEs_pure, encIs_pure, encQ])
      · (try simp -implicitDefEqProofs only [push_cast, Nat.reduceAdd, Nat.reduceSub, Nat.reduceMul, Nat.reduceLT, Nat.reduceLeDiff, Nat.reduceEqDiff, Nat.reduceBEq, reduceCtorEq, reduceIte, Int.reduceLE, Int.reduceLT, Int.reduceNeg, Int.reduceToNat, encDs_pure, encEs_pure, encIs_pure, encQ])
  have hi' : ((i : Int) < (q.out.length : Int)) = False := by simp; omega
  obtain rfl : i = q.out.length := by omega
  rw [hia, Bool.true_and]
  simp -implicitDefEqProofs only [push_cast, Nat.reduceAdd, Nat.reduceSub, Nat.reduceMul, Nat.reduceLT, Nat.reduceLeDiff, Nat.reduceEqDiff, Nat.reduceBEq, reduceCtorEq, reduceIte, Int.reduceLE, Int.reduceLT, Int.reduceNeg, Int.reduceToNat, hi', encQ]
  clear hia hi hi' hi2
  refine loop_at hs (σ := Nat) (fun i => i ≤ q.sums.length ∧ (q.sums.take i).all (isCol c q) = true) (fun i => q.sums.length - i)
    (fun i => [(13, .int i), (2, .ptr (H.nxt + 0) 1 0 0), (3, .ptr (H.nxt + 1) 6 0 0)]) (fun i => [some (.cells 1 [[.sl (c.map encD)]] 0), some (.cells 6 [encQ q] 0)]) [some 0, some 1] 0 ⟨by omega, rfl⟩ rfl ?_ ?_ ?_
  · (try simp -implicitDefEqProofs only [push_cast, Nat.reduceAdd, Nat.reduceSub, Nat.reduceMul, Nat.reduceLT, Nat.reduceLeDiff, Nat.reduceEqDiff, Nat.reduceBEq, reduceCtorEq, reduceIte, Int.reduceLE, Int.reduceLT, Int.reduceNeg, Int.reduceToNat, encDs_pure, encEs_pure, encIs_pure, encQ])
  · (try simp -implicitDefEqProofs only [push_cast, Nat.reduceAdd, Nat.reduceSub, Nat.reduceMul, Nat.reduceLT, Nat.reduceLeDiff, Nat.reduceEqDiff, Nat.reduceBEq, reduceCtorEq, reduceIte, Int.reduceLE, Int.reduceLT, Int.reduceNeg, Int.reduceToNat, encDs_pure, encEs_pure, encIs_pure, encQ])
  rintro i ⟨hi2, hia⟩
  by_cases hi : i < q.sums.length
  · have hi' : ((i : Int) < (q.sums.length : Int)) = True := by simp; omega
    have hi0 : (0 ≤ (i : Int)) = True := by simp
    simp -implicitDefEqProofs only [push_cast, Nat.reduceAdd, Nat.reduceSub, Nat.reduceMul, Nat.reduceLT, Nat.reduceLeDiff, Nat.reduceEqDiff, Nat.reduceBEq, reduceCtorEq, reduceIte, Int.reduceLE, Int.reduceLT, Int.reduceNeg, Int.reduceToNat, hi', hi0, encQ]
    refine areg_at 9 (by kernel_rfl) (by kernel_rfl) ?_
    simp -implicitDefEqProofs only [push_cast, Nat.reduceAdd, Nat.reduceSub, Nat.reduceMul, Nat.reduceLT, Nat.reduceLeDiff, Nat.reduceEqDiff, Nat.reduceBEq, reduceCtorEq, reduceIte, Int.reduceLE, Int.reduceLT, Int.reduceNeg, Int.reduceToNat, hi', hi0, encIs_get q.sums i hi, encI, encQ]
    refine ahdq (hcol q.sums[i] (hin2 _ (List.getElem_mem hi))) ?_
    simp -implicitDefEqProofs only [push_cast, Nat.reduceAdd, Nat.reduceSub, Nat.reduceMul, Nat.reduceLT, Nat.reduceLeDiff, Nat.reduceEqDiff, Nat.reduceBEq, reduceCtorEq, reduceIte, Int.reduceLE, Int.reduceLT, Int.reduceNeg, Int.reduceToNat, encQ]
    refine ⟨fun h => ?_, fun h => ?_⟩
    · have : q.sums.all (isCol c q) = false := by rw [List.all_eq_false]; exact ⟨_, List.getElem_mem hi, by simp [h]⟩
      rw [this]; rfl
    · rw [wrap64 (n := (i : Int) + 1) (by omega) (by omega)]
      refine next_at [some 0, some 1] (i + 1) ⟨by omega, ?_⟩ (by omega) rfl ?_ ?_
      · rw [List.take_succ_eq_append_getElem hi, List.all_append, hia, List.all_cons, h]; rfl
      · (try simp -implicitDefEqProofs only [push_cast, Nat.reduceAdd, Nat.reduceSub, Nat.reduceMul, Nat.reduceLT, Nat.reduceLeDiff, Nat.reduceEqDiff, Nat.reduceBEq, reduceCtorEq, reduceIte, Int.reduceLE, Int.reduceLT, Int.reduceNeg, Int.reduceToNat, encDs_pure, encEs_pure, encIs_pure, encQ])
      · (try simp -implicitDefEqProofs only [push_cast, Nat.reduceAdd, Nat.reduceSub, Nat.reduceMul, Nat.reduceLT, Nat.reduceLeDiff, Nat.reduceEqDiff, Nat.reduceBEq, reduceCtorEq, reduceIte, Int.reduceLE, Int.reduceLT, Int.reduceNeg, Int.reduceToNat, encDs_pure, encEs_pure, encIs_pure, encQ])
  have hi' : ((i : Int) < (q.sums.length : Int)) = False := by simp; omega
  obtain rfl : i = q.sums.length := by omega
  rw [List.take_length] at hia
  rw [hia, Bool.true_and]
  by_cases hby : q.by_ = -1
  · simp -implicitDefEqProofs only [push_cast, Nat.reduceAdd, Nat.reduceSub, Nat.reduceMul, Nat.reduceLT, Nat.reduceLeDiff, Nat.reduceEqDiff, Nat.reduceBEq, reduceCtorEq, reduceIte, Int.reduceLE, Int.reduceLT, Int.reduceNeg, Int.reduceToNat, hi', encQ, hby]
    refine gcallq' (.int (idx (fun x => decide (q.ord = x)) q.out)) (fun h => by simpa using h) (fun _ => Place_ok _ hT _) ?_
    simp -implicitDefEqProofs only [push_cast, Nat.reduceAdd, Nat.reduceSub, Nat.reduceMul, Nat.reduceLT, Nat.reduceLeDiff, Nat.reduceEqDiff, Nat.reduceBEq, reduceCtorEq, reduceIte, Int.reduceLE, Int.reduceLT, Int.reduceNeg, Int.reduceToNat, encQ]
    refine ⟨fun h1 h2 => by rw [h1]; simpa using h2, ?_⟩
    have a1 : decide ((q.sums.length : Int) = 0) = decide (q.sums.length = 0) := by rw [decide_eq_decide]; omega
    have a2 : decide ((0 : Int) < (q.out.length : Int)) = decide (0 < q.out.length) := by rw [decide_eq_decide]; omega
    rw [a1, a2, endR, if_pos hby]
  · have hby' : decide (q.by_ = -1) = false := by simpa using hby
    simp -implicitDefEqProofs only [push_cast, Nat.reduceAdd, Nat.reduceSub, Nat.reduceMul, Nat.reduceLT, Nat.reduceLeDiff, Nat.reduceEqDiff, Nat.reduceBEq, reduceCtorEq, reduceIte, Int.reduceLE, Int.reduceLT, Int.reduceNeg, Int.reduceToNat, hi', encQ, hby']
    refine callq (hcol q.by_ hin3) ?_
    simp -implicitDefEqProofs only [push_cast, Nat.reduceAdd, Nat.reduceSub, Nat.reduceMul, Nat.reduceLT, Nat.reduceLeDiff, Nat.reduceEqDiff, Nat.reduceBEq, reduceCtorEq, reduceIte, Int.reduceLE, Int.reduceLT, Int.reduceNeg, Int.reduceToNat, encQ]
    refine ⟨fun h1 h2 => by rw [h1]; simpa using h2, ?_⟩
    have a2 : decide ((q.out.length : Int) = 0) = decide (q.out.length = 0) := by rw [decide_eq_decide]; omega
    rw [a2, endR, if_neg hby]
end Go.Sim.Tryz
set_option linter.unusedSimpArgs false
set_option linter.unusedVariables false
set_option maxRecDepth 100000
namespace Go.Sim.Tryz
open Go Go.Sim
attribute [local push_cast] aops_cons aops_nil aopG_none aopG_some aopP_eq aopE_eq aopC_eq aopE?_eq aopC?_eq aopB_eq aopB?_eq abr anilq gopP_eq gopL_eq ahead_cons ahead_nil ahdG_none ahdG_some ahdP_eq ahdN_eq ahdC_eq ahdN?_eq ahdS_eq ahdS?_eq astoreN ahdC?_eq ghdP_eq ghdC_eq ghdC?_eq ghdZ_f ghdZ_t ahdI_eq ahdI?_eq ghdN?_eq aim_nil aim_cons isIn_nil isIn_none isIn_cons aimm aheP_eq aheA_eq aheC_eq aheC?_eq aheI?_eq aheA?_eq gheP_eq gheC_eq gheC?_eq gheZ_eq aheG_none aheG_some aheff_cons aheff_nil aapp gro_rsl gro_lit gro_esl opt_some opt_none no_eq acondT_true acondT_false acondT_lit aw_skip aw_region aw_regionD aw_seq aw_cond aw_block aw_loop aw_exit aw_label aw_ret thn_normal thn_exit thn_ret inb_normal inb_exit inb_ret qret_ret qret_normal gcond apure aeff anew acallee ares aresT aresL aresC ares1 qfin_eq ev ofV evL gokL tget tput_some tput_none initT abin aint aun aload afaddr aiaddr afield aindex aextract apick pickv_lit Bool.or_false Bool.false_or Bool.or_true Bool.true_or imp_self aslice chunk abound aconv abuild afill splice alen aminmax abuiltin anil apart Value.oneCell' astore aappend srcEs abuildSlice asets isEq plus_obj plus_nxt plus_add plus_set plus_del IntKind.bits Option.map_some Option.map_none Option.bind_some Option.bind_none Option.join_some Option.getD_some Option.getD_none Option.toList Option.isSome_some List.getElem?_toArray List.getElem?_cons_zero List.getElem?_cons_succ List.getElem?_nil List.length_cons List.length_nil List.length_map List.head?_cons List.cons_append List.nil_append List.append_nil List.map_cons List.map_nil List.getD_cons_zero List.getD_cons_succ List.replicate_succ List.replicate_zero List.set_cons_zero List.set_cons_succ List.take_succ_cons List.take_zero List.drop_succ_cons List.drop_zero List.all_cons List.all_nil Nat.zero_add if_true if_false true_and and_true false_and and_false true_implies implies_true forall_const Bool.and_true Bool.true_and Bool.false_and Bool.and_false Bool.true_beq Bool.false_beq Bool.not_not beq_tt beq_ff Int.toNat_natCast decide_true decide_false Bool.not_true Bool.not_false Bool.true_eq_false Bool.false_eq_true false_implies exists_prop eq_self bne_self_eq_false beq_self_eq_true decide_eq_true_eq decide_eq_false_iff_not Bool.not_eq_true' Bool.not_eq_false' AV.int AV.bool AV.nilS ne_eq not_false_eq_true not_true_eq_false exists_eq_left exists_eq_left' Nat.lt_irrefl core_lit grd_lit acells_lit one_lit core_agg grd_agg acells_agg one_agg core_tup grd_tup acells_tup one_tup core_sl grd_sl acells_sl one_sl core_esl grd_esl acells_esl one_esl core_rsl grd_rsl acells_rsl one_rsl core_ptr grd_ptr acells_ptr one_ptr core_iptr grd_iptr acells_iptr one_iptr core_clo grd_clo acells_clo one_clo core_mp grd_mp acells_mp one_mp core_any grd_any acells_any one_any core_gv grd_gv fit_agg fit_lit fit_sl fit_esl fit_rsl fit_ptr fit_iptr fit_clo fit_mp retq_ret retq_normal set_nxt set_set plus_obj_set plus_set_set app_get0 app_get app_set0 app_set List.append_assoc List.length_append List.length_set Nat.lt_add_one Nat.add_lt_add_iff_right Nat.lt_add_right_iff_pos Nat.add_lt_add_iff_left List.mem_cons List.not_mem_nil or_false forall_eq forall_eq_or_imp lt_s0 lt_s1 lt_s2 lt_s3 lt_s4 lt_s5 lt_s6 lt_s7 lt_s8 pickv_t pickv_f or_nand or_nand2 imp_and_l SealT SealOs sealO_cells sl_lit sl_any sl_agg sl_tup sl_sl sl_rsl slO sl_esl sl_nil sl_eslesl sl_eslnil sl_rslrsl sl_eslrsl sl_nilrsl sl_ptr sl_iptr sl_ptri slP sl_clo sl_mp sl_gv sll_nil sll_cons slll_nil slll_cons shut_eq shutO Option.join_none Fn.func.injEq and_self sealL_self sealLL_self seal_self PureL PureLL Pure Nat.le_refl Nat.zero_le AV.lit.injEq Value.int.injEq Value.bool.injEq false_or or_true true_or Int.natCast_zero Int.ofNat_zero Int.cast_ofNat_Int Int.natCast_add Int.natCast_one Option.some.injEq piL_is sop_nil sop_cons sop_none sop_some sopO_some sop_new shut_pi shutL_nil shutL_cons exQ_exit exQ_ret exQ_normal Go.Sim.Tryz.ty_load1 Go.Sim.Tryz.ty_zero1 Go.Sim.Tryz.ty_load2 Go.Sim.Tryz.ty_zero2 Go.Sim.Tryz.ty_und2 Go.Sim.Tryz.ty_load3 Go.Sim.Tryz.ty_zero3 Go.Sim.Tryz.ty_und3 Go.Sim.Tryz.ty_load4 Go.Sim.Tryz.ty_zero4 Go.Sim.Tryz.ty_und4 Go.Sim.Tryz.ty_load5 Go.Sim.Tryz.ty_zero5 Go.Sim.Tryz.ty_und5 Go.Sim.Tryz.ty_load9 Go.Sim.Tryz.ty_zero9 Go.Sim.Tryz.ty_und9 Go.Sim.Tryz.ty_load22 Go.Sim.Tryz.ty_zero22 Go.Sim.Tryz.ty_el22 Go.Sim.Tryz.ty_zeroE22 Go.Sim.Tryz.ty_load24 Go.Sim.Tryz.ty_zero24 Go.Sim.Tryz.ty_fld24_0 Go.Sim.Tryz.ty_part24_0 Go.Sim.Tryz.ty_struct24 Go.Sim.Tryz.ty_load25 Go.Sim.Tryz.ty_zero25 Go.Sim.Tryz.ty_el25 Go.Sim.Tryz.ty_zeroE25 Go.Sim.Tryz.ty_load26 Go.Sim.Tryz.ty_zero26 Go.Sim.Tryz.ty_el26 Go.Sim.Tryz.ty_zeroE26 Go.Sim.Tryz.ty_load28 Go.Sim.Tryz.ty_zero28 Go.Sim.Tryz.ty_fld28_0 Go.Sim.Tryz.ty_part28_0 Go.Sim.Tryz.ty_fld28_1 Go.Sim.Tryz.ty_part28_1 Go.Sim.Tryz.ty_fld28_2 Go.Sim.Tryz.ty_part28_2 Go.Sim.Tryz.ty_fld28_3 Go.Sim.Tryz.ty_part28_3 Go.Sim.Tryz.ty_fld28_4 Go.Sim.Tryz.ty_part28_4 Go.Sim.Tryz.ty_fld28_5 Go.Sim.Tryz.ty_part28_5 Go.Sim.Tryz.ty_struct28 Go.Sim.Tryz.ty_load36 Go.Sim.Tryz.ty_zero36 Go.Sim.Tryz.ty_fld36_0 Go.Sim.Tryz.ty_part36_0 Go.Sim.Tryz.ty_fld36_1 Go.Sim.Tryz.ty_part36_1 Go.Sim.Tryz.ty_struct36 Go.Sim.Tryz.ty_load38 Go.Sim.Tryz.ty_zero38 Go.Sim.Tryz.ty_fld38_0 Go.Sim.Tryz.ty_part38_0 Go.Sim.Tryz.ty_fld38_1 Go.Sim.Tryz.ty_part38_1 Go.Sim.Tryz.ty_fld38_2 Go.Sim.Tryz.ty_part38_2 Go.Sim.Tryz.ty_fld38_3 Go.Sim.Tryz.ty_part38_3 Go.Sim.Tryz.ty_struct38 Go.Sim.Tryz.ty_load48 Go.Sim.Tryz.ty_zero48 Go.Sim.Tryz.ty_el48 Go.Sim.Tryz.ty_zeroE48 Go.Sim.Tryz.ty_load51 Go.Sim.Tryz.ty_zero51 Go.Sim.Tryz.ty_arr51 Go.Sim.Tryz.ty_part51_0 Go.Sim.Tryz.ty_part51_1 Go.Sim.Tryz.ty_struct51 Go.Sim.Tryz.ty_load59 Go.Sim.Tryz.ty_zero59 Go.Sim.Tryz.ty_fld59_0 Go.Sim.Tryz.ty_part59_0 Go.Sim.Tryz.ty_fld59_1 Go.Sim.Tryz.ty_part59_1 Go.Sim.Tryz.ty_struct59 Go.Sim.Tryz.ty_load60 Go.Sim.Tryz.ty_zero60 Go.Sim.Tryz.ty_el60 Go.Sim.Tryz.ty_zeroE60 Go.Sim.Tryz.ty_load62 Go.Sim.Tryz.ty_zero62 Go.Sim.Tryz.ty_fld62_0 Go.Sim.Tryz.ty_part62_0 Go.Sim.Tryz.ty_struct62 Go.Sim.Tryz.ty_load67 Go.Sim.Tryz.ty_zero67 Go.Sim.Tryz.ty_load68 Go.Sim.Tryz.ty_zero68 Go.Sim.Tryz.ty_load75 Go.Sim.Tryz.ty_zero75 Go.Sim.Tryz.ty_load76 Go.Sim.Tryz.ty_zero76 Go.Sim.Tryz.ty_und76 Go.Sim.Tryz.ty_load82 Go.Sim.Tryz.ty_zero82 Go.Sim.Tryz.ty_und82 Go.Sim.Tryz.ty_load85 Go.Sim.Tryz.ty_zero85 Go.Sim.Tryz.ty_und85 Go.Sim.Tryz.ty_load89 Go.Sim.Tryz.ty_zero89 Go.Sim.Tryz.ty_el89 Go.Sim.Tryz.ty_zeroE89 Go.Sim.Tryz.ty_load90 Go.Sim.Tryz.ty_zero90 Go.Sim.Tryz.ty_el90 Go.Sim.Tryz.ty_zeroE90 Go.Sim.Tryz.ty_load93 Go.Sim.Tryz.ty_zero93 Go.Sim.Tryz.ty_load98 Go.Sim.Tryz.ty_zero98 Go.Sim.Tryz.ty_fld98_0 Go.Sim.Tryz.ty_part98_0 Go.Sim.Tryz.ty_fld98_1 Go.Sim.Tryz.ty_part98_1 Go.Sim.Tryz.ty_fld98_2 Go.Sim.Tryz.ty_part98_2 Go.Sim.Tryz.ty_struct98 Go.Sim.Tryz.ty_load100 Go.Sim.Tryz.ty_zero100 Go.Sim.Tryz.ty_load106 Go.Sim.Tryz.ty_zero106 Go.Sim.Tryz.ty_load110 Go.Sim.Tryz.ty_zero110 Go.Sim.Tryz.ty_und110 Go.Sim.Tryz.ty_load118 Go.Sim.Tryz.ty_zero118 Go.Sim.Tryz.ty_und118 Go.Sim.Tryz.ty_load121 Go.Sim.Tryz.ty_zero121 Go.Sim.Tryz.ty_load128 Go.Sim.Tryz.ty_zero128 Go.Sim.Tryz.ty_und128 Go.Sim.Tryz.ty_load132 Go.Sim.Tryz.ty_zero132 encE_mk encE_take encE_len encV encE_one encEs_pure encE_pure

def colsUp (c : List Df) (q : Qy) (s : Int) (k : Nat) : List Int := (upto k).filter fun id => isCol c q id && bitI s (id / 4).toNat
theorem colsUp_yes (c : List Df) (q : Qy) (s : Int) (k : Nat) (h : (isCol c q k && bitI s (k / 4)) = true) : colsUp c q s (k + 1) = colsUp c q s k ++ [(k : Int)] := by
  rw [colsUp, upto_snoc, List.filter_append, List.filter_cons, if_pos (by rw [← h]; congr 2), List.filter_nil]
  rfl
theorem colsUp_no (c : List Df) (q : Qy) (s : Int) (k : Nat) (h : (isCol c q k && bitI s (k / 4)) = false) : colsUp c q s (k + 1) = colsUp c q s k := by
  have h' : (isCol c q k && bitI s ((k : Int) / 4).toNat) = false := by rw [← h]; congr 2
  rw [colsUp, upto_snoc, List.filter_append, List.filter_cons, if_neg (by rw [h']; decide), List.filter_nil, List.append_nil]
  rfl
theorem colsUp_zero (c : List Df) (q : Qy) (s : Int) : colsUp c q s 0 = [] := rfl
theorem colsUp_len (c : List Df) (q : Qy) (s : Int) (k : Nat) : (colsUp c q s k).length ≤ k := Nat.le_trans (List.length_filter_le _ _) (by rw [upto_len]; omega)
theorem ColsRQ_ok (c : List Df) (hcl : c.length ≤ 1000000) (q : Qy) (hq : q.Ok) (hin : q.In) (s : Int) : Quiet Go.Proofs.Tryz.prog 30 [.agg [.sl (c.map encD)], .agg (encQ q), .int s] (.sl ((q.cols c s).map encI)) := by
  have hm := MayRQ_ok c hcl q hq hin
  have hcol : ∀ id, In64 id → Quiet Go.Proofs.Tryz.prog 74 [.agg [.sl (c.map encD)], .agg (encQ q), .int id] (.bool (isCol c q id)) := fun id hid => column_ok c hcl q hq.2.2.1 id hid
  simp only [encQ] at hm hcol
  refine quiet_of (rs := #[.tmp 6]) Go.Proofs.Tryz.func30 rfl rfl rfl mixed rfl rfl fun H hs => ?_
  simp -implicitDefEqProofs only [push_cast, Nat.reduceAdd, Nat.reduceSub, Nat.reduceMul, Nat.reduceLT, Nat.reduceLeDiff, Nat.reduceEqDiff, Nat.reduceBEq, reduceCtorEq, reduceIte, Int.reduceLE, Int.reduceLT, Int.reduceNeg, Int.reduceToNat, encQ]
  refine callq hm ?_
  simp -implicitDefEqProofs only [push_cast, Nat.reduceAdd, Nat.reduceSub, Nat.reduceMul, Nat.reduceLT, Nat.reduceLeDiff, Nat.reduceEqDiff, Nat.reduceBEq, reduceCtorEq, reduceIte, Int.reduceLE, Int.reduceLT, Int.reduceNeg, Int.reduceToNat, encQ]
  cases hmay : q.may c
  · have h0 : q.cols c s = [] := by rw [Qy.cols, hmay]; rfl
    refine loop_at hs (σ := Nat) (fun i => i = 0) (fun i => 0) (fun i => [(9, .int i), (8, .bool false), (7, .nilS)]) (fun i => []) [] 0 rfl rfl ?_ ?_ ?_
    · (try simp -implicitDefEqProofs only [push_cast, Nat.reduceAdd, Nat.reduceSub, Nat.reduceMul, Nat.reduceLT, Nat.reduceLeDiff, Nat.reduceEqDiff, Nat.reduceBEq, reduceCtorEq, reduceIte, Int.reduceLE, Int.reduceLT, Int.reduceNeg, Int.reduceToNat])
    · (try simp -implicitDefEqProofs only [push_cast, Nat.reduceAdd, Nat.reduceSub, Nat.reduceMul, Nat.reduceLT, Nat.reduceLeDiff, Nat.reduceEqDiff, Nat.reduceBEq, reduceCtorEq, reduceIte, Int.reduceLE, Int.reduceLT, Int.reduceNeg, Int.reduceToNat])
    rintro i rfl
    simp -implicitDefEqProofs only [push_cast, Nat.reduceAdd, Nat.reduceSub, Nat.reduceMul, Nat.reduceLT, Nat.reduceLeDiff, Nat.reduceEqDiff, Nat.reduceBEq, reduceCtorEq, reduceIte, Int.reduceLE, Int.reduceLT, Int.reduceNeg, Int.reduceToNat]
    (try simp -implicitDefEqProofs only [push_cast, Nat.reduceAdd, Nat.reduceSub, Nat.reduceMul, Nat.reduceLT, Nat.reduceLeDiff, Nat.reduceEqDiff, Nat.reduceBEq, reduceCtorEq, reduceIte, Int.reduceLE, Int.reduceLT, Int.reduceNeg, Int.reduceToNat, h0, List.map_nil])
  · refine loop_at hs (σ := Nat) (fun i => i ≤ 16) (fun i => 16 - i)
      (fun i => [(9, .int i), (8, .bool true), (2, .int s), (3, .ptr (H.nxt + 0) 1 0 0), (4, .ptr (H.nxt + 1) 6 0 0), (7, .rsl (H.nxt + 2) 1 0 (colsUp c q s i).length)]) (fun i => [some (.cells 1 [[.sl (c.map encD)]] 0), some (.cells 6 [encQ q] 0), some (.cells 1 (rowI (colsUp c q s i)) 0)]) [some 0, some 1, none] 0 (by omega) rfl ?_ ?_ ?_
    · (try simp -implicitDefEqProofs only [push_cast, Nat.reduceAdd, Nat.reduceSub, Nat.reduceMul, Nat.reduceLT, Nat.reduceLeDiff, Nat.reduceEqDiff, Nat.reduceBEq, reduceCtorEq, reduceIte, Int.reduceLE, Int.reduceLT, Int.reduceNeg, Int.reduceToNat, colsUp_zero, rowI_nil, encDs_pure, encEs_pure, encIs_pure, encQ])
    · (try simp -implicitDefEqProofs only [push_cast, Nat.reduceAdd, Nat.reduceSub, Nat.reduceMul, Nat.reduceLT, Nat.reduceLeDiff, Nat.reduceEqDiff, Nat.reduceBEq, reduceCtorEq, reduceIte, Int.reduceLE, Int.reduceLT, Int.reduceNeg, Int.reduceToNat, colsUp_zero, rowI_nil, encDs_pure, encEs_pure, encIs_pure, encQ])
    intro i hi2
    have hlen := colsUp_len c q s i
    by_cases hi : i < 16
    · have hi' : ((i : Int) < 16) = True := by simp; omega
      have hq4 : IntKind.wrap .i64 (Int.tdiv (i : Int) 4) = ((i / 4 : Nat) : Int) := by rw [Int.tdiv_eq_ediv_of_nonneg (by omega), wrap64 (by omega) (by omega)]; omega
      simp -implicitDefEqProofs only [push_cast, Nat.reduceAdd, Nat.reduceSub, Nat.reduceMul, Nat.reduceLT, Nat.reduceLeDiff, Nat.reduceEqDiff, Nat.reduceBEq, reduceCtorEq, reduceIte, Int.reduceLE, Int.reduceLT, Int.reduceNeg, Int.reduceToNat, hi', encQ]
      refine callq (hcol i (by unfold In64; omega)) ?_
      simp -implicitDefEqProofs only [push_cast, Nat.reduceAdd, Nat.reduceSub, Nat.reduceMul, Nat.reduceLT, Nat.reduceLeDiff, Nat.reduceEqDiff, Nat.reduceBEq, reduceCtorEq, reduceIte, Int.reduceLE, Int.reduceLT, Int.reduceNeg, Int.reduceToNat, hi', hq4, encQ]
      refine ⟨by decide, callq (Bit_ok s (i / 4) (by omega)) ?_⟩
      simp -implicitDefEqProofs only [push_cast, Nat.reduceAdd, Nat.reduceSub, Nat.reduceMul, Nat.reduceLT, Nat.reduceLeDiff, Nat.reduceEqDiff, Nat.reduceBEq, reduceCtorEq, reduceIte, Int.reduceLE, Int.reduceLT, Int.reduceNeg, Int.reduceToNat, hi', hq4, encQ]
      refine ⟨fun h => ⟨by omega, ?_⟩, fun h => ?_⟩
      · rw [wrap64 (n := (i : Int) + 1) (by omega) (by omega)]
        refine next_at [some 0, some 1, some 4] (i + 1) (by omega) (by omega) rfl ?_ ?_
        · (try simp -implicitDefEqProofs only [push_cast, Nat.reduceAdd, Nat.reduceSub, Nat.reduceMul, Nat.reduceLT, Nat.reduceLeDiff, Nat.reduceEqDiff, Nat.reduceBEq, reduceCtorEq, reduceIte, Int.reduceLE, Int.reduceLT, Int.reduceNeg, Int.reduceToNat, colsUp_yes c q s i h, encDs_pure, encEs_pure, encIs_pure, encQ])
        · (try simp -implicitDefEqProofs only [push_cast, Nat.reduceAdd, Nat.reduceSub, Nat.reduceMul, Nat.reduceLT, Nat.reduceLeDiff, Nat.reduceEqDiff, Nat.reduceBEq, reduceCtorEq, reduceIte, Int.reduceLE, Int.reduceLT, Int.reduceNeg, Int.reduceToNat, colsUp_yes c q s i h, take_rowI _ _ (Nat.le_refl _), snocI, rowI_pure, rowI_one, encDs_pure, encEs_pure, encIs_pure, encQ])
      · rw [wrap64 (n := (i : Int) + 1) (by omega) (by omega)]
        refine next_at [some 0, some 1, some 2] (i + 1) (by omega) (by omega) rfl ?_ ?_
        · (try simp -implicitDefEqProofs only [push_cast, Nat.reduceAdd, Nat.reduceSub, Nat.reduceMul, Nat.reduceLT, Nat.reduceLeDiff, Nat.reduceEqDiff, Nat.reduceBEq, reduceCtorEq, reduceIte, Int.reduceLE, Int.reduceLT, Int.reduceNeg, Int.reduceToNat, colsUp_no c q s i h, encDs_pure, encEs_pure, encIs_pure, encQ])
        · (try simp -implicitDefEqProofs only [push_cast, Nat.reduceAdd, Nat.reduceSub, Nat.reduceMul, Nat.reduceLT, Nat.reduceLeDiff, Nat.reduceEqDiff, Nat.reduceBEq, reduceCtorEq, reduceIte, Int.reduceLE, Int.reduceLT, Int.reduceNeg, Int.reduceToNat, colsUp_no c q s i h, rowI_pure, rowI_one, encDs_pure, encEs_pure, encIs_pure, encQ])
    · have hi' : ((i : Int) < 16) = False := by simp; omega
      have h16 : q.cols c s = colsUp c q s i := by
        rw [show i = 16 by omega, Qy.cols, if_pos hmay, colsUp, colsIn]
      simp -implicitDefEqProofs only [push_cast, Nat.reduceAdd, Nat.reduceSub, Nat.reduceMul, Nat.reduceLT, Nat.reduceLeDiff, Nat.reduceEqDiff, Nat.reduceBEq, reduceCtorEq, reduceIte, Int.reduceLE, Int.reduceLT, Int.reduceNeg, Int.reduceToNat, hi', encQ]
      (try simp -implicitDefEqProofs only [push_cast, Nat.reduceAdd, Nat.reduceSub, Nat.reduceMul, Nat.reduceLT, Nat.reduceLeDiff, Nat.reduceEqDiff, Nat.reduceBEq, reduceCtorEq, reduceIte, Int.reduceLE, Int.reduceLT, Int.reduceNeg, Int.reduceToNat])
      rw [h16, take_rowI _ _ (Nat.le_refl _)]
      exact sealLL_pure _ _ _ (encIs_pure _)

theorem PairsR_ok (q : Qy) (hq : q.Ok) (a b : Int) : Quiet Go.Proofs.Tryz.prog 34 [.agg (encQ q), .int a, .int b] (.sl ((q.pairs a b).map encP)) := by
  have hn := NewR_ok q hq a b
  have hnl : (q.new a b).length ≤ 1000000 := Nat.le_trans (idxF_lt _ _) hq.1
  have hnm : ∀ i ∈ q.new a b, 0 ≤ i ∧ i < q.p.length := fun i hi => by rw [Qy.new, idxF_mem] at hi; omega
  rw [Qy.pairs]
  generalize q.new a b = l at hn hnl hnm ⊢
  simp only [encQ] at hn
  refine quiet_of (rs := #[.tmp 6]) Go.Proofs.Tryz.func34 rfl rfl rfl mixed rfl rfl fun H hs => ?_
  simp -implicitDefEqProofs only [push_cast, Nat.reduceAdd, Nat.reduceSub, Nat.reduceMul, Nat.reduceLT, Nat.reduceLeDiff, Nat.reduceEqDiff, Nat.reduceBEq, reduceCtorEq, reduceIte, Int.reduceLE, Int.reduceLT, Int.reduceNeg, Int.reduceToNat, encQ]
  refine callq hn ?_
  simp -implicitDefEqProofs only [push_cast, Nat.reduceAdd, Nat.reduceSub, Nat.reduceMul, Nat.reduceLT, Nat.reduceLeDiff, Nat.reduceEqDiff, Nat.reduceBEq, reduceCtorEq, reduceIte, Int.reduceLE, Int.reduceLT, Int.reduceNeg, Int.reduceToNat, encQ]
  refine loop_at hs (σ := Nat) (fun i => i ≤ l.length) (fun i => l.length - i)
    (fun i => [(9, .int i), (8, .sl (l.map encI)), (3, .ptr (H.nxt + 0) 6 0 0), (1, .int a), (2, .int b), (7, .rsl (H.nxt + 1) 2 0 (pairsF a b q.p (l.take i)).length)]) (fun i => [some (.cells 6 [encQ q] 0), some (.cells 2 (rowP (pairsF a b q.p (l.take i))) 0)]) [some 0, none] 0 (by omega) rfl ?_ ?_ ?_
  · (try simp -implicitDefEqProofs only [push_cast, Nat.reduceAdd, Nat.reduceSub, Nat.reduceMul, Nat.reduceLT, Nat.reduceLeDiff, Nat.reduceEqDiff, Nat.reduceBEq, reduceCtorEq, reduceIte, Int.reduceLE, Int.reduceLT, Int.reduceNeg, Int.reduceToNat, rowP_nil, List.take_zero, encEs_pure, encIs_pure, encQ, pairsF, List.flatMap_nil])
  · (try simp -implicitDefEqProofs only [push_cast, Nat.reduceAdd, Nat.reduceSub, Nat.reduceMul, Nat.reduceLT, Nat.reduceLeDiff, Nat.reduceEqDiff, Nat.reduceBEq, reduceCtorEq, reduceIte, Int.reduceLE, Int.reduceLT, Int.reduceNeg, Int.reduceToNat, rowP_nil, List.take_zero, encEs_pure, encIs_pure, encQ, pairsF, List.flatMap_nil])
  intro i hi2
  by_cases hi : i < l.length
  · have hi' : ((i : Int) < (l.length : Int)) = True := by simp; omega
    have hi0 : (0 ≤ (i : Int)) = True := by simp
    obtain ⟨h0, h1⟩ := hnm _ (List.getElem_mem hi)
    obtain ⟨k, hk⟩ : ∃ k : Nat, l[i] = k := ⟨l[i].toNat, by omega⟩
    have hkl : k < q.p.length := by omega
    have hk0 : (0 ≤ (k : Int)) = True := by simp
    have hk' : ((k : Int) < (q.p.length : Int)) = True := by simp; omega
    have hok := hq.2.1 _ (List.getElem_mem hkl)
    have hge : q.p.getD l[i].toNat exO = q.p[k] := by
      rw [hk, Int.toNat_natCast, List.getD_eq_getElem?_getD, List.getElem?_eq_getElem hkl]; rfl
    have hps := pairsF_take a b q.p l i hi
    rw [hge] at hps
    have hpl : (pairsF a b q.p (l.take i)).length ≤ 1000000 := by
      refine Nat.le_trans (flat_len _ _ fun x _ => pairOf_len _ _ _) ?_
      rw [List.length_take]; omega
    simp -implicitDefEqProofs only [push_cast, Nat.reduceAdd, Nat.reduceSub, Nat.reduceMul, Nat.reduceLT, Nat.reduceLeDiff, Nat.reduceEqDiff, Nat.reduceBEq, reduceCtorEq, reduceIte, Int.reduceLE, Int.reduceLT, Int.reduceNeg, Int.reduceToNat, hi', hi0, encQ]
    refine areg_at 15 (by kernel_rfl) (by kernel_rfl) ?_
    simp -implicitDefEqProofs only [push_cast, Nat.reduceAdd, Nat.reduceSub, Nat.reduceMul, Nat.reduceLT, Nat.reduceLeDiff, Nat.reduceEqDiff, Nat.reduceBEq, reduceCtorEq, reduceIte, Int.reduceLE, Int.reduceLT, Int.reduceNeg, Int.reduceToNat, hi', hi0, encIs_get l i hi, encI, hk, hk0, hk', encEs_get q.p k hkl, encQ]
    refine ahdq (PairR_ok _ hok.1) ?_
    simp -implicitDefEqProofs only [push_cast, Nat.reduceAdd, Nat.reduceSub, Nat.reduceMul, Nat.reduceLT, Nat.reduceLeDiff, Nat.reduceEqDiff, Nat.reduceBEq, reduceCtorEq, reduceIte, Int.reduceLE, Int.reduceLT, Int.reduceNeg, Int.reduceToNat, encQ]
    refine ⟨fun his => ?_, fun his => ?_⟩
    · have hp0 : pairOf a b q.p[k] = [] := by rw [pairOf, if_neg (by simp [his])]
      rw [hp0, List.append_nil] at hps
      rw [wrap64 (n := (i : Int) + 1) (by omega) (by omega)]
      refine next_at [some 0, some 1] (i + 1) (by omega) (by omega) rfl ?_ ?_
      · (try simp -implicitDefEqProofs only [push_cast, Nat.reduceAdd, Nat.reduceSub, Nat.reduceMul, Nat.reduceLT, Nat.reduceLeDiff, Nat.reduceEqDiff, Nat.reduceBEq, reduceCtorEq, reduceIte, Int.reduceLE, Int.reduceLT, Int.reduceNeg, Int.reduceToNat, hps, encEs_pure, encIs_pure, encQ])
      · (try simp -implicitDefEqProofs only [push_cast, Nat.reduceAdd, Nat.reduceSub, Nat.reduceMul, Nat.reduceLT, Nat.reduceLeDiff, Nat.reduceEqDiff, Nat.reduceBEq, reduceCtorEq, reduceIte, Int.reduceLE, Int.reduceLT, Int.reduceNeg, Int.reduceToNat, hps, encEs_pure, encIs_pure, encQ, rowP_pure, rowP_one])
    · obtain ⟨_, _, hx, hy, _⟩ := pair_spec his
      have hpo : pairOf a b q.p[k] = if bitC a q.p[k].pair.1 && bitC b q.p[k].pair.2.1 then [(q.p[k].pair.1, q.p[k].pair.2.1)] else if bitC a q.p[k].pair.2.1 && bitC b q.p[k].pair.1 then [(q.p[k].pair.2.1, q.p[k].pair.1)] else [] := by rw [pairOf, if_pos his]
      generalize q.p[k].pair.1 = x at hx hpo ⊢
      generalize q.p[k].pair.2.1 = y at hy hpo ⊢
      generalize pairsF a b q.p (l.take i) = ps at hps hpl ⊢
      obtain ⟨u, hu⟩ : ∃ u : Nat, x / 4 = u := ⟨(x / 4).toNat, by omega⟩
      obtain ⟨v, hv⟩ : ∃ v : Nat, y / 4 = v := ⟨(y / 4).toNat, by omega⟩
      have hqx : IntKind.wrap .i64 (Int.tdiv x 4) = (u : Int) := by rw [Int.tdiv_eq_ediv_of_nonneg (by omega), wrap64 (by omega) (by omega), hu]
      have hqy : IntKind.wrap .i64 (Int.tdiv y 4) = (v : Int) := by rw [Int.tdiv_eq_ediv_of_nonneg (by omega), wrap64 (by omega) (by omega), hv]
      have hbx : ∀ s, bitC s x = bitI s u := fun s => by rw [bitC, hu, Int.toNat_natCast]
      have hby : ∀ s, bitC s y = bitI s v := fun s => by rw [bitC, hv, Int.toNat_natCast]
      rw [hbx, hbx, hby, hby] at hpo
      simp -implicitDefEqProofs only [push_cast, Nat.reduceAdd, Nat.reduceSub, Nat.reduceMul, Nat.reduceLT, Nat.reduceLeDiff, Nat.reduceEqDiff, Nat.reduceBEq, reduceCtorEq, reduceIte, Int.reduceLE, Int.reduceLT, Int.reduceNeg, Int.reduceToNat, encQ, hqx, hqy]
      refine ⟨by decide, callq (Bit_ok a u (by omega)) ?_⟩
      simp -implicitDefEqProofs only [push_cast, Nat.reduceAdd, Nat.reduceSub, Nat.reduceMul, Nat.reduceLT, Nat.reduceLeDiff, Nat.reduceEqDiff, Nat.reduceBEq, reduceCtorEq, reduceIte, Int.reduceLE, Int.reduceLT, Int.reduceNeg, Int.reduceToNat, encQ, hqx, hqy]
      refine ⟨by decide, callq (Bit_ok b u (by omega)) ?_⟩
      simp -implicitDefEqProofs only [push_cast, Nat.reduceAdd, Nat.reduceSub, Nat.reduceMul, Nat.reduceLT, Nat.reduceLeDiff, Nat.reduceEqDiff, Nat.reduceBEq, reduceCtorEq, reduceIte, Int.reduceLE, Int.reduceLT, Int.reduceNeg, Int.reduceToNat, encQ, hqx, hqy]
      refine ⟨by decide, callq (Bit_ok a v (by omega)) ?_⟩
      simp -implicitDefEqProofs only [push_cast, Nat.reduceAdd, Nat.reduceSub, Nat.reduceMul, Nat.reduceLT, Nat.reduceLeDiff, Nat.reduceEqDiff, Nat.reduceBEq, reduceCtorEq, reduceIte, Int.reduceLE, Int.reduceLT, Int.reduceNeg, Int.reduceToNat, encQ, hqx, hqy]
      refine ⟨by decide, callq (Bit_ok b v (by omega)) ?_⟩
      simp -implicitDefEqProofs only [push_cast, Nat.reduceAdd, Nat.reduceSub, Nat.reduceMul, Nat.reduceLT, Nat.reduceLeDiff, Nat.reduceEqDiff, Nat.reduceBEq, reduceCtorEq, reduceIte, Int.reduceLE, Int.reduceLT, Int.reduceNeg, Int.reduceToNat, encQ, hqx, hqy]
      refine ⟨fun h => ⟨by omega, ?_⟩, fun h => ⟨fun h2 => ⟨by omega, ?_⟩, fun h2 => ?_⟩⟩
      · rw [hpo, h, if_pos rfl] at hps
        rw [wrap64 (n := (i : Int) + 1) (by omega) (by omega)]
        refine next_at [some 0, some 3] (i + 1) (by omega) (by omega) rfl ?_ ?_
        · (try simp -implicitDefEqProofs only [push_cast, Nat.reduceAdd, Nat.reduceSub, Nat.reduceMul, Nat.reduceLT, Nat.reduceLeDiff, Nat.reduceEqDiff, Nat.reduceBEq, reduceCtorEq, reduceIte, Int.reduceLE, Int.reduceLT, Int.reduceNeg, Int.reduceToNat, hps, encEs_pure, encIs_pure, encQ])
        · (try simp -implicitDefEqProofs only [push_cast, Nat.reduceAdd, Nat.reduceSub, Nat.reduceMul, Nat.reduceLT, Nat.reduceLeDiff, Nat.reduceEqDiff, Nat.reduceBEq, reduceCtorEq, reduceIte, Int.reduceLE, Int.reduceLT, Int.reduceNeg, Int.reduceToNat, hps, encEs_pure, encIs_pure, encQ, take_rowP _ _ (Nat.le_refl _), snocP, rowP_pure, rowP_one])
      · rw [hpo, h, if_neg (by decide), h2, if_pos rfl] at hps
        rw [wrap64 (n := (i : Int) + 1) (by omega) (by omega)]
        refine next_at [some 0, some 3] (i + 1) (by omega) (by omega) rfl ?_ ?_
        · (try simp -implicitDefEqProofs only [push_cast, Nat.reduceAdd, Nat.reduceSub, Nat.reduceMul, Nat.reduceLT, Nat.reduceLeDiff, Nat.reduceEqDiff, Nat.reduceBEq, reduceCtorEq, reduceIte, Int.reduceLE, Int.reduceLT, Int.reduceNeg, Int.reduceToNat, hps, encEs_pure, encIs_pure, encQ])
        · (try simp -implicitDefEqProofs only [push_cast, Nat.reduceAdd, Nat.reduceSub, Nat.reduceMul, Nat.reduceLT, Nat.reduceLeDiff, Nat.reduceEqDiff, Nat.reduceBEq, reduceCtorEq, reduceIte, Int.reduceLE, Int.reduceLT, Int.reduceNeg, Int.reduceToNat, hps, encEs_pure, encIs_pure, encQ, take_rowP _ _ (Nat.le_refl _), snocP, rowP_pure, rowP_one])
      · rw [hpo, h, if_neg (by decide), h2, if_neg (by decide), List.append_nil] at hps
        rw [wrap64 (n := (i : Int) + 1) (by omega) (by omega)]
        refine next_at [some 0, some 1] (i + 1) (by omega) (by omega) rfl ?_ ?_
        · (try simp -implicitDefEqProofs only [push_cast, Nat.reduceAdd, Nat.reduceSub, Nat.reduceMul, Nat.reduceLT, Nat.reduceLeDiff, Nat.reduceEqDiff, Nat.reduceBEq, reduceCtorEq, reduceIte, Int.reduceLE, Int.reduceLT, Int.reduceNeg, Int.reduceToNat, hps, encEs_pure, encIs_pure, encQ])
        · (try simp -implicitDefEqProofs only [push_cast, Nat.reduceAdd, Nat.reduceSub, Nat.reduceMul, Nat.reduceLT, Nat.reduceLeDiff, Nat.reduceEqDiff, Nat.reduceBEq, reduceCtorEq, reduceIte, Int.reduceLE, Int.reduceLT, Int.reduceNeg, Int.reduceToNat, hps, encEs_pure, encIs_pure, encQ, rowP_pure, rowP_one])
  · have hi' : ((i : Int) < (l.length : Int)) = False := by simp; omega
    have h5 : l.take i = l := List.take_of_length_le (by omega)
    simp -implicitDefEqProofs only [push_cast, Nat.reduceAdd, Nat.reduceSub, Nat.reduceMul, Nat.reduceLT, Nat.reduceLeDiff, Nat.reduceEqDiff, Nat.reduceBEq, reduceCtorEq, reduceIte, Int.reduceLE, Int.reduceLT, Int.reduceNeg, Int.reduceToNat, hi', h5]
    (try simp -implicitDefEqProofs only [push_cast, Nat.reduceAdd, Nat.reduceSub, Nat.reduceMul, Nat.reduceLT, Nat.reduceLeDiff, Nat.reduceEqDiff, Nat.reduceBEq, reduceCtorEq, reduceIte, Int.reduceLE, Int.reduceLT, Int.reduceNeg, Int.reduceToNat])
    rw [take_rowP _ _ (Nat.le_refl _)]
    exact sealLL_pure _ _ _ (rowP_pure _)

def ordUp (q : Qy) (k : Nat) : List Int := -1 :: (upto k).filter (ordIs q)
theorem ordUp_yes (q : Qy) (k : Nat) (h : ordIs q k = true) : ordUp q (k + 1) = ordUp q k ++ [(k : Int)] := by
  rw [ordUp, upto_snoc, List.filter_append, List.filter_cons, if_pos h, List.filter_nil]
  rfl
theorem ordUp_no (q : Qy) (k : Nat) (h : ordIs q k = false) : ordUp q (k + 1) = ordUp q k := by
  rw [ordUp, upto_snoc, List.filter_append, List.filter_cons, if_neg (by rw [h]; decide), List.filter_nil, List.append_nil]
  rfl
theorem ordUp_zero (q : Qy) : ordUp q 0 = [-1] := rfl
theorem ordUp_len (q : Qy) (k : Nat) : (ordUp q k).length ≤ k + 1 := by
  rw [ordUp, List.length_cons]
  have := List.length_filter_le (ordIs q) (upto k)
  rw [upto_len] at this
  omega
theorem OrdersR_ok (q : Qy) (hq : q.Ok) : Quiet Go.Proofs.Tryz.prog 35 [.agg (encQ q)] (.sl (q.orders.map encI)) := by
  rw [← orders_R]
  have hP := hq.1
  refine quiet_of (rs := #[.tmp 2]) Go.Proofs.Tryz.func35 rfl rfl rfl mixed rfl rfl fun H hs => ?_
  simp -implicitDefEqProofs only [push_cast, Nat.reduceAdd, Nat.reduceSub, Nat.reduceMul, Nat.reduceLT, Nat.reduceLeDiff, Nat.reduceEqDiff, Nat.reduceBEq, reduceCtorEq, reduceIte, Int.reduceLE, Int.reduceLT, Int.reduceNeg, Int.reduceToNat, encQ]
  refine loop_at hs (σ := Nat) (fun i => i ≤ 16) (fun i => 16 - i)
    (fun i => [(4, .int i), (1, .ptr (H.nxt + 0) 6 0 0), (3, .rsl (H.nxt + 1) 1 0 (ordUp q i).length)]) (fun i => [some (.cells 6 [encQ q] 0), some (.cells 1 (rowI (ordUp q i)) 0)]) [some 0, some 1] 0 (by omega) rfl ?_ ?_ ?_
  · (try simp -implicitDefEqProofs only [push_cast, Nat.reduceAdd, Nat.reduceSub, Nat.reduceMul, Nat.reduceLT, Nat.reduceLeDiff, Nat.reduceEqDiff, Nat.reduceBEq, reduceCtorEq, reduceIte, Int.reduceLE, Int.reduceLT, Int.reduceNeg, Int.reduceToNat, ordUp_zero, encEs_pure, encIs_pure, encQ])
  · (try simp -implicitDefEqProofs only [push_cast, Nat.reduceAdd, Nat.reduceSub, Nat.reduceMul, Nat.reduceLT, Nat.reduceLeDiff, Nat.reduceEqDiff, Nat.reduceBEq, reduceCtorEq, reduceIte, Int.reduceLE, Int.reduceLT, Int.reduceNeg, Int.reduceToNat, ordUp_zero, encEs_pure, encIs_pure, encQ, encI])
  intro i hi2
  have hlen := ordUp_len q i
  by_cases hi : i < 16
  · have hi' : ((i : Int) < 16) = True := by simp; omega
    simp -implicitDefEqProofs only [push_cast, Nat.reduceAdd, Nat.reduceSub, Nat.reduceMul, Nat.reduceLT, Nat.reduceLeDiff, Nat.reduceEqDiff, Nat.reduceBEq, reduceCtorEq, reduceIte, Int.reduceLE, Int.reduceLT, Int.reduceNeg, Int.reduceToNat, hi', encQ]
    refine loop_at hs (σ := Nat) (fun k => k ≤ q.p.length) (fun k => q.p.length - k)
      (fun k => [(6, .int k), (5, .bool ((q.p.take k).any fun e => pairHas e i)), (4, .int i), (1, .ptr (H.nxt + 0) 6 0 0), (3, .rsl (H.nxt + 1) 1 0 (ordUp q i).length)]) (fun k => [some (.cells 6 [encQ q] 0), some (.cells 1 (rowI (ordUp q i)) 0)]) [some 0, some 1] 0 (by omega) rfl ?_ ?_ ?_
    · (try simp -implicitDefEqProofs only [push_cast, Nat.reduceAdd, Nat.reduceSub, Nat.reduceMul, Nat.reduceLT, Nat.reduceLeDiff, Nat.reduceEqDiff, Nat.reduceBEq, reduceCtorEq, reduceIte, Int.reduceLE, Int.reduceLT, Int.reduceNeg, Int.reduceToNat, List.take_zero, List.any_nil, encEs_pure, encIs_pure, encQ])
    · (try simp -implicitDefEqProofs only [push_cast, Nat.reduceAdd, Nat.reduceSub, Nat.reduceMul, Nat.reduceLT, Nat.reduceLeDiff, Nat.reduceEqDiff, Nat.reduceBEq, reduceCtorEq, reduceIte, Int.reduceLE, Int.reduceLT, Int.reduceNeg, Int.reduceToNat, encEs_pure, encIs_pure, encQ, rowI_pure, rowI_one])
    intro k hk2
    by_cases hk : k < q.p.length
    · have hk' : ((k : Int) < (q.p.length : Int)) = True := by simp; omega
      have hk0 : (0 ≤ (k : Int)) = True := by simp
      have ho := hq.2.1 _ (List.getElem_mem hk)
      have hany : (q.p.take (k + 1)).any (fun e => pairHas e i) = ((q.p.take k).any (fun e => pairHas e i) || pairHas q.p[k] i) := by
        rw [List.take_succ_eq_append_getElem hk, List.any_append, List.any_cons, List.any_nil, Bool.or_false]
      simp -implicitDefEqProofs only [push_cast, Nat.reduceAdd, Nat.reduceSub, Nat.reduceMul, Nat.reduceLT, Nat.reduceLeDiff, Nat.reduceEqDiff, Nat.reduceBEq, reduceCtorEq, reduceIte, Int.reduceLE, Int.reduceLT, Int.reduceNeg, Int.reduceToNat, hk', hk0, encEs_get q.p k hk, encQ]
      refine callq (PairR_ok _ ho.1) ?_
      simp -implicitDefEqProofs only [push_cast, Nat.reduceAdd, Nat.reduceSub, Nat.reduceMul, Nat.reduceLT, Nat.reduceLeDiff, Nat.reduceEqDiff, Nat.reduceBEq, reduceCtorEq, reduceIte, Int.reduceLE, Int.reduceLT, Int.reduceNeg, Int.reduceToNat, encQ]
      refine ⟨fun h1 h2 => ?_, fun h1 h2 => ?_, ?_⟩
      · rw [h1]; simpa using h2
      · rw [h1, h2]; rfl
      · rw [wrap64 (n := (k : Int) + 1) (by omega) (by omega)]
        have hany' : ((q.p.take k).any (fun e => pairHas e i) || q.p[k].pair.2.2 && (decide (q.p[k].pair.1 = (i : Int)) || decide (q.p[k].pair.2.1 = (i : Int)))) = (q.p.take (k + 1)).any (fun e => pairHas e i) := hany.symm
        refine next_at [some 0, some 1] (k + 1) (by omega) (by omega) rfl ?_ ?_
        · (try simp -implicitDefEqProofs only [push_cast, Nat.reduceAdd, Nat.reduceSub, Nat.reduceMul, Nat.reduceLT, Nat.reduceLeDiff, Nat.reduceEqDiff, Nat.reduceBEq, reduceCtorEq, reduceIte, Int.reduceLE, Int.reduceLT, Int.reduceNeg, Int.reduceToNat, hany', encEs_pure, encIs_pure, encQ])
        · (try simp -implicitDefEqProofs only [push_cast, Nat.reduceAdd, Nat.reduceSub, Nat.reduceMul, Nat.reduceLT, Nat.reduceLeDiff, Nat.reduceEqDiff, Nat.reduceBEq, reduceCtorEq, reduceIte, Int.reduceLE, Int.reduceLT, Int.reduceNeg, Int.reduceToNat, encEs_pure, encIs_pure, encQ, rowI_pure, rowI_one])
    · have hk' : ((k : Int) < (q.p.length : Int)) = False := by simp; omega
      obtain rfl : k = q.p.length := by omega
      have hord : ordIs q i = (q.p.any (fun e => pairHas e i) || decide (q.by_ = i) || decide (q.ord = i)) := rfl
      simp -implicitDefEqProofs only [push_cast, Nat.reduceAdd, Nat.reduceSub, Nat.reduceMul, Nat.reduceLT, Nat.reduceLeDiff, Nat.reduceEqDiff, Nat.reduceBEq, reduceCtorEq, reduceIte, Int.reduceLE, Int.reduceLT, Int.reduceNeg, Int.reduceToNat, hk', encQ, List.take_length]
      rw [← hord]
      refine ⟨fun h => ⟨by omega, ?_⟩, fun h => ?_⟩
      · rw [wrap64 (n := (i : Int) + 1) (by omega) (by omega)]
        refine next_at [some 0, some 3] (i + 1) (by omega) (by omega) rfl ?_ ?_
        · (try simp -implicitDefEqProofs only [push_cast, Nat.reduceAdd, Nat.reduceSub, Nat.reduceMul, Nat.reduceLT, Nat.reduceLeDiff, Nat.reduceEqDiff, Nat.reduceBEq, reduceCtorEq, reduceIte, Int.reduceLE, Int.reduceLT, Int.reduceNeg, Int.reduceToNat, ordUp_yes q i h, encEs_pure, encIs_pure, encQ])
        · (try simp -implicitDefEqProofs only [push_cast, Nat.reduceAdd, Nat.reduceSub, Nat.reduceMul, Nat.reduceLT, Nat.reduceLeDiff, Nat.reduceEqDiff, Nat.reduceBEq, reduceCtorEq, reduceIte, Int.reduceLE, Int.reduceLT, Int.reduceNeg, Int.reduceToNat, ordUp_yes q i h, encEs_pure, encIs_pure, encQ, take_rowI _ _ (Nat.le_refl _), snocI, rowI_pure, rowI_one])
      · rw [wrap64 (n := (i : Int) + 1) (by omega) (by omega)]
        refine next_at [some 0, some 1] (i + 1) (by omega) (by omega) rfl ?_ ?_
        · (try simp -implicitDefEqProofs only [push_cast, Nat.reduceAdd, Nat.reduceSub, Nat.reduceMul, Nat.reduceLT, Nat.reduceLeDiff, Nat.reduceEqDiff, Nat.reduceBEq, reduceCtorEq, reduceIte, Int.reduceLE, Int.reduceLT, Int.reduceNeg, Int.reduceToNat, ordUp_no q i h, encEs_pure, encIs_pure, encQ])
        · (try simp -implicitDefEqProofs only [push_cast, Nat.reduceAdd, Nat.reduceSub, Nat.reduceMul, Nat.reduceLT, Nat.reduceLeDiff, Nat.reduceEqDiff, Nat.reduceBEq, reduceCtorEq, reduceIte, Int.reduceLE, Int.reduceLT, Int.reduceNeg, Int.reduceToNat, ordUp_no q i h, encEs_pure, encIs_pure, encQ, rowI_pure, rowI_one])
  · have hi' : ((i : Int) < 16) = False := by simp; omega
    have h16 : -1 :: (upto 16).filter (ordIs q) = ordUp q i := by
      rw [show i = 16 by omega]; rfl
    simp -implicitDefEqProofs only [push_cast, Nat.reduceAdd, Nat.reduceSub, Nat.reduceMul, Nat.reduceLT, Nat.reduceLeDiff, Nat.reduceEqDiff, Nat.reduceBEq, reduceCtorEq, reduceIte, Int.reduceLE, Int.reduceLT, Int.reduceNeg, Int.reduceToNat, hi', encQ]
    (try simp -implicitDefEqProofs only [push_cast, Nat.reduceAdd, Nat.reduceSub, Nat.reduceMul, Nat.reduceLT, Nat.reduceLeDiff, Nat.reduceEqDiff, Nat.reduceBEq, reduceCtorEq, reduceIte, Int.reduceLE, Int.reduceLT, Int.reduceNeg, Int.reduceToNat])
    rw [take_rowI _ _ (Nat.le_refl _)]
    change SealLL _ _ _ _ ((-1 :: (upto 16).filter (ordIs q)).map encI)
    rw [h16]
    exact sealLL_pure _ _ _ (encIs_pure _)
theorem cmpP (a b c d : Int) : CmpAt Go.Proofs.Tryz.prog 51 [.int .i64 a, .int .i64 b] [.int .i64 c, .int .i64 d] (decide (a = c) && decide (b = d)) := by
  rw [← Bool.and_true (decide (b = d))]
  exact cmp_arr2 (e := 3) (by kernel_rfl) (by kernel_rfl) (by kernel_rfl) (by kernel_rfl) a b c d
theorem SameP_ok (a b : List (Int × Int)) (ha : a.length ≤ 1000000) (hb : b.length ≤ 1000000) : Quiet Go.Proofs.Tryz.prog 33 [.sl (a.map encP), .sl (b.map encP)] (.bool (decide (a = b))) := by
  refine quiet_of (rs := #[.tmp 4]) Go.Proofs.Tryz.func33 rfl rfl rfl mixed rfl rfl fun H hs => ?_
  simp -implicitDefEqProofs only [push_cast, Nat.reduceAdd, Nat.reduceSub, Nat.reduceMul, Nat.reduceLT, Nat.reduceLeDiff, Nat.reduceEqDiff, Nat.reduceBEq, reduceCtorEq, reduceIte, Int.reduceLE, Int.reduceLT, Int.reduceNeg, Int.reduceToNat]
  refine ⟨fun h => ?_, fun h => ?_⟩
  · symm
    rw [decide_eq_false_iff_not]
    rintro rfl
    exact h rfl
  · have hl : a.length = b.length := by omega
    refine loop_at hs (σ := Nat) (fun i => i ≤ a.length ∧ a.take i = b.take i) (fun i => a.length - i)
      (fun i => [(5, .int i), (0, .sl (a.map encP)), (1, .sl (b.map encP))]) (fun i => []) [] 0 ⟨by omega, rfl⟩ rfl ?_ ?_ ?_
    · (try simp -implicitDefEqProofs only [push_cast, Nat.reduceAdd, Nat.reduceSub, Nat.reduceMul, Nat.reduceLT, Nat.reduceLeDiff, Nat.reduceEqDiff, Nat.reduceBEq, reduceCtorEq, reduceIte, Int.reduceLE, Int.reduceLT, Int.reduceNeg, Int.reduceToNat, rowP_pure])
    · (try simp -implicitDefEqProofs only [push_cast, Nat.reduceAdd, Nat.reduceSub, Nat.reduceMul, Nat.reduceLT, Nat.reduceLeDiff, Nat.reduceEqDiff, Nat.reduceBEq, reduceCtorEq, reduceIte, Int.reduceLE, Int.reduceLT, Int.reduceNeg, Int.reduceToNat])
    rintro i ⟨hi2, hi3⟩
    by_cases hi : i < a.length
    · have hi' : ((i : Int) < (a.length : Int)) = True := by simp; omega
      have hi0 : (0 ≤ (i : Int)) = True := by simp
      have hib : i < b.length := by omega
      have hib' : ((i : Int) < (b.length : Int)) = True := by simp; omega
      simp -implicitDefEqProofs only [push_cast, Nat.reduceAdd, Nat.reduceSub, Nat.reduceMul, Nat.reduceLT, Nat.reduceLeDiff, Nat.reduceEqDiff, Nat.reduceBEq, reduceCtorEq, reduceIte, Int.reduceLE, Int.reduceLT, Int.reduceNeg, Int.reduceToNat, hi', hi0]
      refine areg_at 9 (by kernel_rfl) (by kernel_rfl) ?_
      simp -implicitDefEqProofs only [push_cast, Nat.reduceAdd, Nat.reduceSub, Nat.reduceMul, Nat.reduceLT, Nat.reduceLeDiff, Nat.reduceEqDiff, Nat.reduceBEq, reduceCtorEq, reduceIte, Int.reduceLE, Int.reduceLT, Int.reduceNeg, Int.reduceToNat, hi', hib', hi0, encPs_get a i hi, encPs_get b i hib, encP, lits, Option.map_some, cellsEq, cellEq, eq_true (cmpP _ _ _ _)]
      have hpq : (decide (a[i].1 = b[i].1) && decide (a[i].2 = b[i].2)) = decide (a[i] = b[i]) := by
        rw [← Bool.decide_and, decide_eq_decide, Prod.ext_iff]
      rw [hpq]
      refine ⟨fun h => ?_, fun h => ?_⟩
      · symm
        rw [decide_eq_false_iff_not] at h ⊢
        rintro rfl
        exact h rfl
      · rw [wrap64 (n := (i : Int) + 1) (by omega) (by omega)]
        refine next_at [] (i + 1) ⟨by omega, ?_⟩ (by omega) rfl ?_ ?_
        · rw [List.take_succ_eq_append_getElem hi, List.take_succ_eq_append_getElem hib, hi3, of_decide_eq_true h]
        · (try simp -implicitDefEqProofs only [push_cast, Nat.reduceAdd, Nat.reduceSub, Nat.reduceMul, Nat.reduceLT, Nat.reduceLeDiff, Nat.reduceEqDiff, Nat.reduceBEq, reduceCtorEq, reduceIte, Int.reduceLE, Int.reduceLT, Int.reduceNeg, Int.reduceToNat, rowP_pure])
        · (try simp -implicitDefEqProofs only [push_cast, Nat.reduceAdd, Nat.reduceSub, Nat.reduceMul, Nat.reduceLT, Nat.reduceLeDiff, Nat.reduceEqDiff, Nat.reduceBEq, reduceCtorEq, reduceIte, Int.reduceLE, Int.reduceLT, Int.reduceNeg, Int.reduceToNat])
    · have hi' : ((i : Int) < (a.length : Int)) = False := by simp; omega
      rw [List.take_of_length_le (by omega), List.take_of_length_le (by omega)] at hi3
      simp -implicitDefEqProofs only [push_cast, Nat.reduceAdd, Nat.reduceSub, Nat.reduceMul, Nat.reduceLT, Nat.reduceLeDiff, Nat.reduceEqDiff, Nat.reduceBEq, reduceCtorEq, reduceIte, Int.reduceLE, Int.reduceLT, Int.reduceNeg, Int.reduceToNat, hi']
      (try simp -implicitDefEqProofs only [push_cast, Nat.reduceAdd, Nat.reduceSub, Nat.reduceMul, Nat.reduceLT, Nat.reduceLeDiff, Nat.reduceEqDiff, Nat.reduceBEq, reduceCtorEq, reduceIte, Int.reduceLE, Int.reduceLT, Int.reduceNeg, Int.reduceToNat])
      simp [hi3]
end Go.Sim.Tryz
set_option linter.unusedSimpArgs false
set_option linter.unusedVariables false
set_option maxRecDepth 100000
namespace Go.Sim.Tryz
open Go Go.Sim
attribute [local push_cast] aops_cons aops_nil aopG_none aopG_some aopP_eq aopE_eq aopC_eq aopE?_eq aopC?_eq aopB_eq aopB?_eq abr anilq gopP_eq gopL_eq ahead_cons ahead_nil ahdG_none ahdG_some ahdP_eq ahdN_eq ahdC_eq ahdN?_eq ahdS_eq ahdS?_eq astoreN ahdC?_eq ghdP_eq ghdC_eq ghdC?_eq ghdZ_f ghdZ_t ahdI_eq ahdI?_eq ghdN?_eq aim_nil aim_cons isIn_nil isIn_none isIn_cons aimm aheP_eq aheA_eq aheC_eq aheC?_eq aheI?_eq aheA?_eq gheP_eq gheC_eq gheC?_eq gheZ_eq aheG_none aheG_some aheff_cons aheff_nil aapp gro_rsl gro_lit gro_esl opt_some opt_none no_eq acondT_true acondT_false acondT_lit aw_skip aw_region aw_regionD aw_seq aw_cond aw_block aw_loop aw_exit aw_label aw_ret thn_normal thn_exit thn_ret inb_normal inb_exit inb_ret qret_ret qret_normal gcond apure aeff anew acallee ares aresT aresL aresC ares1 qfin_eq ev ofV evL gokL tget tput_some tput_none initT abin aint aun aload afaddr aiaddr afield aindex aextract apick pickv_lit Bool.or_false Bool.false_or Bool.or_true Bool.true_or imp_self aslice chunk abound aconv abuild afill splice alen aminmax abuiltin anil apart Value.oneCell' astore aappend srcEs abuildSlice asets isEq plus_obj plus_nxt plus_add plus_set plus_del IntKind.bits Option.map_some Option.map_none Option.bind_some Option.bind_none Option.join_some Option.getD_some Option.getD_none Option.toList Option.isSome_some List.getElem?_toArray List.getElem?_cons_zero List.getElem?_cons_succ List.getElem?_nil List.length_cons List.length_nil List.length_map List.head?_cons List.cons_append List.nil_append List.append_nil List.map_cons List.map_nil List.getD_cons_zero List.getD_cons_succ List.replicate_succ List.replicate_zero List.set_cons_zero List.set_cons_succ List.take_succ_cons List.take_zero List.drop_succ_cons List.drop_zero List.all_cons List.all_nil Nat.zero_add if_true if_false true_and and_true false_and and_false true_implies implies_true forall_const Bool.and_true Bool.true_and Bool.false_and Bool.and_false Bool.true_beq Bool.false_beq Bool.not_not beq_tt beq_ff Int.toNat_natCast decide_true decide_false Bool.not_true Bool.not_false Bool.true_eq_false Bool.false_eq_true false_implies exists_prop eq_self bne_self_eq_false beq_self_eq_true decide_eq_true_eq decide_eq_false_iff_not Bool.not_eq_true' Bool.not_eq_false' AV.int AV.bool AV.nilS ne_eq not_false_eq_true not_true_eq_false exists_eq_left exists_eq_left' Nat.lt_irrefl core_lit grd_lit acells_lit one_lit core_agg grd_agg acells_agg one_agg core_tup grd_tup acells_tup one_tup core_sl grd_sl acells_sl one_sl core_esl grd_esl acells_esl one_esl core_rsl grd_rsl acells_rsl one_rsl core_ptr grd_ptr acells_ptr one_ptr core_iptr grd_iptr acells_iptr one_iptr core_clo grd_clo acells_clo one_clo core_mp grd_mp acells_mp one_mp core_any grd_any acells_any one_any core_gv grd_gv fit_agg fit_lit fit_sl fit_esl fit_rsl fit_ptr fit_iptr fit_clo fit_mp retq_ret retq_normal set_nxt set_set plus_obj_set plus_set_set app_get0 app_get app_set0 app_set List.append_assoc List.length_append List.length_set Nat.lt_add_one Nat.add_lt_add_iff_right Nat.lt_add_right_iff_pos Nat.add_lt_add_iff_left List.mem_cons List.not_mem_nil or_false forall_eq forall_eq_or_imp lt_s0 lt_s1 lt_s2 lt_s3 lt_s4 lt_s5 lt_s6 lt_s7 lt_s8 pickv_t pickv_f or_nand or_nand2 imp_and_l SealT SealOs sealO_cells sl_lit sl_any sl_agg sl_tup sl_sl sl_rsl slO sl_esl sl_nil sl_eslesl sl_eslnil sl_rslrsl sl_eslrsl sl_nilrsl sl_ptr sl_iptr sl_ptri slP sl_clo sl_mp sl_gv sll_nil sll_cons slll_nil slll_cons shut_eq shutO Option.join_none Fn.func.injEq and_self sealL_self sealLL_self seal_self PureL PureLL Pure Nat.le_refl Nat.zero_le AV.lit.injEq Value.int.injEq Value.bool.injEq false_or or_true true_or Int.natCast_zero Int.ofNat_zero Int.cast_ofNat_Int Int.natCast_add Int.natCast_one Option.some.injEq piL_is sop_nil sop_cons sop_none sop_some sopO_some sop_new shut_pi shutL_nil shutL_cons exQ_exit exQ_ret exQ_normal Go.Sim.Tryz.ty_load1 Go.Sim.Tryz.ty_zero1 Go.Sim.Tryz.ty_load2 Go.Sim.Tryz.ty_zero2 Go.Sim.Tryz.ty_und2 Go.Sim.Tryz.ty_load3 Go.Sim.Tryz.ty_zero3 Go.Sim.Tryz.ty_und3 Go.Sim.Tryz.ty_load4 Go.Sim.Tryz.ty_zero4 Go.Sim.Tryz.ty_und4 Go.Sim.Tryz.ty_load5 Go.Sim.Tryz.ty_zero5 Go.Sim.Tryz.ty_und5 Go.Sim.Tryz.ty_load9 Go.Sim.Tryz.ty_zero9 Go.Sim.Tryz.ty_und9 Go.Sim.Tryz.ty_load22 Go.Sim.Tryz.ty_zero22 Go.Sim.Tryz.ty_el22 Go.Sim.Tryz.ty_zeroE22 Go.Sim.Tryz.ty_load24 Go.Sim.Tryz.ty_zero24 Go.Sim.Tryz.ty_fld24_0 Go.Sim.Tryz.ty_part24_0 Go.Sim.Tryz.ty_struct24 Go.Sim.Tryz.ty_load25 Go.Sim.Tryz.ty_zero25 Go.Sim.Tryz.ty_el25 Go.Sim.Tryz.ty_zeroE25 Go.Sim.Tryz.ty_load26 Go.Sim.Tryz.ty_zero26 Go.Sim.Tryz.ty_el26 Go.Sim.Tryz.ty_zeroE26 Go.Sim.Tryz.ty_load28 Go.Sim.Tryz.ty_zero28 Go.Sim.Tryz.ty_fld28_0 Go.Sim.Tryz.ty_part28_0 Go.Sim.Tryz.ty_fld28_1 Go.Sim.Tryz.ty_part28_1 Go.Sim.Tryz.ty_fld28_2 Go.Sim.Tryz.ty_part28_2 Go.Sim.Tryz.ty_fld28_3 Go.Sim.Tryz.ty_part28_3 Go.Sim.Tryz.ty_fld28_4 Go.Sim.Tryz.ty_part28_4 Go.Sim.Tryz.ty_fld28_5 Go.Sim.Tryz.ty_part28_5 Go.Sim.Tryz.ty_struct28 Go.Sim.Tryz.ty_load36 Go.Sim.Tryz.ty_zero36 Go.Sim.Tryz.ty_fld36_0 Go.Sim.Tryz.ty_part36_0 Go.Sim.Tryz.ty_fld36_1 Go.Sim.Tryz.ty_part36_1 Go.Sim.Tryz.ty_struct36 Go.Sim.Tryz.ty_load38 Go.Sim.Tryz.ty_zero38 Go.Sim.Tryz.ty_fld38_0 Go.Sim.Tryz.ty_part38_0 Go.Sim.Tryz.ty_fld38_1 Go.Sim.Tryz.ty_part38_1 Go.Sim.Tryz.ty_fld38_2 Go.Sim.Tryz.ty_part38_2 Go.Sim.Tryz.ty_fld38_3 Go.Sim.Tryz.ty_part38_3 Go.Sim.Tryz.ty_struct38 Go.Sim.Tryz.ty_load48 Go.Sim.Tryz.ty_zero48 Go.Sim.Tryz.ty_el48 Go.Sim.Tryz.ty_zeroE48 Go.Sim.Tryz.ty_load51 Go.Sim.Tryz.ty_zero51 Go.Sim.Tryz.ty_arr51 Go.Sim.Tryz.ty_part51_0 Go.Sim.Tryz.ty_part51_1 Go.Sim.Tryz.ty_struct51 Go.Sim.Tryz.ty_load59 Go.Sim.Tryz.ty_zero59 Go.Sim.Tryz.ty_fld59_0 Go.Sim.Tryz.ty_part59_0 Go.Sim.Tryz.ty_fld59_1 Go.Sim.Tryz.ty_part59_1 Go.Sim.Tryz.ty_struct59 Go.Sim.Tryz.ty_load60 Go.Sim.Tryz.ty_zero60 Go.Sim.Tryz.ty_el60 Go.Sim.Tryz.ty_zeroE60 Go.Sim.Tryz.ty_load62 Go.Sim.Tryz.ty_zero62 Go.Sim.Tryz.ty_fld62_0 Go.Sim.Tryz.ty_part62_0 Go.Sim.Tryz.ty_struct62 Go.Sim.Tryz.ty_load67 Go.Sim.Tryz.ty_zero67 Go.Sim.Tryz.ty_load68 Go.Sim.Tryz.ty_zero68 Go.Sim.Tryz.ty_load75 Go.Sim.Tryz.ty_zero75 Go.Sim.Tryz.ty_load76 Go.Sim.Tryz.ty_zero76 Go.Sim.Tryz.ty_und76 Go.Sim.Tryz.ty_load82 Go.Sim.Tryz.ty_zero82 Go.Sim.Tryz.ty_und82 Go.Sim.Tryz.ty_load85 Go.Sim.Tryz.ty_zero85 Go.Sim.Tryz.ty_und85 Go.Sim.Tryz.ty_load89 Go.Sim.Tryz.ty_zero89 Go.Sim.Tryz.ty_el89 Go.Sim.Tryz.ty_zeroE89 Go.Sim.Tryz.ty_load90 Go.Sim.Tryz.ty_zero90 Go.Sim.Tryz.ty_el90 Go.Sim.Tryz.ty_zeroE90 Go.Sim.Tryz.ty_load93 Go.Sim.Tryz.ty_zero93 Go.Sim.Tryz.ty_load98 Go.Sim.Tryz.ty_zero98 Go.Sim.Tryz.ty_fld98_0 Go.Sim.Tryz.ty_part98_0 Go.Sim.Tryz.ty_fld98_1 Go.Sim.Tryz.ty_part98_1 Go.Sim.Tryz.ty_fld98_2 Go.Sim.Tryz.ty_part98_2 Go.Sim.Tryz.ty_struct98 Go.Sim.Tryz.ty_load100 Go.Sim.Tryz.ty_zero100 Go.Sim.Tryz.ty_load106 Go.Sim.Tryz.ty_zero106 Go.Sim.Tryz.ty_load110 Go.Sim.Tryz.ty_zero110 Go.Sim.Tryz.ty_und110 Go.Sim.Tryz.ty_load118 Go.Sim.Tryz.ty_zero118 Go.Sim.Tryz.ty_und118 Go.Sim.Tryz.ty_load121 Go.Sim.Tryz.ty_zero121 Go.Sim.Tryz.ty_load128 Go.Sim.Tryz.ty_zero128 Go.Sim.Tryz.ty_und128 Go.Sim.Tryz.ty_load132 Go.Sim.Tryz.ty_zero132 encE_mk encE_take encE_len encV encE_one encEs_pure encE_pure

def catTwo : List Df := [⟨2, 100⟩, ⟨1, 10⟩]
def rowsTwo : AV := .sl [[.sl [[.sl [[.int 0, .int 1], [.int 0, .int 2]]], [.sl [[.int 0, .int 3], [.int 0, .int 4]]]]], [.sl [[.sl [[.int 0, .int 4]]]]]]
theorem Two_ok : Quiet Go.Proofs.Tryz.prog 46 [] (.tup [.agg [.sl (catTwo.map encD)], .agg [rowsTwo]]) := by
  refine quiet_of (rs := #[.cell 0 24, .cell 1 62]) Go.Proofs.Tryz.func46 rfl rfl rfl mixed rfl rfl fun H hs => ?_
  simp -implicitDefEqProofs only [push_cast, Nat.reduceAdd, Nat.reduceSub, Nat.reduceMul, Nat.reduceLT, Nat.reduceLeDiff, Nat.reduceEqDiff, Nat.reduceBEq, reduceCtorEq, reduceIte, Int.reduceLE, Int.reduceLT, Int.reduceNeg, Int.reduceToNat]
  (try simp -implicitDefEqProofs only [push_cast, Nat.reduceAdd, Nat.reduceSub, Nat.reduceMul, Nat.reduceLT, Nat.reduceLeDiff, Nat.reduceEqDiff, Nat.reduceBEq, reduceCtorEq, reduceIte, Int.reduceLE, Int.reduceLT, Int.reduceNeg, Int.reduceToNat, catTwo, rowsTwo, List.map_cons, List.map_nil, encD])
def pairE : Ex := .mk 6 0 0 0 [.mk 1 0 0 0 [], .mk 1 5 0 0 []]
theorem Pair5_ok : Quiet Go.Proofs.Tryz.prog 48 [] (.agg (encE pairE)) := by
  refine quiet_of (rs := #[.cell 0 38]) Go.Proofs.Tryz.func48 rfl rfl rfl mixed rfl rfl fun H hs => ?_
  simp -implicitDefEqProofs only [push_cast, Nat.reduceAdd, Nat.reduceSub, Nat.reduceMul, Nat.reduceLT, Nat.reduceLeDiff, Nat.reduceEqDiff, Nat.reduceBEq, reduceCtorEq, reduceIte, Int.reduceLE, Int.reduceLT, Int.reduceNeg, Int.reduceToNat]
  (try simp -implicitDefEqProofs only [push_cast, Nat.reduceAdd, Nat.reduceSub, Nat.reduceMul, Nat.reduceLT, Nat.reduceLeDiff, Nat.reduceEqDiff, Nat.reduceBEq, reduceCtorEq, reduceIte, Int.reduceLE, Int.reduceLT, Int.reduceNeg, Int.reduceToNat, pairE, List.map_cons, List.map_nil])
def oneQ : Qy := ⟨[0, 0, 1], [pairE, .mk 7 0 0 0 [.mk 1 8 0 0 [], .mk 0 0 0 5 []]], -1, [], [0, 8], 8⟩
theorem One_ok : Quiet Go.Proofs.Tryz.prog 47 [] (.agg (encQ oneQ)) := by
  refine quiet_of (rs := #[.cell 0 28]) Go.Proofs.Tryz.func47 rfl rfl rfl mixed rfl rfl fun H hs => ?_
  simp -implicitDefEqProofs only [push_cast, Nat.reduceAdd, Nat.reduceSub, Nat.reduceMul, Nat.reduceLT, Nat.reduceLeDiff, Nat.reduceEqDiff, Nat.reduceBEq, reduceCtorEq, reduceIte, Int.reduceLE, Int.reduceLT, Int.reduceNeg, Int.reduceToNat]
  refine callq Pair5_ok ?_
  simp -implicitDefEqProofs only [push_cast, Nat.reduceAdd, Nat.reduceSub, Nat.reduceMul, Nat.reduceLT, Nat.reduceLeDiff, Nat.reduceEqDiff, Nat.reduceBEq, reduceCtorEq, reduceIte, Int.reduceLE, Int.reduceLT, Int.reduceNeg, Int.reduceToNat]
  (try simp -implicitDefEqProofs only [push_cast, Nat.reduceAdd, Nat.reduceSub, Nat.reduceMul, Nat.reduceLT, Nat.reduceLeDiff, Nat.reduceEqDiff, Nat.reduceBEq, reduceCtorEq, reduceIte, Int.reduceLE, Int.reduceLT, Int.reduceNeg, Int.reduceToNat, oneQ, encQ, encI, List.map_cons, List.map_nil])
def fewQ (c : List Df) (q : Qy) : Bool := decide (c.length ≤ 10) && decide (q.occ.length ≤ 20) && decide (q.p.length ≤ 8) && decide (q.sums.length ≤ 20) && decide (q.out.length ≤ 20) && q.p.all fun e => decide (sz e 60 ≤ 60)
/-- What comes in. -/
def Qy.Raw (q : Qy) (c : List Df) : Prop := c.length ≤ 140737488355328 ∧ q.occ.length ≤ 140737488355328 ∧ q.p.length ≤ 140737488355328 ∧ q.sums.length ≤ 140737488355328 ∧ q.out.length ≤ 140737488355328 ∧ ∀ e ∈ q.p, e.Ok
theorem few5_ok (c : List Df) (q : Qy) (hr : q.Raw c) : Quiet Go.Proofs.Tryz.prog 15 [.agg [.sl (c.map encD)], .agg (encQ q)] (.bool (fewQ c q)) := by
  obtain ⟨h1, h2, h3, h4, h5, hok⟩ := hr
  refine quiet_of (rs := #[.tmp 4]) Go.Proofs.Tryz.func15 rfl rfl rfl mixed rfl rfl fun H hs => ?_
  simp -implicitDefEqProofs only [push_cast, Nat.reduceAdd, Nat.reduceSub, Nat.reduceMul, Nat.reduceLT, Nat.reduceLeDiff, Nat.reduceEqDiff, Nat.reduceBEq, reduceCtorEq, reduceIte, Int.reduceLE, Int.reduceLT, Int.reduceNeg, Int.reduceToNat, encQ]
  obtain ⟨hd, hhd⟩ : ∃ hd : Bool, hd = (decide ((c.length : Int) ≤ 10) && decide ((q.occ.length : Int) ≤ 20) && decide ((q.p.length : Int) ≤ 8) && decide ((q.sums.length : Int) ≤ 20) && decide ((q.out.length : Int) ≤ 20)) := ⟨_, rfl⟩
  rw [← hhd]
  have hf : fewQ c q = (hd && q.p.all fun e => decide (sz e 60 ≤ 60)) := by
    have ic : ∀ m n : Nat, decide ((m : Int) ≤ (n : Int)) = decide (m ≤ n) := fun m n => by rw [decide_eq_decide]; omega
    have i1 := ic c.length 10
    have i2 := ic q.occ.length 20
    have i3 := ic q.p.length 8
    have i4 := ic q.sums.length 20
    have i5 := ic q.out.length 20
    simp only [Int.cast_ofNat_Int] at i1 i2 i3 i4 i5
    rw [hhd, i1, i2, i3, i4, i5]
    rfl
  rw [hf]
  clear hf hhd
  have htk : ∀ i, (h : i < q.p.length) → (q.p.take (i + 1)).all (fun e => decide (sz e 60 ≤ 60)) = ((q.p.take i).all (fun e => decide (sz e 60 ≤ 60)) && decide (sz q.p[i] 60 ≤ 60)) := fun i h => by
    rw [List.take_succ_eq_append_getElem h, List.all_append, List.all_cons, List.all_nil, Bool.and_true]
  refine loop_at hs (σ := Nat) (fun i => i ≤ q.p.length) (fun i => q.p.length - i)
    (fun i => [(6, .int i), (5, .bool (hd && (q.p.take i).all fun e => decide (sz e 60 ≤ 60))), (3, .ptr (H.nxt + 1) 6 0 0)]) (fun i => [none, some (.cells 6 [encQ q] 0)]) [some 0, some 1] 0 (by omega) rfl ?_ ?_ ?_
  · (try simp -implicitDefEqProofs only [push_cast, Nat.reduceAdd, Nat.reduceSub, Nat.reduceMul, Nat.reduceLT, Nat.reduceLeDiff, Nat.reduceEqDiff, Nat.reduceBEq, reduceCtorEq, reduceIte, Int.reduceLE, Int.reduceLT, Int.reduceNeg, Int.reduceToNat, List.take_zero, List.all_nil, encEs_pure, encIs_pure, encQ])
  · (try simp -implicitDefEqProofs only [push_cast, Nat.reduceAdd, Nat.reduceSub, Nat.reduceMul, Nat.reduceLT, Nat.reduceLeDiff, Nat.reduceEqDiff, Nat.reduceBEq, reduceCtorEq, reduceIte, Int.reduceLE, Int.reduceLT, Int.reduceNeg, Int.reduceToNat, encEs_pure, encIs_pure, encQ])
  intro i hi2
  by_cases hi : i < q.p.length
  · have hi' : ((i : Int) < (q.p.length : Int)) = True := by simp; omega
    have hi0 : (0 ≤ (i : Int)) = True := by simp
    cases hfi : (hd && (q.p.take i).all fun e => decide (sz e 60 ≤ 60))
    · simp -implicitDefEqProofs only [push_cast, Nat.reduceAdd, Nat.reduceSub, Nat.reduceMul, Nat.reduceLT, Nat.reduceLeDiff, Nat.reduceEqDiff, Nat.reduceBEq, reduceCtorEq, reduceIte, Int.reduceLE, Int.reduceLT, Int.reduceNeg, Int.reduceToNat, hi', encQ]
      rcases Bool.and_eq_false_iff.1 hfi with h | h
      · rw [h]; rfl
      · have : q.p.all (fun e => decide (sz e 60 ≤ 60)) = false := by
          rw [List.all_eq_false] at h ⊢
          obtain ⟨x, hx, h⟩ := h
          exact ⟨x, List.mem_of_mem_take hx, h⟩
        rw [this, Bool.and_false]
    · simp -implicitDefEqProofs only [push_cast, Nat.reduceAdd, Nat.reduceSub, Nat.reduceMul, Nat.reduceLT, Nat.reduceLeDiff, Nat.reduceEqDiff, Nat.reduceBEq, reduceCtorEq, reduceIte, Int.reduceLE, Int.reduceLT, Int.reduceNeg, Int.reduceToNat, hi', hi0, encEs_get q.p i hi, encQ]
      refine callq (few_ok _ (hok _ (List.getElem_mem hi)) 60 (by omega) (by omega)) ?_
      simp -implicitDefEqProofs only [push_cast, Nat.reduceAdd, Nat.reduceSub, Nat.reduceMul, Nat.reduceLT, Nat.reduceLeDiff, Nat.reduceEqDiff, Nat.reduceBEq, reduceCtorEq, reduceIte, Int.reduceLE, Int.reduceLT, Int.reduceNeg, Int.reduceToNat, encQ]
      rw [wrap64 (n := (i : Int) + 1) (by omega) (by omega)]
      have hnx : (hd && (q.p.take (i + 1)).all fun e => decide (sz e 60 ≤ 60)) = decide (sz q.p[i] 60 ≤ 60) := by
        rw [htk i hi, ← Bool.and_assoc, hfi, Bool.true_and]
      refine next_at [none, some 1] (i + 1) (by omega) (by omega) rfl ?_ ?_
      · (try simp -implicitDefEqProofs only [push_cast, Nat.reduceAdd, Nat.reduceSub, Nat.reduceMul, Nat.reduceLT, Nat.reduceLeDiff, Nat.reduceEqDiff, Nat.reduceBEq, reduceCtorEq, reduceIte, Int.reduceLE, Int.reduceLT, Int.reduceNeg, Int.reduceToNat, hnx, encEs_pure, encIs_pure, encQ])
      · (try simp -implicitDefEqProofs only [push_cast, Nat.reduceAdd, Nat.reduceSub, Nat.reduceMul, Nat.reduceLT, Nat.reduceLeDiff, Nat.reduceEqDiff, Nat.reduceBEq, reduceCtorEq, reduceIte, Int.reduceLE, Int.reduceLT, Int.reduceNeg, Int.reduceToNat, encEs_pure, encIs_pure, encQ])
  · have hi' : ((i : Int) < (q.p.length : Int)) = False := by simp; omega
    obtain rfl : i = q.p.length := by omega
    simp -implicitDefEqProofs only [push_cast, Nat.reduceAdd, Nat.reduceSub, Nat.reduceMul, Nat.reduceLT, Nat.reduceLeDiff, Nat.reduceEqDiff, Nat.reduceBEq, reduceCtorEq, reduceIte, Int.reduceLE, Int.reduceLT, Int.reduceNeg, Int.reduceToNat, hi', encQ, List.take_length]
theorem szL_ge : ∀ (l : List Ex) (m n : Int), 0 ≤ m → n ≤ szL l m n
  | [], _, n, _ => by rw [szL]; exact Int.le_refl _
  | x :: l, m, n, h0 => by
    rw [szL]
    split
    · have := sz_bound x (m - n) (by omega)
      have := szL_ge l m (n + sz x (m - n)) h0
      omega
    · exact Int.le_refl _
mutual
theorem sz_cnt : ∀ (e : Ex) (m : Int), 0 ≤ m → sz e m ≤ m → sz e m = cnt e
  | .mk _ _ _ _ l, m, h0, h => by
    have h1 := szL_ge l m 1 h0
    rw [sz] at h ⊢
    rw [cnt, szL_cnt l m 1 h0 (by omega) h]
    omega
theorem szL_cnt : ∀ (l : List Ex) (m n : Int), 0 ≤ m → n ≤ m → szL l m n ≤ m → szL l m n = n + cntL l
  | [], m, n, _, h0, h => by rw [szL, cntL]; omega
  | x :: l, m, n, h1, h0, h => by
    rw [szL, if_pos h0] at h ⊢
    have h2 := szL_ge l m (n + sz x (m - n)) h1
    have h3 := sz_cnt x (m - n) (by omega) (by omega)
    rw [szL_cnt l m _ h1 (by omega) h, cntL]
    omega
end
theorem fewQ_split {c : List Df} {q : Qy} (h : fewQ c q = true) : c.length ≤ 10 ∧ q.occ.length ≤ 20 ∧ q.p.length ≤ 8 ∧ q.sums.length ≤ 20 ∧ q.out.length ≤ 20 ∧ ∀ e ∈ q.p, cnt e ≤ 60 := by
  unfold fewQ at h
  simp only [Bool.and_eq_true, decide_eq_true_eq, List.all_eq_true] at h
  obtain ⟨⟨⟨⟨⟨h1, h2⟩, h3⟩, h4⟩, h5⟩, h6⟩ := h
  refine ⟨h1, h2, h3, h4, h5, fun e he => ?_⟩
  have := sz_cnt e 60 (by omega) (h6 e he)
  have := h6 e he
  omega
theorem ok_of_few {c : List Df} {q : Qy} (hr : q.Raw c) (h : fewQ c q = true) : q.Ok := by
  obtain ⟨h1, h2, h3, h4, h5, h6⟩ := fewQ_split h
  exact ⟨by omega, fun e he => ⟨hr.2.2.2.2.2 e he, Nat.le_trans (h6 e he) (by omega)⟩, by omega, by omega, by omega⟩
theorem cols_of {e : Ex} {l : List Int} (hm : e.may = true) (hl : l.Pairwise (· < ·)) (h : e.colsAll = l) : e.cols = l := by
  rw [Ex.cols, if_pos hm, h]
  exact pw_ext (uniq_pw l) hl fun x => uniq_mem l x
def belowE : Ex := .mk 7 0 0 0 [.mk 1 8 0 0 [], .mk 0 0 0 5 []]
theorem pairE_cols : pairE.cols = [0, 5] := cols_of (by decide) (by decide) (by decide)
theorem belowE_cols : belowE.cols = [8] := cols_of (by decide) (by decide) (by decide)
theorem pairE_set : setE pairE = 3 := by unfold setE hasOcc; rw [pairE_cols]; decide +kernel
theorem belowE_set : setE belowE = 4 := by unfold setE hasOcc; rw [belowE_cols]; decide +kernel
theorem oneQ_p : oneQ.p = [pairE, belowE] := rfl
theorem oneQ_may : oneQ.may catTwo = true := by
  unfold Qy.may
  rw [oneQ_p]
  simp only [List.all_cons, List.all_nil, exIn, pairE_cols, belowE_cols]
  decide +kernel
theorem oneQ_idx (f : Ex → Bool) : idxF f oneQ.p = (if f pairE then [0] else []) ++ (if f belowE then [1] else []) := by
  rw [oneQ_p]
  cases h1 : f pairE <;> cases h2 : f belowE <;> simp [idxF, upto, List.range_succ, h1, h2]
theorem oneQ_new (a b : Int) : oneQ.new a b = (if holdsI (bor .i64 a b) 3 && !holdsI a 3 && !holdsI b 3 then [0] else []) ++ (if holdsI (bor .i64 a b) 4 && !holdsI a 4 && !holdsI b 4 then [1] else []) := by
  rw [Qy.new, oneQ_idx]
  simp only [newT, ownT, pairE_set, belowE_set]
theorem oneQ_new12 : oneQ.new 1 2 = [0] := by rw [oneQ_new]; decide +kernel
theorem oneQ_new16 : oneQ.new 1 6 = [0] := by rw [oneQ_new]; decide +kernel
theorem oneQ_pairs : oneQ.pairs 1 2 = [(0, 5)] := by
  rw [Qy.pairs, oneQ_new12]
  decide +kernel
theorem exOk2 {op col k n : Int} {a b : Ex} (ha : a.Ok) (hb : b.Ok) : Ex.Ok (.mk op col k n [a, b]) := .mk (by simp) (by
  intro x hx
  simp only [List.mem_cons, List.not_mem_nil, or_false] at hx
  rcases hx with rfl | rfl
  · exact ha
  · exact hb)
theorem exOk0 {op col k n : Int} : Ex.Ok (.mk op col k n []) := .mk (by decide) (by simp)
theorem pairE_ok : pairE.Ok := exOk2 exOk0 exOk0
theorem belowE_ok : belowE.Ok := exOk2 exOk0 exOk0
theorem oneQ_raw (c : List Df) (hc : c.length ≤ 140737488355328) : oneQ.Raw c := by
  refine ⟨hc, by decide, by decide, by decide, by decide, ?_⟩
  rw [oneQ_p]
  intro e he
  simp only [List.mem_cons, List.not_mem_nil, or_false] at he
  rcases he with rfl | rfl
  · exact pairE_ok
  · exact belowE_ok
theorem oneQ_few : fewQ catTwo oneQ = true := by decide
theorem oneQ_ok : oneQ.Ok := ok_of_few (oneQ_raw catTwo (by decide)) oneQ_few
theorem awake5_ok : Quiet Go.Proofs.Tryz.prog 14 [] (.bool true) := by
  have hp := Pairs_ok oneQ oneQ_ok 1 2
  rw [oneQ_pairs] at hp
  have hm := MayQ_ok catTwo (by decide) oneQ oneQ_ok
  rw [oneQ_may] at hm
  have hn := New_ok oneQ oneQ_ok 1 6
  rw [oneQ_new16] at hn
  refine quiet_of (rs := #[.tmp 0]) Go.Proofs.Tryz.func14 rfl rfl rfl mixed rfl rfl fun H hs => ?_
  simp -implicitDefEqProofs only [push_cast, Nat.reduceAdd, Nat.reduceSub, Nat.reduceMul, Nat.reduceLT, Nat.reduceLeDiff, Nat.reduceEqDiff, Nat.reduceBEq, reduceCtorEq, reduceIte, Int.reduceLE, Int.reduceLT, Int.reduceNeg, Int.reduceToNat]
  refine callq Two_ok ?_
  simp -implicitDefEqProofs only [push_cast, Nat.reduceAdd, Nat.reduceSub, Nat.reduceMul, Nat.reduceLT, Nat.reduceLeDiff, Nat.reduceEqDiff, Nat.reduceBEq, reduceCtorEq, reduceIte, Int.reduceLE, Int.reduceLT, Int.reduceNeg, Int.reduceToNat]
  refine ⟨rfl, callq One_ok ?_⟩
  simp -implicitDefEqProofs only [push_cast, Nat.reduceAdd, Nat.reduceSub, Nat.reduceMul, Nat.reduceLT, Nat.reduceLeDiff, Nat.reduceEqDiff, Nat.reduceBEq, reduceCtorEq, reduceIte, Int.reduceLE, Int.reduceLT, Int.reduceNeg, Int.reduceToNat]
  refine callq hp ?_
  simp -implicitDefEqProofs only [push_cast, Nat.reduceAdd, Nat.reduceSub, Nat.reduceMul, Nat.reduceLT, Nat.reduceLeDiff, Nat.reduceEqDiff, Nat.reduceBEq, reduceCtorEq, reduceIte, Int.reduceLE, Int.reduceLT, Int.reduceNeg, Int.reduceToNat]
  refine areg_im [33] 31 (by kernel_rfl) (by kernel_rfl) ?_
  simp -implicitDefEqProofs only [push_cast, Nat.reduceAdd, Nat.reduceSub, Nat.reduceMul, Nat.reduceLT, Nat.reduceLeDiff, Nat.reduceEqDiff, Nat.reduceBEq, reduceCtorEq, reduceIte, Int.reduceLE, Int.reduceLT, Int.reduceNeg, Int.reduceToNat]
  refine ahdq Pair5_ok ?_
  simp -implicitDefEqProofs only [push_cast, Nat.reduceAdd, Nat.reduceSub, Nat.reduceMul, Nat.reduceLT, Nat.reduceLeDiff, Nat.reduceEqDiff, Nat.reduceBEq, reduceCtorEq, reduceIte, Int.reduceLE, Int.reduceLT, Int.reduceNeg, Int.reduceToNat]
  refine ahdq (ofE_ok pairE pairE_ok (by decide)) ?_
  simp -implicitDefEqProofs only [push_cast, Nat.reduceAdd, Nat.reduceSub, Nat.reduceMul, Nat.reduceLT, Nat.reduceLeDiff, Nat.reduceEqDiff, Nat.reduceBEq, reduceCtorEq, reduceIte, Int.reduceLE, Int.reduceLT, Int.reduceNeg, Int.reduceToNat, pairE_set]
  refine gcallq (.agg (encQ oneQ)) (fun _ => One_ok) ?_
  simp -implicitDefEqProofs only [push_cast, Nat.reduceAdd, Nat.reduceSub, Nat.reduceMul, Nat.reduceLT, Nat.reduceLeDiff, Nat.reduceEqDiff, Nat.reduceBEq, reduceCtorEq, reduceIte, Int.reduceLE, Int.reduceLT, Int.reduceNeg, Int.reduceToNat]
  refine gcallq (.bool true) (fun _ => hm) ?_
  have hcm : CmpAt Go.Proofs.Tryz.prog 51 [.int .i64 0, .int .i64 5] [.int .i64 0, .int .i64 5] true := cmpP 0 5 0 5
  simp -implicitDefEqProofs only [push_cast, Nat.reduceAdd, Nat.reduceSub, Nat.reduceMul, Nat.reduceLT, Nat.reduceLeDiff, Nat.reduceEqDiff, Nat.reduceBEq, reduceCtorEq, reduceIte, Int.reduceLE, Int.reduceLT, Int.reduceNeg, Int.reduceToNat, encP, lits, cellsEq, cellEq, List.map_cons, List.map_nil, Int.reduceAdd, Int.reduceEq, eq_true hcm]
  refine gcallq (.agg (encQ oneQ)) (fun _ => One_ok) ?_
  simp -implicitDefEqProofs only [push_cast, Nat.reduceAdd, Nat.reduceSub, Nat.reduceMul, Nat.reduceLT, Nat.reduceLeDiff, Nat.reduceEqDiff, Nat.reduceBEq, reduceCtorEq, reduceIte, Int.reduceLE, Int.reduceLT, Int.reduceNeg, Int.reduceToNat]
  refine gcallq (.sl ([0].map encI)) (fun _ => hn) ?_
  simp -implicitDefEqProofs only [push_cast, Nat.reduceAdd, Nat.reduceSub, Nat.reduceMul, Nat.reduceLT, Nat.reduceLeDiff, Nat.reduceEqDiff, Nat.reduceBEq, reduceCtorEq, reduceIte, Int.reduceLE, Int.reduceLT, Int.reduceNeg, Int.reduceToNat]
  refine gcallq (.bool true) (fun _ => ints_ok [0] [0] (by simp) (by simp)) ?_
  simp -implicitDefEqProofs only [push_cast, Nat.reduceAdd, Nat.reduceSub, Nat.reduceMul, Nat.reduceLT, Nat.reduceLeDiff, Nat.reduceEqDiff, Nat.reduceBEq, reduceCtorEq, reduceIte, Int.reduceLE, Int.reduceLT, Int.reduceNeg, Int.reduceToNat]
  refine gcallq (.agg (encE small)) (fun _ => Small_ok) ?_
  simp -implicitDefEqProofs only [push_cast, Nat.reduceAdd, Nat.reduceSub, Nat.reduceMul, Nat.reduceLT, Nat.reduceLeDiff, Nat.reduceEqDiff, Nat.reduceBEq, reduceCtorEq, reduceIte, Int.reduceLE, Int.reduceLT, Int.reduceNeg, Int.reduceToNat]
  refine gcallq (.bool small.may) (fun _ => mayE_ok small small_ok) ?_
  rw [small_may]
  simp -implicitDefEqProofs only [push_cast, Nat.reduceAdd, Nat.reduceSub, Nat.reduceMul, Nat.reduceLT, Nat.reduceLeDiff, Nat.reduceEqDiff, Nat.reduceBEq, reduceCtorEq, reduceIte, Int.reduceLE, Int.reduceLT, Int.reduceNeg, Int.reduceToNat]
  (try simp -implicitDefEqProofs only [push_cast, Nat.reduceAdd, Nat.reduceSub, Nat.reduceMul, Nat.reduceLT, Nat.reduceLeDiff, Nat.reduceEqDiff, Nat.reduceBEq, reduceCtorEq, reduceIte, Int.reduceLE, Int.reduceLT, Int.reduceNeg, Int.reduceToNat])
end Go.Sim.Tryz
set_option linter.unusedSimpArgs false
set_option linter.unusedVariables false
set_option maxRecDepth 100000
namespace Go.Sim.Tryz
open Go Go.Sim

theorem shp_V2 {n : Nat} {vs : List AV} (h : Shp Go.Proofs.Tryz.prog n 36 vs) : ∃ v : Vl, vs = encV v ∧ In64 v.n := by
  obtain ⟨m, parts, _, rfl, hl, hp⟩ := shp_struct Go.Proofs.Tryz.underlying36 h
  match parts, hl with
  | [p0, p1], _ =>
    obtain ⟨k, rfl, _⟩ := shp_int Go.Proofs.Tryz.underlying3 (hp 0 _ p0 rfl rfl).2
    obtain ⟨n, rfl, hn⟩ := shp_int Go.Proofs.Tryz.underlying3 (hp 1 _ p1 rfl rfl).2
    exact ⟨⟨k, n⟩, rfl, wf64 hn⟩
theorem shp_E2 : ∀ (n : Nat) {vs : List AV}, Shp Go.Proofs.Tryz.prog n 38 vs → ∃ e : Ex, vs = encE e ∧ (e.Ok ∧ e.In) := by
  intro n
  induction n using Nat.strongRecOn with
  | ind n ih =>
  intro vs h
  obtain ⟨m, parts, hn, rfl, hl, hp⟩ := shp_struct Go.Proofs.Tryz.underlying38 h
  match parts, hl with
  | [p0, p1, p2, p3], _ =>
    obtain ⟨op, rfl, _⟩ := shp_int Go.Proofs.Tryz.underlying3 (hp 0 _ p0 rfl rfl).2
    obtain ⟨col, rfl, _⟩ := shp_int Go.Proofs.Tryz.underlying3 (hp 1 _ p1 rfl rfl).2
    obtain ⟨⟨k, n'⟩, rfl, hv⟩ := shp_V2 (hp 2 _ p2 rfl rfl).2
    obtain ⟨m', es, hm, rfl, hle, hpe⟩ := shp_slice Go.Proofs.Tryz.underlying26 (hp 3 _ p3 rfl rfl).2
    rw [bytesE] at hle
    obtain ⟨l, rfl, hq⟩ := map_of (f := encE) (q := fun e => e.Ok ∧ e.In) fun x hx => ih m' (by omega) (hpe x hx).2
    refine ⟨.mk op col k n' l, by rw [encE_mk]; rfl, .mk ?_ fun x hx => (hq x hx).1, .mk hv fun x hx => (hq x hx).2⟩
    simp [reachBytes] at hle
    omega
end Go.Sim.Tryz
set_option linter.unusedSimpArgs false
set_option linter.unusedVariables false
set_option maxRecDepth 100000
namespace Go.Sim.Tryz
open Go Go.Sim

theorem bytesD : Program.bytesOf Go.Proofs.Tryz.prog 59 = 16 := by kernel_rfl
theorem shp_D {n : Nat} {vs : List AV} (h : Shp Go.Proofs.Tryz.prog n 59 vs) : ∃ d : Df, vs = encD d ∧ (In64 d.cols ∧ In64 d.rows) := by
  obtain ⟨m, parts, _, rfl, hl, hp⟩ := shp_struct Go.Proofs.Tryz.underlying59 h
  match parts, hl with
  | [p0, p1], _ =>
    obtain ⟨k, rfl, hk⟩ := shp_int Go.Proofs.Tryz.underlying3 (hp 0 _ p0 rfl rfl).2
    obtain ⟨n, rfl, hn⟩ := shp_int Go.Proofs.Tryz.underlying3 (hp 1 _ p1 rfl rfl).2
    exact ⟨⟨k, n⟩, rfl, wf64 hk, wf64 hn⟩
theorem shp_Ds {n : Nat} {vs : List AV} (h : Shp Go.Proofs.Tryz.prog n 22 vs) : ∃ l : List Df, vs = [.sl (l.map encD)] ∧ l.length ≤ 140737488355328 ∧ ∀ d ∈ l, In64 d.cols ∧ In64 d.rows := by
  obtain ⟨m, es, _, rfl, hl, hp⟩ := shp_slice Go.Proofs.Tryz.underlying22 h
  rw [bytesD] at hl
  obtain ⟨l, rfl, hq⟩ := map_of (f := encD) (q := fun d => In64 d.cols ∧ In64 d.rows) fun x hx => shp_D (hp x hx).2
  exact ⟨l, rfl, by simp [reachBytes] at hl; omega, hq⟩
theorem shp_C {n : Nat} {vs : List AV} (h : Shp Go.Proofs.Tryz.prog n 24 vs) : ∃ l : List Df, vs = [.sl (l.map encD)] ∧ l.length ≤ 140737488355328 ∧ ∀ d ∈ l, In64 d.cols ∧ In64 d.rows := by
  obtain ⟨m, parts, _, rfl, hl, hp⟩ := shp_struct Go.Proofs.Tryz.underlying24 h
  match parts, hl with
  | [p0], _ =>
    obtain ⟨l, rfl, h1, h2⟩ := shp_Ds (hp 0 _ p0 rfl rfl).2
    exact ⟨l, rfl, h1, h2⟩
theorem shp_Is2 {n : Nat} {vs : List AV} (h : Shp Go.Proofs.Tryz.prog n 25 vs) : ∃ l : List Int, vs = [.sl (l.map encI)] ∧ l.length ≤ 140737488355328 ∧ ∀ x ∈ l, In64 x := by
  obtain ⟨m, es, _, rfl, hl, hp⟩ := shp_slice Go.Proofs.Tryz.underlying25 h
  rw [bytesI] at hl
  obtain ⟨l, rfl, hq⟩ := map_of (f := encI) (q := fun x => In64 x) fun x hx => let ⟨v, hv, hw⟩ := shp_int Go.Proofs.Tryz.underlying3 (hp x hx).2; ⟨v, hv, wf64 hw⟩
  exact ⟨l, rfl, by simp [reachBytes] at hl; omega, hq⟩
theorem shp_Es {n : Nat} {vs : List AV} (h : Shp Go.Proofs.Tryz.prog n 26 vs) : ∃ l : List Ex, vs = [.sl (l.map encE)] ∧ l.length ≤ 140737488355328 ∧ ∀ e ∈ l, e.Ok ∧ e.In := by
  obtain ⟨m, es, _, rfl, hl, hp⟩ := shp_slice Go.Proofs.Tryz.underlying26 h
  rw [bytesE] at hl
  obtain ⟨l, rfl, hq⟩ := map_of (f := encE) (q := fun e => e.Ok ∧ e.In) fun x hx => shp_E2 m (hp x hx).2
  exact ⟨l, rfl, by simp [reachBytes] at hl; omega, hq⟩
/-- Numbers of 64 bits. -/
def Qy.In2 (q : Qy) : Prop := q.In ∧ (∀ x ∈ q.occ, In64 x) ∧ In64 q.ord
theorem shp_Q {n : Nat} {vs : List AV} (h : Shp Go.Proofs.Tryz.prog n 28 vs) (c : List Df) (hc : c.length ≤ 140737488355328) : ∃ q : Qy, vs = encQ q ∧ q.Raw c ∧ q.In2 := by
  obtain ⟨m, parts, _, rfl, hl, hp⟩ := shp_struct Go.Proofs.Tryz.underlying28 h
  match parts, hl with
  | [p0, p1, p2, p3, p4, p5], _ =>
    obtain ⟨occ, rfl, h0, i0⟩ := shp_Is2 (hp 0 _ p0 rfl rfl).2
    obtain ⟨p, rfl, h1, i1⟩ := shp_Es (hp 1 _ p1 rfl rfl).2
    obtain ⟨by_, rfl, i2⟩ := shp_int Go.Proofs.Tryz.underlying3 (hp 2 _ p2 rfl rfl).2
    obtain ⟨sums, rfl, h3, i3⟩ := shp_Is2 (hp 3 _ p3 rfl rfl).2
    obtain ⟨out, rfl, h4, i4⟩ := shp_Is2 (hp 4 _ p4 rfl rfl).2
    obtain ⟨ord, rfl, i5⟩ := shp_int Go.Proofs.Tryz.underlying3 (hp 5 _ p5 rfl rfl).2
    exact ⟨⟨occ, p, by_, sums, out, ord⟩, rfl, ⟨hc, h0, h1, h3, h4, fun e he => (i1 e he).1⟩, ⟨i4, i3, wf64 i2⟩, i0, wf64 i5⟩
theorem asV_C (vs : List AV) : asV Go.Proofs.Tryz.prog 24 vs = .agg vs := by simp only [asV, Go.Proofs.Tryz.underlying24]
theorem asV_Q (vs : List AV) : asV Go.Proofs.Tryz.prog 28 vs = .agg vs := by simp only [asV, Go.Proofs.Tryz.underlying28]
theorem told_CQ {ts : List TypeId} {us : List AV} (h : ToldAll Go.Proofs.Tryz.prog (24 :: 28 :: ts) us) :
    ∃ (c : List Df) (q : Qy) (us' : List AV), us = .agg [.sl (c.map encD)] :: .agg (encQ q) :: us' ∧ (c.length ≤ 140737488355328 ∧ ∀ d ∈ c, In64 d.cols ∧ In64 d.rows) ∧ q.Raw c ∧ q.In2 ∧ ToldAll Go.Proofs.Tryz.prog ts us' := by
  simp only [ToldAll] at h
  obtain ⟨n, vs, us1, rfl, h1, n2, vs2, us2, rfl, h2, h3⟩ := h
  obtain ⟨c, rfl, hc, hc2⟩ := shp_C h1
  obtain ⟨q, rfl, hq, hq2⟩ := shp_Q h2 c hc
  exact ⟨c, q, us2, by rw [asV_C, asV_Q], ⟨hc, hc2⟩, hq, hq2, h3⟩
theorem told_I {ts : List TypeId} {us : List AV} (h : ToldAll Go.Proofs.Tryz.prog (3 :: ts) us) : ∃ (n : Int) (us' : List AV), us = .int n :: us' ∧ In64 n ∧ ToldAll Go.Proofs.Tryz.prog ts us' := by
  simp only [ToldAll] at h
  obtain ⟨n, vs, us1, rfl, h1, h3⟩ := h
  obtain ⟨k, rfl, hk⟩ := shp_int Go.Proofs.Tryz.underlying3 h1
  exact ⟨k, us1, by rw [asV_I]; rfl, wf64 hk, h3⟩
theorem told_nil {us : List AV} (h : ToldAll Go.Proofs.Tryz.prog [] us) : us = [] := by simpa only [ToldAll] using h
end Go.Sim.Tryz
set_option linter.unusedSimpArgs false
set_option linter.unusedVariables false
set_option maxRecDepth 100000
namespace Go.Sim.Tryz
open Go Go.Sim
attribute [local push_cast] aops_cons aops_nil aopG_none aopG_some aopP_eq aopE_eq aopC_eq aopE?_eq aopC?_eq aopB_eq aopB?_eq abr anilq gopP_eq gopL_eq ahead_cons ahead_nil ahdG_none ahdG_some ahdP_eq ahdN_eq ahdC_eq ahdN?_eq ahdS_eq ahdS?_eq astoreN ahdC?_eq ghdP_eq ghdC_eq ghdC?_eq ghdZ_f ghdZ_t ahdI_eq ahdI?_eq ghdN?_eq aim_nil aim_cons isIn_nil isIn_none isIn_cons aimm aheP_eq aheA_eq aheC_eq aheC?_eq aheI?_eq aheA?_eq gheP_eq gheC_eq gheC?_eq gheZ_eq aheG_none aheG_some aheff_cons aheff_nil aapp gro_rsl gro_lit gro_esl opt_some opt_none no_eq acondT_true acondT_false acondT_lit aw_skip aw_region aw_regionD aw_seq aw_cond aw_block aw_loop aw_exit aw_label aw_ret thn_normal thn_exit thn_ret inb_normal inb_exit inb_ret qret_ret qret_normal gcond apure aeff anew acallee ares aresT aresL aresC ares1 qfin_eq ev ofV evL gokL tget tput_some tput_none initT abin aint aun aload afaddr aiaddr afield aindex aextract apick pickv_lit Bool.or_false Bool.false_or Bool.or_true Bool.true_or imp_self aslice chunk abound aconv abuild afill splice alen aminmax abuiltin anil apart Value.oneCell' astore aappend srcEs abuildSlice asets isEq plus_obj plus_nxt plus_add plus_set plus_del IntKind.bits Option.map_some Option.map_none Option.bind_some Option.bind_none Option.join_some Option.getD_some Option.getD_none Option.toList Option.isSome_some List.getElem?_toArray List.getElem?_cons_zero List.getElem?_cons_succ List.getElem?_nil List.length_cons List.length_nil List.length_map List.head?_cons List.cons_append List.nil_append List.append_nil List.map_cons List.map_nil List.getD_cons_zero List.getD_cons_succ List.replicate_succ List.replicate_zero List.set_cons_zero List.set_cons_succ List.take_succ_cons List.take_zero List.drop_succ_cons List.drop_zero List.all_cons List.all_nil Nat.zero_add if_true if_false true_and and_true false_and and_false true_implies implies_true forall_const Bool.and_true Bool.true_and Bool.false_and Bool.and_false Bool.true_beq Bool.false_beq Bool.not_not beq_tt beq_ff Int.toNat_natCast decide_true decide_false Bool.not_true Bool.not_false Bool.true_eq_false Bool.false_eq_true false_implies exists_prop eq_self bne_self_eq_false beq_self_eq_true decide_eq_true_eq decide_eq_false_iff_not Bool.not_eq_true' Bool.not_eq_false' AV.int AV.bool AV.nilS ne_eq not_false_eq_true not_true_eq_false exists_eq_left exists_eq_left' Nat.lt_irrefl core_lit grd_lit acells_lit one_lit core_agg grd_agg acells_agg one_agg core_tup grd_tup acells_tup one_tup core_sl grd_sl acells_sl one_sl core_esl grd_esl acells_esl one_esl core_rsl grd_rsl acells_rsl one_rsl core_ptr grd_ptr acells_ptr one_ptr core_iptr grd_iptr acells_iptr one_iptr core_clo grd_clo acells_clo one_clo core_mp grd_mp acells_mp one_mp core_any grd_any acells_any one_any core_gv grd_gv fit_agg fit_lit fit_sl fit_esl fit_rsl fit_ptr fit_iptr fit_clo fit_mp retq_ret retq_normal set_nxt set_set plus_obj_set plus_set_set app_get0 app_get app_set0 app_set List.append_assoc List.length_append List.length_set Nat.lt_add_one Nat.add_lt_add_iff_right Nat.lt_add_right_iff_pos Nat.add_lt_add_iff_left List.mem_cons List.not_mem_nil or_false forall_eq forall_eq_or_imp lt_s0 lt_s1 lt_s2 lt_s3 lt_s4 lt_s5 lt_s6 lt_s7 lt_s8 pickv_t pickv_f or_nand or_nand2 imp_and_l SealT SealOs sealO_cells sl_lit sl_any sl_agg sl_tup sl_sl sl_rsl slO sl_esl sl_nil sl_eslesl sl_eslnil sl_rslrsl sl_eslrsl sl_nilrsl sl_ptr sl_iptr sl_ptri slP sl_clo sl_mp sl_gv sll_nil sll_cons slll_nil slll_cons shut_eq shutO Option.join_none Fn.func.injEq and_self sealL_self sealLL_self seal_self PureL PureLL Pure Nat.le_refl Nat.zero_le AV.lit.injEq Value.int.injEq Value.bool.injEq false_or or_true true_or Int.natCast_zero Int.ofNat_zero Int.cast_ofNat_Int Int.natCast_add Int.natCast_one Option.some.injEq piL_is sop_nil sop_cons sop_none sop_some sopO_some sop_new shut_pi shutL_nil shutL_cons exQ_exit exQ_ret exQ_normal Go.Sim.Tryz.ty_load1 Go.Sim.Tryz.ty_zero1 Go.Sim.Tryz.ty_load2 Go.Sim.Tryz.ty_zero2 Go.Sim.Tryz.ty_und2 Go.Sim.Tryz.ty_load3 Go.Sim.Tryz.ty_zero3 Go.Sim.Tryz.ty_und3 Go.Sim.Tryz.ty_load4 Go.Sim.Tryz.ty_zero4 Go.Sim.Tryz.ty_und4 Go.Sim.Tryz.ty_load5 Go.Sim.Tryz.ty_zero5 Go.Sim.Tryz.ty_und5 Go.Sim.Tryz.ty_load9 Go.Sim.Tryz.ty_zero9 Go.Sim.Tryz.ty_und9 Go.Sim.Tryz.ty_load22 Go.Sim.Tryz.ty_zero22 Go.Sim.Tryz.ty_el22 Go.Sim.Tryz.ty_zeroE22 Go.Sim.Tryz.ty_load24 Go.Sim.Tryz.ty_zero24 Go.Sim.Tryz.ty_fld24_0 Go.Sim.Tryz.ty_part24_0 Go.Sim.Tryz.ty_struct24 Go.Sim.Tryz.ty_load25 Go.Sim.Tryz.ty_zero25 Go.Sim.Tryz.ty_el25 Go.Sim.Tryz.ty_zeroE25 Go.Sim.Tryz.ty_load26 Go.Sim.Tryz.ty_zero26 Go.Sim.Tryz.ty_el26 Go.Sim.Tryz.ty_zeroE26 Go.Sim.Tryz.ty_load28 Go.Sim.Tryz.ty_zero28 Go.Sim.Tryz.ty_fld28_0 Go.Sim.Tryz.ty_part28_0 Go.Sim.Tryz.ty_fld28_1 Go.Sim.Tryz.ty_part28_1 Go.Sim.Tryz.ty_fld28_2 Go.Sim.Tryz.ty_part28_2 Go.Sim.Tryz.ty_fld28_3 Go.Sim.Tryz.ty_part28_3 Go.Sim.Tryz.ty_fld28_4 Go.Sim.Tryz.ty_part28_4 Go.Sim.Tryz.ty_fld28_5 Go.Sim.Tryz.ty_part28_5 Go.Sim.Tryz.ty_struct28 Go.Sim.Tryz.ty_load36 Go.Sim.Tryz.ty_zero36 Go.Sim.Tryz.ty_fld36_0 Go.Sim.Tryz.ty_part36_0 Go.Sim.Tryz.ty_fld36_1 Go.Sim.Tryz.ty_part36_1 Go.Sim.Tryz.ty_struct36 Go.Sim.Tryz.ty_load38 Go.Sim.Tryz.ty_zero38 Go.Sim.Tryz.ty_fld38_0 Go.Sim.Tryz.ty_part38_0 Go.Sim.Tryz.ty_fld38_1 Go.Sim.Tryz.ty_part38_1 Go.Sim.Tryz.ty_fld38_2 Go.Sim.Tryz.ty_part38_2 Go.Sim.Tryz.ty_fld38_3 Go.Sim.Tryz.ty_part38_3 Go.Sim.Tryz.ty_struct38 Go.Sim.Tryz.ty_load48 Go.Sim.Tryz.ty_zero48 Go.Sim.Tryz.ty_el48 Go.Sim.Tryz.ty_zeroE48 Go.Sim.Tryz.ty_load51 Go.Sim.Tryz.ty_zero51 Go.Sim.Tryz.ty_arr51 Go.Sim.Tryz.ty_part51_0 Go.Sim.Tryz.ty_part51_1 Go.Sim.Tryz.ty_struct51 Go.Sim.Tryz.ty_load59 Go.Sim.Tryz.ty_zero59 Go.Sim.Tryz.ty_fld59_0 Go.Sim.Tryz.ty_part59_0 Go.Sim.Tryz.ty_fld59_1 Go.Sim.Tryz.ty_part59_1 Go.Sim.Tryz.ty_struct59 Go.Sim.Tryz.ty_load60 Go.Sim.Tryz.ty_zero60 Go.Sim.Tryz.ty_el60 Go.Sim.Tryz.ty_zeroE60 Go.Sim.Tryz.ty_load62 Go.Sim.Tryz.ty_zero62 Go.Sim.Tryz.ty_fld62_0 Go.Sim.Tryz.ty_part62_0 Go.Sim.Tryz.ty_struct62 Go.Sim.Tryz.ty_load67 Go.Sim.Tryz.ty_zero67 Go.Sim.Tryz.ty_load68 Go.Sim.Tryz.ty_zero68 Go.Sim.Tryz.ty_load75 Go.Sim.Tryz.ty_zero75 Go.Sim.Tryz.ty_load76 Go.Sim.Tryz.ty_zero76 Go.Sim.Tryz.ty_und76 Go.Sim.Tryz.ty_load82 Go.Sim.Tryz.ty_zero82 Go.Sim.Tryz.ty_und82 Go.Sim.Tryz.ty_load85 Go.Sim.Tryz.ty_zero85 Go.Sim.Tryz.ty_und85 Go.Sim.Tryz.ty_load89 Go.Sim.Tryz.ty_zero89 Go.Sim.Tryz.ty_el89 Go.Sim.Tryz.ty_zeroE89 Go.Sim.Tryz.ty_load90 Go.Sim.Tryz.ty_zero90 Go.Sim.Tryz.ty_el90 Go.Sim.Tryz.ty_zeroE90 Go.Sim.Tryz.ty_load93 Go.Sim.Tryz.ty_zero93 Go.Sim.Tryz.ty_load98 Go.Sim.Tryz.ty_zero98 Go.Sim.Tryz.ty_fld98_0 Go.Sim.Tryz.ty_part98_0 Go.Sim.Tryz.ty_fld98_1 Go.Sim.Tryz.ty_part98_1 Go.Sim.Tryz.ty_fld98_2 Go.Sim.Tryz.ty_part98_2 Go.Sim.Tryz.ty_struct98 Go.Sim.Tryz.ty_load100 Go.Sim.Tryz.ty_zero100 Go.Sim.Tryz.ty_load106 Go.Sim.Tryz.ty_zero106 Go.Sim.Tryz.ty_load110 Go.Sim.Tryz.ty_zero110 Go.Sim.Tryz.ty_und110 Go.Sim.Tryz.ty_load118 Go.Sim.Tryz.ty_zero118 Go.Sim.Tryz.ty_und118 Go.Sim.Tryz.ty_load121 Go.Sim.Tryz.ty_zero121 Go.Sim.Tryz.ty_load128 Go.Sim.Tryz.ty_zero128 Go.Sim.Tryz.ty_und128 Go.Sim.Tryz.ty_load132 Go.Sim.Tryz.ty_zero132 encE_mk encE_take encE_len encV encE_one encEs_pure encE_pure

theorem encQ_take (q : Qy) : (encQ q).take 6 = encQ q := List.take_of_length_le (by simp [encQ])
set_option maxHeartbeats 1000000 in
theorem queryTells_ok (c : List Df) (q : Qy) (a b : Int) (hr : q.Raw c) (hin : q.In) : Quiet Go.Proofs.Tryz.prog 8 [.agg [.sl (c.map encD)], .agg (encQ q), .int a, .int b] (.bool true) := by
  have hf5 := few5_ok c q hr
  refine quiet_of (rs := #[.tmp 8]) Go.Proofs.Tryz.func8 rfl rfl rfl mixed rfl rfl fun H hs => ?_
  simp -implicitDefEqProofs only [push_cast, Nat.reduceAdd, Nat.reduceSub, Nat.reduceMul, Nat.reduceLT, Nat.reduceLeDiff, Nat.reduceEqDiff, Nat.reduceBEq, reduceCtorEq, reduceIte, Int.reduceLE, Int.reduceLT, Int.reduceNeg, Int.reduceToNat, encQ_take, encQ_len]
  refine callq awake5_ok ?_
  simp -implicitDefEqProofs only [push_cast, Nat.reduceAdd, Nat.reduceSub, Nat.reduceMul, Nat.reduceLT, Nat.reduceLeDiff, Nat.reduceEqDiff, Nat.reduceBEq, reduceCtorEq, reduceIte, Int.reduceLE, Int.reduceLT, Int.reduceNeg, Int.reduceToNat, encQ_take, encQ_len]
  refine callq hf5 ?_
  cases hf : fewQ c q
  · simp -implicitDefEqProofs only [push_cast, Nat.reduceAdd, Nat.reduceSub, Nat.reduceMul, Nat.reduceLT, Nat.reduceLeDiff, Nat.reduceEqDiff, Nat.reduceBEq, reduceCtorEq, reduceIte, Int.reduceLE, Int.reduceLT, Int.reduceNeg, Int.reduceToNat, encQ_take, encQ_len]
  · have hcl : c.length ≤ 1000000 := by have := (fewQ_split hf).1; omega
    have hq := ok_of_few hr hf
    have hP := hq.1
    have hnl : ∀ a b, (q.new a b).length ≤ 1000000 := fun a b => Nat.le_trans (idxF_lt _ _) hP
    have hol : ∀ a, (q.own a).length ≤ 1000000 := fun a => Nat.le_trans (idxF_lt _ _) hP
    have hcols : (q.cols c a).length ≤ 16 := by unfold Qy.cols; split; exact colsIn_le _ _ _; simp
    have hpl : (q.pairs a b).length ≤ 1000000 := Nat.le_trans (pairs_len q a b) (hnl a b)
    have hor : q.orders.length ≤ 1000000 := by
      rw [← orders_R]
      have := ordUp_len q 16
      rw [ordUp] at this
      omega
    have hints : ∀ l : List Int, l.length ≤ 1000000 → Quiet Go.Proofs.Tryz.prog 19 [.sl (l.map encI), .sl (l.map encI)] (.bool true) := fun l hl => by
      have := ints_ok l l (by omega) (by omega)
      rwa [decide_eq_true rfl] at this
    have hsame : Quiet Go.Proofs.Tryz.prog 33 [.sl ((q.pairs a b).map encP), .sl ((q.pairs a b).map encP)] (.bool true) := by
      have := SameP_ok _ _ hpl hpl
      rwa [decide_eq_true rfl] at this
    simp -implicitDefEqProofs only [push_cast, Nat.reduceAdd, Nat.reduceSub, Nat.reduceMul, Nat.reduceLT, Nat.reduceLeDiff, Nat.reduceEqDiff, Nat.reduceBEq, reduceCtorEq, reduceIte, Int.reduceLE, Int.reduceLT, Int.reduceNeg, Int.reduceToNat, encQ_take, encQ_len]
    refine loop_at hs (σ := Nat) (fun i => i ≤ q.p.length) (fun i => q.p.length - i)
      (fun i => [(11, .int i), (4, .ptr (H.nxt + 0) 1 0 0), (5, .ptr (H.nxt + 1) 6 0 0), (2, .int a), (3, .int b)]) (fun i => [some (.cells 1 [[.sl (c.map encD)]] 0), some (.cells 6 [encQ q] 0)]) [some 0, some 1] 0 (by omega) rfl ?_ ?_ ?_
    · (try simp -implicitDefEqProofs only [push_cast, Nat.reduceAdd, Nat.reduceSub, Nat.reduceMul, Nat.reduceLT, Nat.reduceLeDiff, Nat.reduceEqDiff, Nat.reduceBEq, reduceCtorEq, reduceIte, Int.reduceLE, Int.reduceLT, Int.reduceNeg, Int.reduceToNat, encDs_pure, encQ_pure, encQ_len])
    · (try simp -implicitDefEqProofs only [push_cast, Nat.reduceAdd, Nat.reduceSub, Nat.reduceMul, Nat.reduceLT, Nat.reduceLeDiff, Nat.reduceEqDiff, Nat.reduceBEq, reduceCtorEq, reduceIte, Int.reduceLE, Int.reduceLT, Int.reduceNeg, Int.reduceToNat, encDs_pure, encQ_pure, encQ_len])
    intro i hi2
    by_cases hi : i < q.p.length
    · have hi' : ((i : Int) < (q.p.length : Int)) = True := by simp; omega
      have hi0 : (0 ≤ (i : Int)) = True := by simp
      have hok := hq.2.1 _ (List.getElem_mem hi)
      simp -implicitDefEqProofs only [push_cast, Nat.reduceAdd, Nat.reduceSub, Nat.reduceMul, Nat.reduceLT, Nat.reduceLeDiff, Nat.reduceEqDiff, Nat.reduceBEq, reduceCtorEq, reduceIte, Int.reduceLE, Int.reduceLT, Int.reduceNeg, Int.reduceToNat, hi', hi0, encQ]
      refine areg_at 13 (by kernel_rfl) (by kernel_rfl) ?_
      simp -implicitDefEqProofs only [push_cast, Nat.reduceAdd, Nat.reduceSub, Nat.reduceMul, Nat.reduceLT, Nat.reduceLeDiff, Nat.reduceEqDiff, Nat.reduceBEq, reduceCtorEq, reduceIte, Int.reduceLE, Int.reduceLT, Int.reduceNeg, Int.reduceToNat, hi', hi0, encEs_get q.p i hi, encQ]
      refine ahdq (ofE_ok _ hok.1 hok.2) ?_
      simp -implicitDefEqProofs only [push_cast, Nat.reduceAdd, Nat.reduceSub, Nat.reduceMul, Nat.reduceLT, Nat.reduceLeDiff, Nat.reduceEqDiff, Nat.reduceBEq, reduceCtorEq, reduceIte, Int.reduceLE, Int.reduceLT, Int.reduceNeg, Int.reduceToNat, hi', hi0, encEs_get q.p i hi, encQ]
      refine ahdq (OfR_ok _ hok.1 hok.2 (cols_rng _)) ?_
      simp -implicitDefEqProofs only [push_cast, Nat.reduceAdd, Nat.reduceSub, Nat.reduceMul, Nat.reduceLT, Nat.reduceLeDiff, Nat.reduceEqDiff, Nat.reduceBEq, reduceCtorEq, reduceIte, Int.reduceLE, Int.reduceLT, Int.reduceNeg, Int.reduceToNat, encQ]
      rw [wrap64 (n := (i : Int) + 1) (by omega) (by omega)]
      refine next_at [some 0, some 1] (i + 1) (by omega) (by omega) rfl ?_ ?_
      · (try simp -implicitDefEqProofs only [push_cast, Nat.reduceAdd, Nat.reduceSub, Nat.reduceMul, Nat.reduceLT, Nat.reduceLeDiff, Nat.reduceEqDiff, Nat.reduceBEq, reduceCtorEq, reduceIte, Int.reduceLE, Int.reduceLT, Int.reduceNeg, Int.reduceToNat, encDs_pure, encEs_pure, encIs_pure, encQ])
      · (try simp -implicitDefEqProofs only [push_cast, Nat.reduceAdd, Nat.reduceSub, Nat.reduceMul, Nat.reduceLT, Nat.reduceLeDiff, Nat.reduceEqDiff, Nat.reduceBEq, reduceCtorEq, reduceIte, Int.reduceLE, Int.reduceLT, Int.reduceNeg, Int.reduceToNat, encDs_pure, encEs_pure, encIs_pure, encQ])
    · have hi' : ((i : Int) < (q.p.length : Int)) = False := by simp; omega
      obtain rfl : i = q.p.length := by omega
      have hlen : (encQ q).drop 1 = .sl (q.p.map encE) :: (encQ q).drop 2 := rfl
      simp -implicitDefEqProofs only [push_cast, Nat.reduceAdd, Nat.reduceSub, Nat.reduceMul, Nat.reduceLT, Nat.reduceLeDiff, Nat.reduceEqDiff, Nat.reduceBEq, reduceCtorEq, reduceIte, Int.reduceLE, Int.reduceLT, Int.reduceNeg, Int.reduceToNat, hi', encQ]
      refine areg_at 28 (by kernel_rfl) (by kernel_rfl) ?_
      simp -implicitDefEqProofs only [push_cast, Nat.reduceAdd, Nat.reduceSub, Nat.reduceMul, Nat.reduceLT, Nat.reduceLeDiff, Nat.reduceEqDiff, Nat.reduceBEq, reduceCtorEq, reduceIte, Int.reduceLE, Int.reduceLT, Int.reduceNeg, Int.reduceToNat, encQ]
      refine ahdq (MayQ_ok c hcl q hq) ?_
      simp -implicitDefEqProofs only [push_cast, Nat.reduceAdd, Nat.reduceSub, Nat.reduceMul, Nat.reduceLT, Nat.reduceLeDiff, Nat.reduceEqDiff, Nat.reduceBEq, reduceCtorEq, reduceIte, Int.reduceLE, Int.reduceLT, Int.reduceNeg, Int.reduceToNat, encQ]
      refine ahdq (MayRQ_ok c hcl q hq hin) ?_
      simp -implicitDefEqProofs only [push_cast, Nat.reduceAdd, Nat.reduceSub, Nat.reduceMul, Nat.reduceLT, Nat.reduceLeDiff, Nat.reduceEqDiff, Nat.reduceBEq, reduceCtorEq, reduceIte, Int.reduceLE, Int.reduceLT, Int.reduceNeg, Int.reduceToNat, encQ]
      refine gcallq (.sl ((q.cols c a).map encI)) (fun _ => ColsQ_ok c hcl q hq a) ?_
      simp -implicitDefEqProofs only [push_cast, Nat.reduceAdd, Nat.reduceSub, Nat.reduceMul, Nat.reduceLT, Nat.reduceLeDiff, Nat.reduceEqDiff, Nat.reduceBEq, reduceCtorEq, reduceIte, Int.reduceLE, Int.reduceLT, Int.reduceNeg, Int.reduceToNat, encQ]
      refine gcallq (.sl ((q.cols c a).map encI)) (fun _ => ColsRQ_ok c hcl q hq hin a) ?_
      simp -implicitDefEqProofs only [push_cast, Nat.reduceAdd, Nat.reduceSub, Nat.reduceMul, Nat.reduceLT, Nat.reduceLeDiff, Nat.reduceEqDiff, Nat.reduceBEq, reduceCtorEq, reduceIte, Int.reduceLE, Int.reduceLT, Int.reduceNeg, Int.reduceToNat, encQ]
      refine gcallq (.bool true) (fun _ => hints _ (by omega)) ?_
      simp -implicitDefEqProofs only [push_cast, Nat.reduceAdd, Nat.reduceSub, Nat.reduceMul, Nat.reduceLT, Nat.reduceLeDiff, Nat.reduceEqDiff, Nat.reduceBEq, reduceCtorEq, reduceIte, Int.reduceLE, Int.reduceLT, Int.reduceNeg, Int.reduceToNat, encQ]
      refine gcallq (.sl ((q.own a).map encI)) (fun _ => Own_ok q hq a) ?_
      simp -implicitDefEqProofs only [push_cast, Nat.reduceAdd, Nat.reduceSub, Nat.reduceMul, Nat.reduceLT, Nat.reduceLeDiff, Nat.reduceEqDiff, Nat.reduceBEq, reduceCtorEq, reduceIte, Int.reduceLE, Int.reduceLT, Int.reduceNeg, Int.reduceToNat, encQ]
      refine gcallq (.sl ((q.own a).map encI)) (fun _ => OwnR_ok q hq a) ?_
      simp -implicitDefEqProofs only [push_cast, Nat.reduceAdd, Nat.reduceSub, Nat.reduceMul, Nat.reduceLT, Nat.reduceLeDiff, Nat.reduceEqDiff, Nat.reduceBEq, reduceCtorEq, reduceIte, Int.reduceLE, Int.reduceLT, Int.reduceNeg, Int.reduceToNat, encQ]
      refine gcallq (.bool true) (fun _ => hints _ (hol a)) ?_
      simp -implicitDefEqProofs only [push_cast, Nat.reduceAdd, Nat.reduceSub, Nat.reduceMul, Nat.reduceLT, Nat.reduceLeDiff, Nat.reduceEqDiff, Nat.reduceBEq, reduceCtorEq, reduceIte, Int.reduceLE, Int.reduceLT, Int.reduceNeg, Int.reduceToNat, encQ]
      refine areg_at 31 (by kernel_rfl) (by kernel_rfl) ?_
      simp -implicitDefEqProofs only [push_cast, Nat.reduceAdd, Nat.reduceSub, Nat.reduceMul, Nat.reduceLT, Nat.reduceLeDiff, Nat.reduceEqDiff, Nat.reduceBEq, reduceCtorEq, reduceIte, Int.reduceLE, Int.reduceLT, Int.reduceNeg, Int.reduceToNat, encQ]
      refine gcallq (.sl ((q.new a b).map encI)) (fun _ => New_ok q hq a b) ?_
      simp -implicitDefEqProofs only [push_cast, Nat.reduceAdd, Nat.reduceSub, Nat.reduceMul, Nat.reduceLT, Nat.reduceLeDiff, Nat.reduceEqDiff, Nat.reduceBEq, reduceCtorEq, reduceIte, Int.reduceLE, Int.reduceLT, Int.reduceNeg, Int.reduceToNat, encQ]
      refine gcallq (.sl ((q.new a b).map encI)) (fun _ => NewR_ok q hq a b) ?_
      simp -implicitDefEqProofs only [push_cast, Nat.reduceAdd, Nat.reduceSub, Nat.reduceMul, Nat.reduceLT, Nat.reduceLeDiff, Nat.reduceEqDiff, Nat.reduceBEq, reduceCtorEq, reduceIte, Int.reduceLE, Int.reduceLT, Int.reduceNeg, Int.reduceToNat, encQ]
      refine gcallq (.bool true) (fun _ => hints _ (hnl a b)) ?_
      simp -implicitDefEqProofs only [push_cast, Nat.reduceAdd, Nat.reduceSub, Nat.reduceMul, Nat.reduceLT, Nat.reduceLeDiff, Nat.reduceEqDiff, Nat.reduceBEq, reduceCtorEq, reduceIte, Int.reduceLE, Int.reduceLT, Int.reduceNeg, Int.reduceToNat, encQ]
      refine gcallq (.sl ((q.pairs a b).map encP)) (fun _ => Pairs_ok q hq a b) ?_
      simp -implicitDefEqProofs only [push_cast, Nat.reduceAdd, Nat.reduceSub, Nat.reduceMul, Nat.reduceLT, Nat.reduceLeDiff, Nat.reduceEqDiff, Nat.reduceBEq, reduceCtorEq, reduceIte, Int.reduceLE, Int.reduceLT, Int.reduceNeg, Int.reduceToNat, encQ]
      refine gcallq (.sl ((q.pairs a b).map encP)) (fun _ => PairsR_ok q hq a b) ?_
      simp -implicitDefEqProofs only [push_cast, Nat.reduceAdd, Nat.reduceSub, Nat.reduceMul, Nat.reduceLT, Nat.reduceLeDiff, Nat.reduceEqDiff, Nat.reduceBEq, reduceCtorEq, reduceIte, Int.reduceLE, Int.reduceLT, Int.reduceNeg, Int.reduceToNat, encQ]
      refine gcallq (.bool true) (fun _ => hsame) ?_
      simp -implicitDefEqProofs only [push_cast, Nat.reduceAdd, Nat.reduceSub, Nat.reduceMul, Nat.reduceLT, Nat.reduceLeDiff, Nat.reduceEqDiff, Nat.reduceBEq, reduceCtorEq, reduceIte, Int.reduceLE, Int.reduceLT, Int.reduceNeg, Int.reduceToNat, encQ]
      refine gcallq (.sl (q.orders.map encI)) (fun _ => Orders_ok q hq) ?_
      simp -implicitDefEqProofs only [push_cast, Nat.reduceAdd, Nat.reduceSub, Nat.reduceMul, Nat.reduceLT, Nat.reduceLeDiff, Nat.reduceEqDiff, Nat.reduceBEq, reduceCtorEq, reduceIte, Int.reduceLE, Int.reduceLT, Int.reduceNeg, Int.reduceToNat, encQ]
      refine gcallq (.sl (q.orders.map encI)) (fun _ => OrdersR_ok q hq) ?_
      simp -implicitDefEqProofs only [push_cast, Nat.reduceAdd, Nat.reduceSub, Nat.reduceMul, Nat.reduceLT, Nat.reduceLeDiff, Nat.reduceEqDiff, Nat.reduceBEq, reduceCtorEq, reduceIte, Int.reduceLE, Int.reduceLT, Int.reduceNeg, Int.reduceToNat, encQ]
      refine gcallq (.bool true) (fun _ => hints _ hor) ?_
      simp -implicitDefEqProofs only [push_cast, Nat.reduceAdd, Nat.reduceSub, Nat.reduceMul, Nat.reduceLT, Nat.reduceLeDiff, Nat.reduceEqDiff, Nat.reduceBEq, reduceCtorEq, reduceIte, Int.reduceLE, Int.reduceLT, Int.reduceNeg, Int.reduceToNat, encQ]
      (try simp -implicitDefEqProofs only [push_cast, Nat.reduceAdd, Nat.reduceSub, Nat.reduceMul, Nat.reduceLT, Nat.reduceLeDiff, Nat.reduceEqDiff, Nat.reduceBEq, reduceCtorEq, reduceIte, Int.reduceLE, Int.reduceLT, Int.reduceNeg, Int.reduceToNat])
theorem queryTells_law (us : List AV) (h : ToldAll Go.Proofs.Tryz.prog Go.Proofs.Tryz.f8.params.toList us) : Quiet Go.Proofs.Tryz.prog 8 us (.bool true) := by
  have e1 : Go.Proofs.Tryz.f8.params.toList = [24, 28, 3, 3] := by kernel_rfl
  rw [e1] at h
  obtain ⟨c, q, us, rfl, _, hr, hin, h⟩ := told_CQ h
  obtain ⟨a, us, rfl, _, h⟩ := told_I h
  obtain ⟨b, us, rfl, _, h⟩ := told_I h
  obtain rfl := told_nil h
  exact queryTells_ok c q a b hr hin.1
end Go.Sim.Tryz
