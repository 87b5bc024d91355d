/- What the document's package of values reckons. Conditions: none. -/
import Derived.Test.YtnoajklojkmonaaGreatSimRef1
set_option linter.unusedSimpArgs false
set_option linter.unusedVariables false
set_option maxRecDepth 100000
namespace Go.Sim.Tryz
open Go Go.Sim
attribute [local push_cast] aops_cons aops_nil aopG_none aopG_some aopP_eq aopE_eq aopC_eq aopE?_eq aopC?_eq gopP_eq gopL_eq ahead_cons ahead_nil ahdG_none ahdG_some ahdP_eq ahdN_eq ahdC_eq ahdN?_eq ahdS_eq ahdS?_eq astoreN ahdC?_eq ghdP_eq ghdC_eq ghdC?_eq ghdZ_eq opt_some opt_none no_eq acondT_true acondT_false acondT_lit aw_skip aw_region aw_regionD aw_seq aw_cond aw_block aw_loop aw_exit aw_label aw_ret thn_normal thn_exit thn_ret inb_normal inb_exit inb_ret qret_ret qret_normal gcond apure aeff anew acallee ares aresT aresL aresC ares1 qfin_eq ev ofV evL gokL tget tput_some tput_none initT abin aint aun aload afaddr aiaddr afield aindex aextract apick pickv_lit Bool.or_false Bool.false_or Bool.or_true Bool.true_or imp_self aslice abound aconv abuild afill splice alen aminmax abuiltin anil apart Value.oneCell' astore aappend srcEs abuildSlice asets isEq plus_obj plus_nxt plus_add plus_set plus_del IntKind.bits Option.map_some Option.map_none Option.bind_some Option.bind_none Option.join_some Option.getD_some Option.getD_none Option.toList Option.isSome_some List.getElem?_toArray List.getElem?_cons_zero List.getElem?_cons_succ List.getElem?_nil List.length_cons List.length_nil List.length_map List.head?_cons List.cons_append List.nil_append List.append_nil List.map_cons List.map_nil List.getD_cons_zero List.getD_cons_succ List.replicate_succ List.replicate_zero List.set_cons_zero List.set_cons_succ List.take_succ_cons List.take_zero List.drop_succ_cons List.drop_zero List.all_cons List.all_nil Nat.zero_add if_true if_false true_and and_true false_and and_false true_implies implies_true forall_const Bool.and_true Bool.true_and Bool.false_and Bool.and_false Bool.true_beq Bool.false_beq Bool.not_not beq_tt beq_ff Int.toNat_natCast decide_true decide_false Bool.not_true Bool.not_false Bool.true_eq_false Bool.false_eq_true false_implies exists_prop eq_self bne_self_eq_false beq_self_eq_true decide_eq_true_eq decide_eq_false_iff_not Bool.not_eq_true' Bool.not_eq_false' AV.int AV.bool AV.nilS ne_eq not_false_eq_true not_true_eq_false exists_eq_left exists_eq_left' Nat.lt_irrefl core_lit grd_lit acells_lit one_lit core_agg grd_agg acells_agg one_agg core_tup grd_tup acells_tup one_tup core_sl grd_sl acells_sl one_sl core_esl grd_esl acells_esl one_esl core_rsl grd_rsl acells_rsl one_rsl core_ptr grd_ptr acells_ptr one_ptr core_iptr grd_iptr acells_iptr one_iptr core_clo grd_clo acells_clo one_clo core_mp grd_mp acells_mp one_mp core_any grd_any acells_any one_any core_gv grd_gv fit_agg fit_lit fit_sl fit_esl fit_rsl fit_ptr fit_iptr fit_clo fit_mp retq_ret retq_normal set_nxt set_set plus_obj_set plus_set_set app_get0 app_get app_set0 app_set List.append_assoc List.length_append List.length_set Nat.lt_add_one Nat.add_lt_add_iff_right Nat.lt_add_right_iff_pos Nat.add_lt_add_iff_left List.mem_cons List.not_mem_nil or_false forall_eq forall_eq_or_imp lt_s0 lt_s1 lt_s2 lt_s3 lt_s4 lt_s5 lt_s6 lt_s7 lt_s8 pickv_t pickv_f or_nand or_nand2 imp_and_l SealT SealOs sealO_cells sl_lit sl_any sl_agg sl_tup sl_sl sl_rsl slO sl_esl sl_nil sl_eslesl sl_eslnil sl_rslrsl sl_eslrsl sl_nilrsl sl_ptr sl_iptr sl_ptri slP sl_clo sl_mp sl_gv sll_nil sll_cons slll_nil slll_cons shut_eq shutO Option.join_none Fn.func.injEq and_self sealL_self sealLL_self seal_self PureL PureLL Pure Nat.le_refl Nat.zero_le AV.lit.injEq Value.int.injEq Value.bool.injEq false_or or_true true_or Int.natCast_zero Int.ofNat_zero Int.cast_ofNat_Int Int.natCast_add Int.natCast_one Option.some.injEq piL_is sop_nil sop_cons sop_none sop_some sopO_some sop_new shut_pi shutL_nil shutL_cons exQ_exit exQ_ret exQ_normal Go.Sim.Tryz.ty_load1 Go.Sim.Tryz.ty_zero1 Go.Sim.Tryz.ty_load2 Go.Sim.Tryz.ty_zero2 Go.Sim.Tryz.ty_und2 Go.Sim.Tryz.ty_load3 Go.Sim.Tryz.ty_zero3 Go.Sim.Tryz.ty_und3 Go.Sim.Tryz.ty_load4 Go.Sim.Tryz.ty_zero4 Go.Sim.Tryz.ty_und4 Go.Sim.Tryz.ty_load5 Go.Sim.Tryz.ty_zero5 Go.Sim.Tryz.ty_und5 Go.Sim.Tryz.ty_load9 Go.Sim.Tryz.ty_zero9 Go.Sim.Tryz.ty_und9 Go.Sim.Tryz.ty_load23 Go.Sim.Tryz.ty_zero23 Go.Sim.Tryz.ty_fld23_0 Go.Sim.Tryz.ty_part23_0 Go.Sim.Tryz.ty_fld23_1 Go.Sim.Tryz.ty_part23_1 Go.Sim.Tryz.ty_struct23 Go.Sim.Tryz.ty_load24 Go.Sim.Tryz.ty_zero24 Go.Sim.Tryz.ty_el24 Go.Sim.Tryz.ty_zeroE24 Go.Sim.Tryz.ty_load26 Go.Sim.Tryz.ty_zero26 Go.Sim.Tryz.ty_fld26_0 Go.Sim.Tryz.ty_part26_0 Go.Sim.Tryz.ty_fld26_1 Go.Sim.Tryz.ty_part26_1 Go.Sim.Tryz.ty_fld26_2 Go.Sim.Tryz.ty_part26_2 Go.Sim.Tryz.ty_fld26_3 Go.Sim.Tryz.ty_part26_3 Go.Sim.Tryz.ty_struct26 Go.Sim.Tryz.ty_load27 Go.Sim.Tryz.ty_zero27 Go.Sim.Tryz.ty_el27 Go.Sim.Tryz.ty_zeroE27 Go.Sim.Tryz.ty_load28 Go.Sim.Tryz.ty_zero28 Go.Sim.Tryz.ty_el28 Go.Sim.Tryz.ty_zeroE28 Go.Sim.Tryz.ty_load30 Go.Sim.Tryz.ty_zero30 Go.Sim.Tryz.ty_load34 Go.Sim.Tryz.ty_zero34 Go.Sim.Tryz.ty_load46 Go.Sim.Tryz.ty_zero46 Go.Sim.Tryz.ty_load49 Go.Sim.Tryz.ty_zero49 Go.Sim.Tryz.ty_fld49_0 Go.Sim.Tryz.ty_part49_0 Go.Sim.Tryz.ty_fld49_1 Go.Sim.Tryz.ty_part49_1 Go.Sim.Tryz.ty_fld49_2 Go.Sim.Tryz.ty_part49_2 Go.Sim.Tryz.ty_struct49 Go.Sim.Tryz.ty_load54 Go.Sim.Tryz.ty_zero54 Go.Sim.Tryz.ty_und54 Go.Sim.Tryz.ty_load56 Go.Sim.Tryz.ty_zero56 Go.Sim.Tryz.ty_load61 Go.Sim.Tryz.ty_zero61 Go.Sim.Tryz.ty_und61 Go.Sim.Tryz.ty_load69 Go.Sim.Tryz.ty_zero69 Go.Sim.Tryz.ty_und69 Go.Sim.Tryz.ty_load71 Go.Sim.Tryz.ty_zero71 Go.Sim.Tryz.ty_und71 Go.Sim.Tryz.ty_load77 Go.Sim.Tryz.ty_zero77 Go.Sim.Tryz.ty_load84 Go.Sim.Tryz.ty_zero84 Go.Sim.Tryz.ty_und84 Go.Sim.Tryz.ty_load88 Go.Sim.Tryz.ty_zero88 encE_mk encE_take encE_len encV encE_one encEs_pure encE_pure

theorem addR_ok (a b : Vl) : Quiet Go.Proofs.Tryz.prog 42 [.agg (encV a), .agg (encV b)] (.agg (encV (a.reckonR b addR))) := by
  refine quiet_of (rs := #[.cell 4 23]) Go.Proofs.Tryz.func42 rfl rfl rfl mixed rfl rfl fun H hs => ?_
  have ho := oddR_ok [a, b] (by simp)
  unfold Vl.reckonR
  generalize Vl.oddR [a, b] = o at ho ⊢
  obtain ⟨v, is⟩ := o
  simp -implicitDefEqProofs only [push_cast, Nat.reduceAdd, Nat.reduceSub, Nat.reduceMul, Nat.reduceLT, Nat.reduceLeDiff, Nat.reduceEqDiff, Nat.reduceBEq, reduceCtorEq, reduceIte, Int.reduceLE, Int.reduceLT, Int.reduceNeg, Int.reduceToNat]
  refine callq (twoR_ok a b) ?_
  simp -implicitDefEqProofs only [push_cast, Nat.reduceAdd, Nat.reduceSub, Nat.reduceMul, Nat.reduceLT, Nat.reduceLeDiff, Nat.reduceEqDiff, Nat.reduceBEq, reduceCtorEq, reduceIte, Int.reduceLE, Int.reduceLT, Int.reduceNeg, Int.reduceToNat]
  refine callq ho ?_
  simp -implicitDefEqProofs only [push_cast, Nat.reduceAdd, Nat.reduceSub, Nat.reduceMul, Nat.reduceLT, Nat.reduceLeDiff, Nat.reduceEqDiff, Nat.reduceBEq, reduceCtorEq, reduceIte, Int.reduceLE, Int.reduceLT, Int.reduceNeg, Int.reduceToNat]
  refine ⟨fun h => ?_, fun h => ?_⟩
  · (try simp -implicitDefEqProofs only [push_cast, Nat.reduceAdd, Nat.reduceSub, Nat.reduceMul, Nat.reduceLT, Nat.reduceLeDiff, Nat.reduceEqDiff, Nat.reduceBEq, reduceCtorEq, reduceIte, Int.reduceLE, Int.reduceLT, Int.reduceNeg, Int.reduceToNat])
    simp [h]
  · refine ⟨fun h1 h2 => by simp [h1, h2], fun h1 => ?_, fun h1 => ?_⟩
    · (try simp -implicitDefEqProofs only [push_cast, Nat.reduceAdd, Nat.reduceSub, Nat.reduceMul, Nat.reduceLT, Nat.reduceLeDiff, Nat.reduceEqDiff, Nat.reduceBEq, reduceCtorEq, reduceIte, Int.reduceLE, Int.reduceLT, Int.reduceNeg, Int.reduceToNat])
      rw [if_neg (by simp [h]), if_neg]
      · exact ⟨rfl, rfl⟩
      · rw [addR, if_pos (by grind)]; simp
    · (try simp -implicitDefEqProofs only [push_cast, Nat.reduceAdd, Nat.reduceSub, Nat.reduceMul, Nat.reduceLT, Nat.reduceLeDiff, Nat.reduceEqDiff, Nat.reduceBEq, reduceCtorEq, reduceIte, Int.reduceLE, Int.reduceLT, Int.reduceNeg, Int.reduceToNat])
      rw [if_neg (by simp [h]), if_pos]
      · rw [addR, if_neg (by grind)]; exact ⟨rfl, rfl⟩
      · rw [addR, if_neg (by grind)]

theorem subR_ok (a b : Vl) : Quiet Go.Proofs.Tryz.prog 43 [.agg (encV a), .agg (encV b)] (.agg (encV (a.reckonR b subR))) := by
  refine quiet_of (rs := #[.cell 4 23]) Go.Proofs.Tryz.func43 rfl rfl rfl mixed rfl rfl fun H hs => ?_
  have ho := oddR_ok [a, b] (by simp)
  unfold Vl.reckonR
  generalize Vl.oddR [a, b] = o at ho ⊢
  obtain ⟨v, is⟩ := o
  simp -implicitDefEqProofs only [push_cast, Nat.reduceAdd, Nat.reduceSub, Nat.reduceMul, Nat.reduceLT, Nat.reduceLeDiff, Nat.reduceEqDiff, Nat.reduceBEq, reduceCtorEq, reduceIte, Int.reduceLE, Int.reduceLT, Int.reduceNeg, Int.reduceToNat]
  refine callq (twoR_ok a b) ?_
  simp -implicitDefEqProofs only [push_cast, Nat.reduceAdd, Nat.reduceSub, Nat.reduceMul, Nat.reduceLT, Nat.reduceLeDiff, Nat.reduceEqDiff, Nat.reduceBEq, reduceCtorEq, reduceIte, Int.reduceLE, Int.reduceLT, Int.reduceNeg, Int.reduceToNat]
  refine callq ho ?_
  simp -implicitDefEqProofs only [push_cast, Nat.reduceAdd, Nat.reduceSub, Nat.reduceMul, Nat.reduceLT, Nat.reduceLeDiff, Nat.reduceEqDiff, Nat.reduceBEq, reduceCtorEq, reduceIte, Int.reduceLE, Int.reduceLT, Int.reduceNeg, Int.reduceToNat]
  refine ⟨fun h => ?_, fun h => ?_⟩
  · (try simp -implicitDefEqProofs only [push_cast, Nat.reduceAdd, Nat.reduceSub, Nat.reduceMul, Nat.reduceLT, Nat.reduceLeDiff, Nat.reduceEqDiff, Nat.reduceBEq, reduceCtorEq, reduceIte, Int.reduceLE, Int.reduceLT, Int.reduceNeg, Int.reduceToNat])
    simp [h]
  · refine ⟨fun h1 h2 => by simp [h1, h2], fun h1 => ?_, fun h1 => ?_⟩
    · (try simp -implicitDefEqProofs only [push_cast, Nat.reduceAdd, Nat.reduceSub, Nat.reduceMul, Nat.reduceLT, Nat.reduceLeDiff, Nat.reduceEqDiff, Nat.reduceBEq, reduceCtorEq, reduceIte, Int.reduceLE, Int.reduceLT, Int.reduceNeg, Int.reduceToNat])
      rw [if_neg (by simp [h]), if_neg]
      · exact ⟨rfl, rfl⟩
      · rw [subR, if_pos (by grind)]; simp
    · (try simp -implicitDefEqProofs only [push_cast, Nat.reduceAdd, Nat.reduceSub, Nat.reduceMul, Nat.reduceLT, Nat.reduceLeDiff, Nat.reduceEqDiff, Nat.reduceBEq, reduceCtorEq, reduceIte, Int.reduceLE, Int.reduceLT, Int.reduceNeg, Int.reduceToNat])
      rw [if_neg (by simp [h]), if_pos]
      · rw [subR, if_neg (by grind)]; exact ⟨rfl, rfl⟩
      · rw [subR, if_neg (by grind)]

theorem divR_ok (a b : Vl) : Quiet Go.Proofs.Tryz.prog 45 [.agg (encV a), .agg (encV b)] (.agg (encV (a.reckonR b divR))) := by
  refine quiet_of (rs := #[.cell 4 23]) Go.Proofs.Tryz.func45 rfl rfl rfl mixed rfl rfl fun H hs => ?_
  have ho := oddR_ok [a, b] (by simp)
  unfold Vl.reckonR
  generalize Vl.oddR [a, b] = o at ho ⊢
  obtain ⟨v, is⟩ := o
  simp -implicitDefEqProofs only [push_cast, Nat.reduceAdd, Nat.reduceSub, Nat.reduceMul, Nat.reduceLT, Nat.reduceLeDiff, Nat.reduceEqDiff, Nat.reduceBEq, reduceCtorEq, reduceIte, Int.reduceLE, Int.reduceLT, Int.reduceNeg, Int.reduceToNat]
  refine callq (twoR_ok a b) ?_
  simp -implicitDefEqProofs only [push_cast, Nat.reduceAdd, Nat.reduceSub, Nat.reduceMul, Nat.reduceLT, Nat.reduceLeDiff, Nat.reduceEqDiff, Nat.reduceBEq, reduceCtorEq, reduceIte, Int.reduceLE, Int.reduceLT, Int.reduceNeg, Int.reduceToNat]
  refine callq ho ?_
  simp -implicitDefEqProofs only [push_cast, Nat.reduceAdd, Nat.reduceSub, Nat.reduceMul, Nat.reduceLT, Nat.reduceLeDiff, Nat.reduceEqDiff, Nat.reduceBEq, reduceCtorEq, reduceIte, Int.reduceLE, Int.reduceLT, Int.reduceNeg, Int.reduceToNat]
  refine ⟨fun h => ?_, fun h => ?_⟩
  · (try simp -implicitDefEqProofs only [push_cast, Nat.reduceAdd, Nat.reduceSub, Nat.reduceMul, Nat.reduceLT, Nat.reduceLeDiff, Nat.reduceEqDiff, Nat.reduceBEq, reduceCtorEq, reduceIte, Int.reduceLE, Int.reduceLT, Int.reduceNeg, Int.reduceToNat])
    simp [h]
  · refine ⟨fun h1 h2 => by simp [h1, h2], fun h1 => ?_, fun h1 => ?_⟩
    · (try simp -implicitDefEqProofs only [push_cast, Nat.reduceAdd, Nat.reduceSub, Nat.reduceMul, Nat.reduceLT, Nat.reduceLeDiff, Nat.reduceEqDiff, Nat.reduceBEq, reduceCtorEq, reduceIte, Int.reduceLE, Int.reduceLT, Int.reduceNeg, Int.reduceToNat])
      rw [if_neg (by simp [h]), if_neg]
      · exact ⟨rfl, rfl⟩
      · rw [divR, if_pos (by grind)]; simp
    · (try simp -implicitDefEqProofs only [push_cast, Nat.reduceAdd, Nat.reduceSub, Nat.reduceMul, Nat.reduceLT, Nat.reduceLeDiff, Nat.reduceEqDiff, Nat.reduceBEq, reduceCtorEq, reduceIte, Int.reduceLE, Int.reduceLT, Int.reduceNeg, Int.reduceToNat])
      rw [if_neg (by simp [h]), if_pos]
      · rw [divR, if_neg (by grind)]; exact ⟨by grind, rfl, rfl⟩
      · rw [divR, if_neg (by grind)]

theorem eqR_ok (a b : Vl) : Quiet Go.Proofs.Tryz.prog 46 [.agg (encV a), .agg (encV b)] (.agg (encV (a.eqR b))) := by
  refine quiet_of (rs := #[.cell 4 23]) Go.Proofs.Tryz.func46 rfl rfl rfl mixed rfl rfl fun H hs => ?_
  have ho := oddR_ok [a, b] (by simp)
  unfold Vl.eqR
  generalize Vl.oddR [a, b] = o at ho ⊢
  obtain ⟨v, is⟩ := o
  simp -implicitDefEqProofs only [push_cast, Nat.reduceAdd, Nat.reduceSub, Nat.reduceMul, Nat.reduceLT, Nat.reduceLeDiff, Nat.reduceEqDiff, Nat.reduceBEq, reduceCtorEq, reduceIte, Int.reduceLE, Int.reduceLT, Int.reduceNeg, Int.reduceToNat]
  refine callq (twoR_ok a b) ?_
  simp -implicitDefEqProofs only [push_cast, Nat.reduceAdd, Nat.reduceSub, Nat.reduceMul, Nat.reduceLT, Nat.reduceLeDiff, Nat.reduceEqDiff, Nat.reduceBEq, reduceCtorEq, reduceIte, Int.reduceLE, Int.reduceLT, Int.reduceNeg, Int.reduceToNat]
  refine callq ho ?_
  simp -implicitDefEqProofs only [push_cast, Nat.reduceAdd, Nat.reduceSub, Nat.reduceMul, Nat.reduceLT, Nat.reduceLeDiff, Nat.reduceEqDiff, Nat.reduceBEq, reduceCtorEq, reduceIte, Int.reduceLE, Int.reduceLT, Int.reduceNeg, Int.reduceToNat]
  refine ⟨fun h => ?_, fun h => ?_⟩
  · (try simp -implicitDefEqProofs only [push_cast, Nat.reduceAdd, Nat.reduceSub, Nat.reduceMul, Nat.reduceLT, Nat.reduceLeDiff, Nat.reduceEqDiff, Nat.reduceBEq, reduceCtorEq, reduceIte, Int.reduceLE, Int.reduceLT, Int.reduceNeg, Int.reduceToNat])
    simp [h]
  · refine callq (oneR_ok _) ?_
    simp -implicitDefEqProofs only [push_cast, Nat.reduceAdd, Nat.reduceSub, Nat.reduceMul, Nat.reduceLT, Nat.reduceLeDiff, Nat.reduceEqDiff, Nat.reduceBEq, reduceCtorEq, reduceIte, Int.reduceLE, Int.reduceLT, Int.reduceNeg, Int.reduceToNat]
    (try simp -implicitDefEqProofs only [push_cast, Nat.reduceAdd, Nat.reduceSub, Nat.reduceMul, Nat.reduceLT, Nat.reduceLeDiff, Nat.reduceEqDiff, Nat.reduceBEq, reduceCtorEq, reduceIte, Int.reduceLE, Int.reduceLT, Int.reduceNeg, Int.reduceToNat])
    simp [h]

theorem ltR_ok (a b : Vl) : Quiet Go.Proofs.Tryz.prog 47 [.agg (encV a), .agg (encV b)] (.agg (encV (a.ltR b))) := by
  refine quiet_of (rs := #[.cell 4 23]) Go.Proofs.Tryz.func47 rfl rfl rfl mixed rfl rfl fun H hs => ?_
  have ho := oddR_ok [a, b] (by simp)
  unfold Vl.ltR
  generalize Vl.oddR [a, b] = o at ho ⊢
  obtain ⟨v, is⟩ := o
  simp -implicitDefEqProofs only [push_cast, Nat.reduceAdd, Nat.reduceSub, Nat.reduceMul, Nat.reduceLT, Nat.reduceLeDiff, Nat.reduceEqDiff, Nat.reduceBEq, reduceCtorEq, reduceIte, Int.reduceLE, Int.reduceLT, Int.reduceNeg, Int.reduceToNat]
  refine callq (twoR_ok a b) ?_
  simp -implicitDefEqProofs only [push_cast, Nat.reduceAdd, Nat.reduceSub, Nat.reduceMul, Nat.reduceLT, Nat.reduceLeDiff, Nat.reduceEqDiff, Nat.reduceBEq, reduceCtorEq, reduceIte, Int.reduceLE, Int.reduceLT, Int.reduceNeg, Int.reduceToNat]
  refine callq ho ?_
  simp -implicitDefEqProofs only [push_cast, Nat.reduceAdd, Nat.reduceSub, Nat.reduceMul, Nat.reduceLT, Nat.reduceLeDiff, Nat.reduceEqDiff, Nat.reduceBEq, reduceCtorEq, reduceIte, Int.reduceLE, Int.reduceLT, Int.reduceNeg, Int.reduceToNat]
  refine ⟨fun h => ?_, fun h => ?_⟩
  · (try simp -implicitDefEqProofs only [push_cast, Nat.reduceAdd, Nat.reduceSub, Nat.reduceMul, Nat.reduceLT, Nat.reduceLeDiff, Nat.reduceEqDiff, Nat.reduceBEq, reduceCtorEq, reduceIte, Int.reduceLE, Int.reduceLT, Int.reduceNeg, Int.reduceToNat])
    simp [h]
  · refine callq (oneR_ok _) ?_
    simp -implicitDefEqProofs only [push_cast, Nat.reduceAdd, Nat.reduceSub, Nat.reduceMul, Nat.reduceLT, Nat.reduceLeDiff, Nat.reduceEqDiff, Nat.reduceBEq, reduceCtorEq, reduceIte, Int.reduceLE, Int.reduceLT, Int.reduceNeg, Int.reduceToNat]
    (try simp -implicitDefEqProofs only [push_cast, Nat.reduceAdd, Nat.reduceSub, Nat.reduceMul, Nat.reduceLT, Nat.reduceLeDiff, Nat.reduceEqDiff, Nat.reduceBEq, reduceCtorEq, reduceIte, Int.reduceLE, Int.reduceLT, Int.reduceNeg, Int.reduceToNat])
    simp [h]

theorem mulR_ok (a b : Vl) : Quiet Go.Proofs.Tryz.prog 44 [.agg (encV a), .agg (encV b)] (.agg (encV (a.reckonR b mulR))) := by
  refine quiet_of (rs := #[.cell 4 23]) Go.Proofs.Tryz.func44 rfl rfl rfl mixed rfl rfl fun H hs => ?_
  have ho := oddR_ok [a, b] (by simp)
  unfold Vl.reckonR
  generalize Vl.oddR [a, b] = o at ho ⊢
  obtain ⟨v, is⟩ := o
  simp -implicitDefEqProofs only [push_cast, Nat.reduceAdd, Nat.reduceSub, Nat.reduceMul, Nat.reduceLT, Nat.reduceLeDiff, Nat.reduceEqDiff, Nat.reduceBEq, reduceCtorEq, reduceIte, Int.reduceLE, Int.reduceLT, Int.reduceNeg, Int.reduceToNat]
  refine callq (twoR_ok a b) ?_
  simp -implicitDefEqProofs only [push_cast, Nat.reduceAdd, Nat.reduceSub, Nat.reduceMul, Nat.reduceLT, Nat.reduceLeDiff, Nat.reduceEqDiff, Nat.reduceBEq, reduceCtorEq, reduceIte, Int.reduceLE, Int.reduceLT, Int.reduceNeg, Int.reduceToNat]
  refine callq ho ?_
  simp -implicitDefEqProofs only [push_cast, Nat.reduceAdd, Nat.reduceSub, Nat.reduceMul, Nat.reduceLT, Nat.reduceLeDiff, Nat.reduceEqDiff, Nat.reduceBEq, reduceCtorEq, reduceIte, Int.reduceLE, Int.reduceLT, Int.reduceNeg, Int.reduceToNat]
  refine ⟨fun h => ?_, fun h => ⟨fun h1 => ?_, fun h1 => ⟨fun h3 h2 => by simp [h2, h3], fun h2 => ?_, fun h2 => ?_⟩⟩⟩
  · (try simp -implicitDefEqProofs only [push_cast, Nat.reduceAdd, Nat.reduceSub, Nat.reduceMul, Nat.reduceLT, Nat.reduceLeDiff, Nat.reduceEqDiff, Nat.reduceBEq, reduceCtorEq, reduceIte, Int.reduceLE, Int.reduceLT, Int.reduceNeg, Int.reduceToNat])
    simp [h]
  · (try simp -implicitDefEqProofs only [push_cast, Nat.reduceAdd, Nat.reduceSub, Nat.reduceMul, Nat.reduceLT, Nat.reduceLeDiff, Nat.reduceEqDiff, Nat.reduceBEq, reduceCtorEq, reduceIte, Int.reduceLE, Int.reduceLT, Int.reduceNeg, Int.reduceToNat])
    have e : mulR a.n b.n = (0, true) := by rw [mulR, if_pos (by grind)]
    simp [h, e, Vl.of]
  · (try simp -implicitDefEqProofs only [push_cast, Nat.reduceAdd, Nat.reduceSub, Nat.reduceMul, Nat.reduceLT, Nat.reduceLeDiff, Nat.reduceEqDiff, Nat.reduceBEq, reduceCtorEq, reduceIte, Int.reduceLE, Int.reduceLT, Int.reduceNeg, Int.reduceToNat])
    have e : mulR a.n b.n = (0, false) := by rw [mulR, if_neg (by grind), if_pos (by grind)]
    simp [h, e, Vl.bad]
  · have hb : (b.n ≠ 0) = True := by simp; grind
    refine areg_at 14 (by kernel_rfl) (by kernel_rfl) ?_
    simp -implicitDefEqProofs only [push_cast, Nat.reduceAdd, Nat.reduceSub, Nat.reduceMul, Nat.reduceLT, Nat.reduceLeDiff, Nat.reduceEqDiff, Nat.reduceBEq, reduceCtorEq, reduceIte, Int.reduceLE, Int.reduceLT, Int.reduceNeg, Int.reduceToNat, hb]
    refine ⟨fun h3 => ?_, fun h3 => ?_⟩
    · have e : mulR a.n b.n = (0, false) := by rw [mulR, if_neg (by grind), if_neg (by grind), if_pos (by grind)]
      simp [h, e, Vl.bad]
    · have e : mulR a.n b.n = (IntKind.wrap .i64 (a.n * b.n), true) := by rw [mulR, if_neg (by grind), if_neg (by grind), if_neg (by grind)]
      simp [h, e, Vl.of]
end Go.Sim.Tryz
