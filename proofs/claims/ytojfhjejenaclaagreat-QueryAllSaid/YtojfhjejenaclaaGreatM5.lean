/- What the row rests on, part 5. Conditions: none. -/
import Derived.Test.YtojfhjejenaclaaGreatM4
set_option linter.unusedSimpArgs false
set_option linter.unusedVariables false
set_option maxRecDepth 100000
namespace Go.Sim.Tryz
open Go Go.Sim
attribute [local push_cast] aops_cons aops_nil aopG_none aopG_some aopP_eq aopE_eq aopC_eq aopE?_eq aopC?_eq aopB_eq aopB?_eq abr anilq gopP_eq gopL_eq ahead_cons ahead_nil ahdG_none ahdG_some ahdP_eq ahdN_eq ahdC_eq ahdN?_eq ahdS_eq ahdS?_eq astoreN ahdC?_eq ghdP_eq ghdC_eq ghdC?_eq ghdZ_f ghdZ_t ahdI_eq ahdI?_eq ghdN?_eq aim_nil aim_cons isIn_nil isIn_none isIn_cons aimm aheP_eq aheA_eq aheC_eq aheC?_eq aheI?_eq aheA?_eq gheP_eq gheC_eq gheC?_eq gheZ_eq aheG_none aheG_some aheff_cons aheff_nil aapp gro_rsl gro_lit gro_esl opt_some opt_none no_eq acondT_true acondT_false acondT_lit aw_skip aw_region aw_regionD aw_seq aw_cond aw_block aw_loop aw_exit aw_label aw_ret thn_normal thn_exit thn_ret inb_normal inb_exit inb_ret qret_ret qret_normal gcond apure aeff anew acallee ares aresT aresL aresC ares1 qfin_eq ev ofV evL gokL tget tput_some tput_none initT abin aint aun aload afaddr aiaddr afield aindex aextract apick pickv_lit Bool.or_false Bool.false_or Bool.or_true Bool.true_or imp_self aslice chunk abound aconv abuild afill splice alen aminmax abuiltin anil apart Value.oneCell' astore aappend srcEs abuildSlice asets isEq plus_obj plus_nxt plus_add plus_set plus_del IntKind.bits Option.map_some Option.map_none Option.bind_some Option.bind_none Option.join_some Option.getD_some Option.getD_none Option.toList Option.isSome_some List.getElem?_toArray List.getElem?_cons_zero List.getElem?_cons_succ List.getElem?_nil List.length_cons List.length_nil List.length_map List.head?_cons List.cons_append List.nil_append List.append_nil List.map_cons List.map_nil List.getD_cons_zero List.getD_cons_succ List.replicate_succ List.replicate_zero List.set_cons_zero List.set_cons_succ List.take_succ_cons List.take_zero List.drop_succ_cons List.drop_zero List.all_cons List.all_nil Nat.zero_add if_true if_false true_and and_true false_and and_false true_implies implies_true forall_const Bool.and_true Bool.true_and Bool.false_and Bool.and_false Bool.true_beq Bool.false_beq Bool.not_not beq_tt beq_ff Int.toNat_natCast decide_true decide_false Bool.not_true Bool.not_false Bool.true_eq_false Bool.false_eq_true false_implies exists_prop eq_self bne_self_eq_false beq_self_eq_true decide_eq_true_eq decide_eq_false_iff_not Bool.not_eq_true' Bool.not_eq_false' AV.int AV.bool AV.nilS ne_eq not_false_eq_true not_true_eq_false exists_eq_left exists_eq_left' Nat.lt_irrefl core_lit grd_lit acells_lit one_lit core_agg grd_agg acells_agg one_agg core_tup grd_tup acells_tup one_tup core_sl grd_sl acells_sl one_sl core_esl grd_esl acells_esl one_esl core_rsl grd_rsl acells_rsl one_rsl core_ptr grd_ptr acells_ptr one_ptr core_iptr grd_iptr acells_iptr one_iptr core_clo grd_clo acells_clo one_clo core_mp grd_mp acells_mp one_mp core_any grd_any acells_any one_any core_gv grd_gv fit_agg fit_lit fit_sl fit_esl fit_rsl fit_ptr fit_iptr fit_clo fit_mp retq_ret retq_normal set_nxt set_set plus_obj_set plus_set_set app_get0 app_get app_set0 app_set List.append_assoc List.length_append List.length_set Nat.lt_add_one Nat.add_lt_add_iff_right Nat.lt_add_right_iff_pos Nat.add_lt_add_iff_left List.mem_cons List.not_mem_nil or_false forall_eq forall_eq_or_imp lt_s0 lt_s1 lt_s2 lt_s3 lt_s4 lt_s5 lt_s6 lt_s7 lt_s8 pickv_t pickv_f or_nand or_nand2 imp_and_l SealT SealOs sealO_cells sl_lit sl_any sl_agg sl_tup sl_sl sl_rsl slO sl_esl sl_nil sl_eslesl sl_eslnil sl_rslrsl sl_eslrsl sl_nilrsl sl_ptr sl_iptr sl_ptri slP sl_clo sl_mp sl_gv sll_nil sll_cons slll_nil slll_cons shut_eq shutO Option.join_none Fn.func.injEq and_self sealL_self sealLL_self seal_self PureL PureLL Pure Nat.le_refl Nat.zero_le AV.lit.injEq Value.int.injEq Value.bool.injEq false_or or_true true_or Int.natCast_zero Int.ofNat_zero Int.cast_ofNat_Int Int.natCast_add Int.natCast_one Option.some.injEq piL_is sop_nil sop_cons sop_none sop_some sopO_some sop_new shut_pi shutL_nil shutL_cons exQ_exit exQ_ret exQ_normal Go.Sim.Tryz.ty_load1 Go.Sim.Tryz.ty_zero1 Go.Sim.Tryz.ty_load2 Go.Sim.Tryz.ty_zero2 Go.Sim.Tryz.ty_und2 Go.Sim.Tryz.ty_load3 Go.Sim.Tryz.ty_zero3 Go.Sim.Tryz.ty_und3 Go.Sim.Tryz.ty_load4 Go.Sim.Tryz.ty_zero4 Go.Sim.Tryz.ty_und4 Go.Sim.Tryz.ty_load5 Go.Sim.Tryz.ty_zero5 Go.Sim.Tryz.ty_und5 Go.Sim.Tryz.ty_load9 Go.Sim.Tryz.ty_zero9 Go.Sim.Tryz.ty_und9 Go.Sim.Tryz.ty_load22 Go.Sim.Tryz.ty_zero22 Go.Sim.Tryz.ty_el22 Go.Sim.Tryz.ty_zeroE22 Go.Sim.Tryz.ty_load24 Go.Sim.Tryz.ty_zero24 Go.Sim.Tryz.ty_fld24_0 Go.Sim.Tryz.ty_part24_0 Go.Sim.Tryz.ty_struct24 Go.Sim.Tryz.ty_load25 Go.Sim.Tryz.ty_zero25 Go.Sim.Tryz.ty_el25 Go.Sim.Tryz.ty_zeroE25 Go.Sim.Tryz.ty_load26 Go.Sim.Tryz.ty_zero26 Go.Sim.Tryz.ty_el26 Go.Sim.Tryz.ty_zeroE26 Go.Sim.Tryz.ty_load28 Go.Sim.Tryz.ty_zero28 Go.Sim.Tryz.ty_fld28_0 Go.Sim.Tryz.ty_part28_0 Go.Sim.Tryz.ty_fld28_1 Go.Sim.Tryz.ty_part28_1 Go.Sim.Tryz.ty_fld28_2 Go.Sim.Tryz.ty_part28_2 Go.Sim.Tryz.ty_fld28_3 Go.Sim.Tryz.ty_part28_3 Go.Sim.Tryz.ty_fld28_4 Go.Sim.Tryz.ty_part28_4 Go.Sim.Tryz.ty_fld28_5 Go.Sim.Tryz.ty_part28_5 Go.Sim.Tryz.ty_struct28 Go.Sim.Tryz.ty_load36 Go.Sim.Tryz.ty_zero36 Go.Sim.Tryz.ty_fld36_0 Go.Sim.Tryz.ty_part36_0 Go.Sim.Tryz.ty_fld36_1 Go.Sim.Tryz.ty_part36_1 Go.Sim.Tryz.ty_struct36 Go.Sim.Tryz.ty_load38 Go.Sim.Tryz.ty_zero38 Go.Sim.Tryz.ty_fld38_0 Go.Sim.Tryz.ty_part38_0 Go.Sim.Tryz.ty_fld38_1 Go.Sim.Tryz.ty_part38_1 Go.Sim.Tryz.ty_fld38_2 Go.Sim.Tryz.ty_part38_2 Go.Sim.Tryz.ty_fld38_3 Go.Sim.Tryz.ty_part38_3 Go.Sim.Tryz.ty_struct38 Go.Sim.Tryz.ty_load48 Go.Sim.Tryz.ty_zero48 Go.Sim.Tryz.ty_el48 Go.Sim.Tryz.ty_zeroE48 Go.Sim.Tryz.ty_load51 Go.Sim.Tryz.ty_zero51 Go.Sim.Tryz.ty_arr51 Go.Sim.Tryz.ty_part51_0 Go.Sim.Tryz.ty_part51_1 Go.Sim.Tryz.ty_struct51 Go.Sim.Tryz.ty_load59 Go.Sim.Tryz.ty_zero59 Go.Sim.Tryz.ty_fld59_0 Go.Sim.Tryz.ty_part59_0 Go.Sim.Tryz.ty_fld59_1 Go.Sim.Tryz.ty_part59_1 Go.Sim.Tryz.ty_struct59 Go.Sim.Tryz.ty_load60 Go.Sim.Tryz.ty_zero60 Go.Sim.Tryz.ty_el60 Go.Sim.Tryz.ty_zeroE60 Go.Sim.Tryz.ty_load62 Go.Sim.Tryz.ty_zero62 Go.Sim.Tryz.ty_fld62_0 Go.Sim.Tryz.ty_part62_0 Go.Sim.Tryz.ty_struct62 Go.Sim.Tryz.ty_load67 Go.Sim.Tryz.ty_zero67 Go.Sim.Tryz.ty_load68 Go.Sim.Tryz.ty_zero68 Go.Sim.Tryz.ty_load75 Go.Sim.Tryz.ty_zero75 Go.Sim.Tryz.ty_load76 Go.Sim.Tryz.ty_zero76 Go.Sim.Tryz.ty_und76 Go.Sim.Tryz.ty_load82 Go.Sim.Tryz.ty_zero82 Go.Sim.Tryz.ty_und82 Go.Sim.Tryz.ty_load85 Go.Sim.Tryz.ty_zero85 Go.Sim.Tryz.ty_und85 Go.Sim.Tryz.ty_load89 Go.Sim.Tryz.ty_zero89 Go.Sim.Tryz.ty_el89 Go.Sim.Tryz.ty_zeroE89 Go.Sim.Tryz.ty_load90 Go.Sim.Tryz.ty_zero90 Go.Sim.Tryz.ty_el90 Go.Sim.Tryz.ty_zeroE90 Go.Sim.Tryz.ty_load93 Go.Sim.Tryz.ty_zero93 Go.Sim.Tryz.ty_load98 Go.Sim.Tryz.ty_zero98 Go.Sim.Tryz.ty_fld98_0 Go.Sim.Tryz.ty_part98_0 Go.Sim.Tryz.ty_fld98_1 Go.Sim.Tryz.ty_part98_1 Go.Sim.Tryz.ty_fld98_2 Go.Sim.Tryz.ty_part98_2 Go.Sim.Tryz.ty_struct98 Go.Sim.Tryz.ty_load100 Go.Sim.Tryz.ty_zero100 Go.Sim.Tryz.ty_load106 Go.Sim.Tryz.ty_zero106 Go.Sim.Tryz.ty_load110 Go.Sim.Tryz.ty_zero110 Go.Sim.Tryz.ty_und110 Go.Sim.Tryz.ty_load118 Go.Sim.Tryz.ty_zero118 Go.Sim.Tryz.ty_und118 Go.Sim.Tryz.ty_load121 Go.Sim.Tryz.ty_zero121 Go.Sim.Tryz.ty_load128 Go.Sim.Tryz.ty_zero128 Go.Sim.Tryz.ty_und128 Go.Sim.Tryz.ty_load132 Go.Sim.Tryz.ty_zero132 encE_mk encE_take encE_len encV encE_one encEs_pure encE_pure

set_option maxHeartbeats 1000000 in
theorem queryAll_ok (c : List Df) (q : Qy) (a : Int) (hr : q.Raw c) : Quiet Go.Proofs.Tryz.prog 5 [.agg [.sl (c.map encD)], .agg (encQ q), .int a] (.bool true) := by
  have hf5 := few5_ok c q hr
  refine quiet_of (rs := #[.tmp 6]) Go.Proofs.Tryz.func5 rfl rfl rfl mixed rfl rfl fun H hs => ?_
  simp -implicitDefEqProofs only [push_cast, Nat.reduceAdd, Nat.reduceSub, Nat.reduceMul, Nat.reduceLT, Nat.reduceLeDiff, Nat.reduceEqDiff, Nat.reduceBEq, reduceCtorEq, reduceIte, Int.reduceLE, Int.reduceLT, Int.reduceNeg, Int.reduceToNat, encQ]
  refine callq awake5_ok ?_
  simp -implicitDefEqProofs only [push_cast, Nat.reduceAdd, Nat.reduceSub, Nat.reduceMul, Nat.reduceLT, Nat.reduceLeDiff, Nat.reduceEqDiff, Nat.reduceBEq, reduceCtorEq, reduceIte, Int.reduceLE, Int.reduceLT, Int.reduceNeg, Int.reduceToNat, encQ]
  refine callq hf5 ?_
  cases hf : fewQ c q
  · simp -implicitDefEqProofs only [push_cast, Nat.reduceAdd, Nat.reduceSub, Nat.reduceMul, Nat.reduceLT, Nat.reduceLeDiff, Nat.reduceEqDiff, Nat.reduceBEq, reduceCtorEq, reduceIte, Int.reduceLE, Int.reduceLT, Int.reduceNeg, Int.reduceToNat, encQ]
    refine gcallq' (.bool true) (fun h => by cases h) (fun h => by cases h) ?_
    simp -implicitDefEqProofs only [push_cast, Nat.reduceAdd, Nat.reduceSub, Nat.reduceMul, Nat.reduceLT, Nat.reduceLeDiff, Nat.reduceEqDiff, Nat.reduceBEq, reduceCtorEq, reduceIte, Int.reduceLE, Int.reduceLT, Int.reduceNeg, Int.reduceToNat]
  have hcl : c.length ≤ 1000000 := by have := (fewQ_split hf).1; omega
  have hq := ok_of_few hr hf
  have hP := hq.1
  simp -implicitDefEqProofs only [push_cast, Nat.reduceAdd, Nat.reduceSub, Nat.reduceMul, Nat.reduceLT, Nat.reduceLeDiff, Nat.reduceEqDiff, Nat.reduceBEq, reduceCtorEq, reduceIte, Int.reduceLE, Int.reduceLT, Int.reduceNeg, Int.reduceToNat, encQ]
  refine gcall trivial (callq (MayQ_ok c hcl q hq) ?_)
  simp -implicitDefEqProofs only [push_cast, Nat.reduceAdd, Nat.reduceSub, Nat.reduceMul, Nat.reduceLT, Nat.reduceLeDiff, Nat.reduceEqDiff, Nat.reduceBEq, reduceCtorEq, reduceIte, Int.reduceLE, Int.reduceLT, Int.reduceNeg, Int.reduceToNat, encQ]
  intro h
  simp only [Bool.or_eq_false_iff, Bool.not_eq_false', decide_eq_false_iff_not] at h
  obtain ⟨⟨hm, ha0⟩, ha1⟩ := h
  have hsp := colsIn_split c q a (by omega) (by omega)
  have hca : ∀ s, q.cols c s = colsIn c q (bitI s) := fun s => by rw [Qy.cols, if_pos hm]
  have hcl2 : ∀ s, (q.cols c s).length ≤ 16 := fun s => by rw [hca]; exact colsIn_le _ _ _
  have h15 := hcl2 15
  have hxa := hcl2 a
  have hya := hcl2 (15 - a)
  have hsub : IntKind.wrap .i64 (15 - a) = 15 - a := wrap64 (by omega) (by omega)
  rw [← hca, ← hca, ← hca] at hsp
  refine callq (ColsQ_ok c hcl q hq a) ?_
  simp -implicitDefEqProofs only [push_cast, Nat.reduceAdd, Nat.reduceSub, Nat.reduceMul, Nat.reduceLT, Nat.reduceLeDiff, Nat.reduceEqDiff, Nat.reduceBEq, reduceCtorEq, reduceIte, Int.reduceLE, Int.reduceLT, Int.reduceNeg, Int.reduceToNat, encQ, hsub]
  refine callq (ColsQ_ok c hcl q hq (15 - a)) ?_
  simp -implicitDefEqProofs only [push_cast, Nat.reduceAdd, Nat.reduceSub, Nat.reduceMul, Nat.reduceLT, Nat.reduceLeDiff, Nat.reduceEqDiff, Nat.reduceBEq, reduceCtorEq, reduceIte, Int.reduceLE, Int.reduceLT, Int.reduceNeg, Int.reduceToNat, encQ]
  refine areg_at 27 (by kernel_rfl) (by kernel_rfl) ?_
  simp -implicitDefEqProofs only [push_cast, Nat.reduceAdd, Nat.reduceSub, Nat.reduceMul, Nat.reduceLT, Nat.reduceLeDiff, Nat.reduceEqDiff, Nat.reduceBEq, reduceCtorEq, reduceIte, Int.reduceLE, Int.reduceLT, Int.reduceNeg, Int.reduceToNat, encQ]
  refine ahdq (Own_ok q hq 15) ?_
  have e1 : (!decide (((q.own 15).length : Int) = (q.p.length : Int))) = false := by
    have := own_all q
    simp; omega
  have e2 : (!decide (IntKind.wrap .i64 ((q.cols c a).length + (q.cols c (15 - a)).length : Int) = ((q.cols c 15).length : Int))) = false := by
    rw [wrap64 (by omega) (by omega)]; simp; omega
  have e3 : (!decide (((q.own 0).length : Int) = 0)) = false := by
    rw [own_none hm]; rfl
  simp -implicitDefEqProofs only [push_cast, Nat.reduceAdd, Nat.reduceSub, Nat.reduceMul, Nat.reduceLT, Nat.reduceLeDiff, Nat.reduceEqDiff, Nat.reduceBEq, reduceCtorEq, reduceIte, Int.reduceLE, Int.reduceLT, Int.reduceNeg, Int.reduceToNat, encQ, e1]
  refine gcallq (.sl ((q.cols c 15).map encI)) (fun _ => ColsQ_ok c hcl q hq 15) ?_
  simp -implicitDefEqProofs only [push_cast, Nat.reduceAdd, Nat.reduceSub, Nat.reduceMul, Nat.reduceLT, Nat.reduceLeDiff, Nat.reduceEqDiff, Nat.reduceBEq, reduceCtorEq, reduceIte, Int.reduceLE, Int.reduceLT, Int.reduceNeg, Int.reduceToNat, encQ, e2]
  refine gcallq (.sl ((q.own 0).map encI)) (fun _ => Own_ok q hq 0) ?_
  simp -implicitDefEqProofs only [push_cast, Nat.reduceAdd, Nat.reduceSub, Nat.reduceMul, Nat.reduceLT, Nat.reduceLeDiff, Nat.reduceEqDiff, Nat.reduceBEq, reduceCtorEq, reduceIte, Int.reduceLE, Int.reduceLT, Int.reduceNeg, Int.reduceToNat, encQ, e3]
  refine loop_at hs (σ := Nat) (fun i => i ≤ q.p.length) (fun i => q.p.length - i)
    (fun i => [(12, .int i), (4, .ptr (H.nxt + 1) 6 0 0)]) (fun i => [none, some (.cells 6 [encQ q] 0)]) [some 0, some 1] 0 (by omega) rfl ?_ ?_ ?_
  · (try simp -implicitDefEqProofs only [push_cast, Nat.reduceAdd, Nat.reduceSub, Nat.reduceMul, Nat.reduceLT, Nat.reduceLeDiff, Nat.reduceEqDiff, Nat.reduceBEq, reduceCtorEq, reduceIte, Int.reduceLE, Int.reduceLT, Int.reduceNeg, Int.reduceToNat, encDs_pure, encEs_pure, encIs_pure, encQ])
  · (try simp -implicitDefEqProofs only [push_cast, Nat.reduceAdd, Nat.reduceSub, Nat.reduceMul, Nat.reduceLT, Nat.reduceLeDiff, Nat.reduceEqDiff, Nat.reduceBEq, reduceCtorEq, reduceIte, Int.reduceLE, Int.reduceLT, Int.reduceNeg, Int.reduceToNat, encDs_pure, encEs_pure, encIs_pure, encQ])
  intro i hi2
  by_cases hi : i < q.p.length
  · have hi' : ((i : Int) < (q.p.length : Int)) = True := by simp; omega
    have hi0 : (0 ≤ (i : Int)) = True := by simp
    have hok := hq.2.1 _ (List.getElem_mem hi)
    have hset := setE_pos hm (List.getElem_mem hi)
    have hcol := fun x => col_set (x := x) hm (List.getElem_mem hi)
    have hl : (q.p[i].cols).length ≤ 1000000 := Nat.le_trans (cols_len _) hok.2
    have hse : (decide (setE q.p[i] < 1) || decide (15 < setE q.p[i])) = false := by simp; omega
    simp -implicitDefEqProofs only [push_cast, Nat.reduceAdd, Nat.reduceSub, Nat.reduceMul, Nat.reduceLT, Nat.reduceLeDiff, Nat.reduceEqDiff, Nat.reduceBEq, reduceCtorEq, reduceIte, Int.reduceLE, Int.reduceLT, Int.reduceNeg, Int.reduceToNat, hi', hi0, encEs_get q.p i hi, encQ]
    refine callq (ofE_ok _ hok.1 hok.2) ?_
    simp -implicitDefEqProofs only [push_cast, Nat.reduceAdd, Nat.reduceSub, Nat.reduceMul, Nat.reduceLT, Nat.reduceLeDiff, Nat.reduceEqDiff, Nat.reduceBEq, reduceCtorEq, reduceIte, Int.reduceLE, Int.reduceLT, Int.reduceNeg, Int.reduceToNat, hi', hi0, encEs_get q.p i hi, encQ]
    refine callq (Cols_ok _ hok.1 hok.2) ?_
    simp -implicitDefEqProofs only [push_cast, Nat.reduceAdd, Nat.reduceSub, Nat.reduceMul, Nat.reduceLT, Nat.reduceLeDiff, Nat.reduceEqDiff, Nat.reduceBEq, reduceCtorEq, reduceIte, Int.reduceLE, Int.reduceLT, Int.reduceNeg, Int.reduceToNat, encQ, hse]
    generalize hcs : q.p[i].cols = cols at hcol hl ⊢
    refine loop_at hs (σ := Nat) (fun k => k ≤ cols.length) (fun k => cols.length - k)
      (fun k => [(15, .int k), (14, .sl (cols.map encI)), (13, .int (setE q.p[i])), (12, .int i), (4, .ptr (H.nxt + 1) 6 0 0)]) (fun k => [none, some (.cells 6 [encQ q] 0)]) [some 0, some 1] 0 (by omega) rfl ?_ ?_ ?_
    · (try simp -implicitDefEqProofs only [push_cast, Nat.reduceAdd, Nat.reduceSub, Nat.reduceMul, Nat.reduceLT, Nat.reduceLeDiff, Nat.reduceEqDiff, Nat.reduceBEq, reduceCtorEq, reduceIte, Int.reduceLE, Int.reduceLT, Int.reduceNeg, Int.reduceToNat, encDs_pure, encEs_pure, encIs_pure, encQ])
    · (try simp -implicitDefEqProofs only [push_cast, Nat.reduceAdd, Nat.reduceSub, Nat.reduceMul, Nat.reduceLT, Nat.reduceLeDiff, Nat.reduceEqDiff, Nat.reduceBEq, reduceCtorEq, reduceIte, Int.reduceLE, Int.reduceLT, Int.reduceNeg, Int.reduceToNat, encDs_pure, encEs_pure, encIs_pure, encQ])
    intro k hk2
    by_cases hk : k < cols.length
    · have hk' : ((k : Int) < (cols.length : Int)) = True := by simp; omega
      have hk0 : (0 ≤ (k : Int)) = True := by simp
      obtain ⟨x0, x15, xo, xb⟩ := hcol _ (List.getElem_mem hk)
      obtain ⟨u, hu⟩ : ∃ u : Nat, cols[k] / 4 = u := ⟨(cols[k] / 4).toNat, by omega⟩
      rw [hu, Int.toNat_natCast] at xb
      have hul : ((q.occ.length : Int) ≤ (u : Int)) = False := by simp; omega
      simp -implicitDefEqProofs only [push_cast, Nat.reduceAdd, Nat.reduceSub, Nat.reduceMul, Nat.reduceLT, Nat.reduceLeDiff, Nat.reduceEqDiff, Nat.reduceBEq, reduceCtorEq, reduceIte, Int.reduceLE, Int.reduceLT, Int.reduceNeg, Int.reduceToNat, hk', hk0, encIs_get cols k hk, encI, encQ]
      refine callq (Split_ok _ x0 x15) ?_
      simp -implicitDefEqProofs only [push_cast, Nat.reduceAdd, Nat.reduceSub, Nat.reduceMul, Nat.reduceLT, Nat.reduceLeDiff, Nat.reduceEqDiff, Nat.reduceBEq, reduceCtorEq, reduceIte, Int.reduceLE, Int.reduceLT, Int.reduceNeg, Int.reduceToNat, encQ, hu]
      refine callq (Bit_ok _ u (by omega)) ?_
      simp -implicitDefEqProofs only [push_cast, Nat.reduceAdd, Nat.reduceSub, Nat.reduceMul, Nat.reduceLT, Nat.reduceLeDiff, Nat.reduceEqDiff, Nat.reduceBEq, reduceCtorEq, reduceIte, Int.reduceLE, Int.reduceLT, Int.reduceNeg, Int.reduceToNat, encQ, xb, hul]
      rw [wrap64 (n := (k : Int) + 1) (by omega) (by omega)]
      refine next_at [some 0, some 1] (k + 1) (by omega) (by omega) rfl ?_ ?_
      · (try simp -implicitDefEqProofs only [push_cast, Nat.reduceAdd, Nat.reduceSub, Nat.reduceMul, Nat.reduceLT, Nat.reduceLeDiff, Nat.reduceEqDiff, Nat.reduceBEq, reduceCtorEq, reduceIte, Int.reduceLE, Int.reduceLT, Int.reduceNeg, Int.reduceToNat, encDs_pure, encEs_pure, encIs_pure, encQ])
      · (try simp -implicitDefEqProofs only [push_cast, Nat.reduceAdd, Nat.reduceSub, Nat.reduceMul, Nat.reduceLT, Nat.reduceLeDiff, Nat.reduceEqDiff, Nat.reduceBEq, reduceCtorEq, reduceIte, Int.reduceLE, Int.reduceLT, Int.reduceNeg, Int.reduceToNat, encDs_pure, encEs_pure, encIs_pure, encQ])
    · have hk' : ((k : Int) < (cols.length : Int)) = False := by simp; omega
      simp -implicitDefEqProofs only [push_cast, Nat.reduceAdd, Nat.reduceSub, Nat.reduceMul, Nat.reduceLT, Nat.reduceLeDiff, Nat.reduceEqDiff, Nat.reduceBEq, reduceCtorEq, reduceIte, Int.reduceLE, Int.reduceLT, Int.reduceNeg, Int.reduceToNat, hk', encQ]
      rw [wrap64 (n := (i : Int) + 1) (by omega) (by omega)]
      refine next_at [some 0, some 1] (i + 1) (by omega) (by omega) rfl ?_ ?_
      · (try simp -implicitDefEqProofs only [push_cast, Nat.reduceAdd, Nat.reduceSub, Nat.reduceMul, Nat.reduceLT, Nat.reduceLeDiff, Nat.reduceEqDiff, Nat.reduceBEq, reduceCtorEq, reduceIte, Int.reduceLE, Int.reduceLT, Int.reduceNeg, Int.reduceToNat, encDs_pure, encEs_pure, encIs_pure, encQ])
      · (try simp -implicitDefEqProofs only [push_cast, Nat.reduceAdd, Nat.reduceSub, Nat.reduceMul, Nat.reduceLT, Nat.reduceLeDiff, Nat.reduceEqDiff, Nat.reduceBEq, reduceCtorEq, reduceIte, Int.reduceLE, Int.reduceLT, Int.reduceNeg, Int.reduceToNat, encDs_pure, encEs_pure, encIs_pure, encQ])
  · have hi' : ((i : Int) < (q.p.length : Int)) = False := by simp; omega
    simp -implicitDefEqProofs only [push_cast, Nat.reduceAdd, Nat.reduceSub, Nat.reduceMul, Nat.reduceLT, Nat.reduceLeDiff, Nat.reduceEqDiff, Nat.reduceBEq, reduceCtorEq, reduceIte, Int.reduceLE, Int.reduceLT, Int.reduceNeg, Int.reduceToNat, hi', encQ]
    (try simp -implicitDefEqProofs only [push_cast, Nat.reduceAdd, Nat.reduceSub, Nat.reduceMul, Nat.reduceLT, Nat.reduceLeDiff, Nat.reduceEqDiff, Nat.reduceBEq, reduceCtorEq, reduceIte, Int.reduceLE, Int.reduceLT, Int.reduceNeg, Int.reduceToNat])
theorem queryAll_law (us : List AV) (h : ToldAll Go.Proofs.Tryz.prog Go.Proofs.Tryz.f5.params.toList us) : Quiet Go.Proofs.Tryz.prog 5 us (.bool true) := by
  have e1 : Go.Proofs.Tryz.f5.params.toList = [24, 28, 3] := by kernel_rfl
  rw [e1] at h
  obtain ⟨c, q, us, rfl, _, hr, hin, h⟩ := told_CQ h
  obtain ⟨a, us, rfl, _, h⟩ := told_I h
  obtain rfl := told_nil h
  exact queryAll_ok c q a hr
end Go.Sim.Tryz
