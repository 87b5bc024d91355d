/- What the row rests on, part 5. Conditions: none. -/
import Derived.Test.YtpkmmoibbadioaaGreatM4
set_option linter.unusedSimpArgs false
set_option linter.unusedVariables false
set_option maxRecDepth 100000
namespace Go.Sim.Tryz
open Go Go.Sim
attribute [local push_cast] aops_cons aops_nil aopG_none aopG_some aopP_eq aopE_eq aopC_eq aopE?_eq aopC?_eq aopB_eq aopB?_eq abr anilq gopP_eq gopL_eq ahead_cons ahead_nil ahdG_none ahdG_some ahdP_eq ahdN_eq ahdC_eq ahdN?_eq ahdS_eq ahdS?_eq astoreN ahdC?_eq ghdP_eq ghdC_eq ghdC?_eq ghdZ_f ghdZ_t ahdI_eq ahdI?_eq ghdN?_eq aim_nil aim_cons isIn_nil isIn_none isIn_cons aimm aheP_eq aheA_eq aheC_eq aheC?_eq aheI?_eq aheA?_eq gheP_eq gheC_eq gheC?_eq gheZ_eq aheG_none aheG_some aheff_cons aheff_nil aapp gro_rsl gro_lit gro_esl opt_some opt_none no_eq acondT_true acondT_false acondT_lit aw_skip aw_region aw_regionD aw_seq aw_cond aw_block aw_loop aw_exit aw_label aw_ret thn_normal thn_exit thn_ret inb_normal inb_exit inb_ret qret_ret qret_normal gcond apure aeff anew acallee ares aresT aresL aresC ares1 qfin_eq ev ofV evL gokL tget tput_some tput_none initT abin aint aun aload afaddr aiaddr afield aindex aextract apick pickv_lit Bool.or_false Bool.false_or Bool.or_true Bool.true_or imp_self aslice chunk roomB abound aconv abuild afill splice alen aminmax abuiltin anil apart Value.oneCell' astore aappend srcEs abuildSlice amakeSlice amapPut alookup aput afind mget keyV sameV_int Option.isSome_some Option.isSome_none cond_true cond_false asets isEq plus_obj plus_nxt plus_add plus_set plus_del IntKind.bits Option.map_some Option.map_none Option.bind_some Option.bind_none Option.join_some Option.getD_some Option.getD_none Option.toList List.getElem?_toArray List.getElem?_cons_zero List.getElem?_cons_succ List.getElem?_nil List.length_cons List.length_nil List.length_map List.head?_cons List.cons_append List.nil_append List.append_nil List.map_cons List.map_nil List.getD_cons_zero List.getD_cons_succ List.replicate_succ List.replicate_zero List.set_cons_zero List.set_cons_succ List.take_succ_cons List.take_zero List.drop_succ_cons List.drop_zero List.all_cons List.all_nil Nat.zero_add if_true if_false true_and and_true false_and and_false true_implies implies_true forall_const Bool.and_true Bool.true_and Bool.false_and Bool.and_false Bool.true_beq Bool.false_beq Bool.not_not beq_tt beq_ff Int.toNat_natCast decide_true decide_false Bool.not_true Bool.not_false Bool.true_eq_false Bool.false_eq_true false_implies exists_prop eq_self bne_self_eq_false beq_self_eq_true decide_eq_true_eq decide_eq_false_iff_not Bool.not_eq_true' Bool.not_eq_false' AV.int AV.bool AV.nilS ne_eq not_false_eq_true not_true_eq_false exists_eq_left exists_eq_left' Nat.lt_irrefl core_lit grd_lit acells_lit one_lit core_agg grd_agg acells_agg one_agg core_tup grd_tup acells_tup one_tup core_sl grd_sl acells_sl one_sl core_esl grd_esl acells_esl one_esl core_rsl grd_rsl acells_rsl one_rsl core_ptr grd_ptr acells_ptr one_ptr core_iptr grd_iptr acells_iptr one_iptr core_clo grd_clo acells_clo one_clo core_mp grd_mp acells_mp one_mp core_any grd_any acells_any one_any core_gv grd_gv fit_agg fit_lit fit_sl fit_esl fit_rsl fit_ptr fit_iptr fit_clo fit_mp retq_ret retq_normal set_nxt set_set plus_obj_set plus_set_set app_get0 app_get app_set0 app_set List.append_assoc List.length_append List.length_set Nat.lt_add_one Nat.add_lt_add_iff_right Nat.lt_add_right_iff_pos Nat.add_lt_add_iff_left List.mem_cons List.not_mem_nil or_false forall_eq forall_eq_or_imp lt_s0 lt_s1 lt_s2 lt_s3 lt_s4 lt_s5 lt_s6 lt_s7 lt_s8 pickv_t pickv_f or_nand or_nand2 imp_and_l SealT SealOs sealO_cells sl_lit sl_any sl_agg sl_tup sl_sl sl_rsl slO sl_esl sl_nil sl_eslesl sl_eslnil sl_rslrsl sl_eslrsl sl_nilrsl sl_ptr sl_iptr sl_ptri slP sl_clo sl_mp sl_gv sll_nil sll_cons slll_nil slll_cons shut_eq shutO Option.join_none Fn.func.injEq and_self sealL_self sealLL_self seal_self PureL PureLL Pure Nat.le_refl Nat.zero_le AV.lit.injEq Value.int.injEq Value.bool.injEq false_or or_true true_or Int.natCast_zero Int.ofNat_zero Int.cast_ofNat_Int Int.natCast_add Int.natCast_one Option.some.injEq piL_is sop_nil sop_cons sop_none sop_some sopO_some sop_new shut_pi shutL_nil shutL_cons exQ_exit exQ_ret exQ_normal Go.Sim.Tryz.ty_load1 Go.Sim.Tryz.ty_zero1 Go.Sim.Tryz.ty_load2 Go.Sim.Tryz.ty_zero2 Go.Sim.Tryz.ty_und2 Go.Sim.Tryz.ty_load3 Go.Sim.Tryz.ty_zero3 Go.Sim.Tryz.ty_und3 Go.Sim.Tryz.ty_load4 Go.Sim.Tryz.ty_zero4 Go.Sim.Tryz.ty_und4 Go.Sim.Tryz.ty_load5 Go.Sim.Tryz.ty_zero5 Go.Sim.Tryz.ty_und5 Go.Sim.Tryz.ty_load9 Go.Sim.Tryz.ty_zero9 Go.Sim.Tryz.ty_und9 Go.Sim.Tryz.ty_load22 Go.Sim.Tryz.ty_zero22 Go.Sim.Tryz.ty_el22 Go.Sim.Tryz.ty_zeroE22 Go.Sim.Tryz.ty_load24 Go.Sim.Tryz.ty_zero24 Go.Sim.Tryz.ty_fld24_0 Go.Sim.Tryz.ty_part24_0 Go.Sim.Tryz.ty_struct24 Go.Sim.Tryz.ty_load25 Go.Sim.Tryz.ty_zero25 Go.Sim.Tryz.ty_el25 Go.Sim.Tryz.ty_zeroE25 Go.Sim.Tryz.ty_load26 Go.Sim.Tryz.ty_zero26 Go.Sim.Tryz.ty_el26 Go.Sim.Tryz.ty_zeroE26 Go.Sim.Tryz.ty_load28 Go.Sim.Tryz.ty_zero28 Go.Sim.Tryz.ty_fld28_0 Go.Sim.Tryz.ty_part28_0 Go.Sim.Tryz.ty_fld28_1 Go.Sim.Tryz.ty_part28_1 Go.Sim.Tryz.ty_fld28_2 Go.Sim.Tryz.ty_part28_2 Go.Sim.Tryz.ty_fld28_3 Go.Sim.Tryz.ty_part28_3 Go.Sim.Tryz.ty_fld28_4 Go.Sim.Tryz.ty_part28_4 Go.Sim.Tryz.ty_fld28_5 Go.Sim.Tryz.ty_part28_5 Go.Sim.Tryz.ty_struct28 Go.Sim.Tryz.ty_load29 Go.Sim.Tryz.ty_zero29 Go.Sim.Tryz.ty_arr29 Go.Sim.Tryz.ty_part29_0 Go.Sim.Tryz.ty_part29_1 Go.Sim.Tryz.ty_struct29 Go.Sim.Tryz.ty_load30 Go.Sim.Tryz.ty_zero30 Go.Sim.Tryz.ty_el30 Go.Sim.Tryz.ty_zeroE30 Go.Sim.Tryz.ty_load32 Go.Sim.Tryz.ty_zero32 Go.Sim.Tryz.ty_fld32_0 Go.Sim.Tryz.ty_part32_0 Go.Sim.Tryz.ty_fld32_1 Go.Sim.Tryz.ty_part32_1 Go.Sim.Tryz.ty_fld32_2 Go.Sim.Tryz.ty_part32_2 Go.Sim.Tryz.ty_fld32_3 Go.Sim.Tryz.ty_part32_3 Go.Sim.Tryz.ty_struct32 Go.Sim.Tryz.ty_load34 Go.Sim.Tryz.ty_zero34 Go.Sim.Tryz.ty_fld34_0 Go.Sim.Tryz.ty_part34_0 Go.Sim.Tryz.ty_fld34_1 Go.Sim.Tryz.ty_part34_1 Go.Sim.Tryz.ty_fld34_2 Go.Sim.Tryz.ty_part34_2 Go.Sim.Tryz.ty_struct34 Go.Sim.Tryz.ty_load41 Go.Sim.Tryz.ty_zero41 Go.Sim.Tryz.ty_el41 Go.Sim.Tryz.ty_zeroE41 Go.Sim.Tryz.ty_load47 Go.Sim.Tryz.ty_zero47 Go.Sim.Tryz.ty_el47 Go.Sim.Tryz.ty_zeroE47 Go.Sim.Tryz.ty_load52 Go.Sim.Tryz.ty_zero52 Go.Sim.Tryz.ty_fld52_0 Go.Sim.Tryz.ty_part52_0 Go.Sim.Tryz.ty_fld52_1 Go.Sim.Tryz.ty_part52_1 Go.Sim.Tryz.ty_struct52 Go.Sim.Tryz.ty_load58 Go.Sim.Tryz.ty_zero58 Go.Sim.Tryz.ty_fld58_0 Go.Sim.Tryz.ty_part58_0 Go.Sim.Tryz.ty_fld58_1 Go.Sim.Tryz.ty_part58_1 Go.Sim.Tryz.ty_struct58 Go.Sim.Tryz.ty_load60 Go.Sim.Tryz.ty_zero60 Go.Sim.Tryz.ty_fld60_0 Go.Sim.Tryz.ty_part60_0 Go.Sim.Tryz.ty_fld60_1 Go.Sim.Tryz.ty_part60_1 Go.Sim.Tryz.ty_struct60 Go.Sim.Tryz.ty_load62 Go.Sim.Tryz.ty_zero62 Go.Sim.Tryz.ty_fld62_0 Go.Sim.Tryz.ty_part62_0 Go.Sim.Tryz.ty_fld62_1 Go.Sim.Tryz.ty_part62_1 Go.Sim.Tryz.ty_fld62_2 Go.Sim.Tryz.ty_part62_2 Go.Sim.Tryz.ty_fld62_3 Go.Sim.Tryz.ty_part62_3 Go.Sim.Tryz.ty_struct62 Go.Sim.Tryz.ty_load73 Go.Sim.Tryz.ty_zero73 Go.Sim.Tryz.ty_el73 Go.Sim.Tryz.ty_zeroE73 Go.Sim.Tryz.ty_load75 Go.Sim.Tryz.ty_zero75 Go.Sim.Tryz.ty_fld75_0 Go.Sim.Tryz.ty_part75_0 Go.Sim.Tryz.ty_struct75 Go.Sim.Tryz.ty_load79 Go.Sim.Tryz.ty_zero79 Go.Sim.Tryz.ty_load80 Go.Sim.Tryz.ty_zero80 Go.Sim.Tryz.ty_el80 Go.Sim.Tryz.ty_zeroE80 Go.Sim.Tryz.ty_load82 Go.Sim.Tryz.ty_zero82 Go.Sim.Tryz.ty_fld82_0 Go.Sim.Tryz.ty_part82_0 Go.Sim.Tryz.ty_fld82_1 Go.Sim.Tryz.ty_part82_1 Go.Sim.Tryz.ty_fld82_2 Go.Sim.Tryz.ty_part82_2 Go.Sim.Tryz.ty_struct82 Go.Sim.Tryz.ty_load87 Go.Sim.Tryz.ty_zero87 Go.Sim.Tryz.ty_fld87_0 Go.Sim.Tryz.ty_part87_0 Go.Sim.Tryz.ty_fld87_1 Go.Sim.Tryz.ty_part87_1 Go.Sim.Tryz.ty_struct87 Go.Sim.Tryz.ty_load90 Go.Sim.Tryz.ty_zero90 Go.Sim.Tryz.ty_arr90 Go.Sim.Tryz.ty_part90_0 Go.Sim.Tryz.ty_part90_1 Go.Sim.Tryz.ty_struct90 Go.Sim.Tryz.ty_load92 Go.Sim.Tryz.ty_zero92 Go.Sim.Tryz.ty_load103 Go.Sim.Tryz.ty_zero103 Go.Sim.Tryz.ty_fld103_0 Go.Sim.Tryz.ty_part103_0 Go.Sim.Tryz.ty_fld103_1 Go.Sim.Tryz.ty_part103_1 Go.Sim.Tryz.ty_struct103 Go.Sim.Tryz.ty_load107 Go.Sim.Tryz.ty_zero107 Go.Sim.Tryz.ty_und107 Go.Sim.Tryz.ty_load110 Go.Sim.Tryz.ty_zero110 Go.Sim.Tryz.ty_und110 Go.Sim.Tryz.ty_load116 Go.Sim.Tryz.ty_zero116 Go.Sim.Tryz.ty_fld116_0 Go.Sim.Tryz.ty_part116_0 Go.Sim.Tryz.ty_struct116 Go.Sim.Tryz.ty_load117 Go.Sim.Tryz.ty_zero117 Go.Sim.Tryz.ty_load118 Go.Sim.Tryz.ty_zero118 Go.Sim.Tryz.ty_el118 Go.Sim.Tryz.ty_zeroE118 Go.Sim.Tryz.ty_load119 Go.Sim.Tryz.ty_zero119 Go.Sim.Tryz.ty_el119 Go.Sim.Tryz.ty_zeroE119 Go.Sim.Tryz.ty_load120 Go.Sim.Tryz.ty_zero120 Go.Sim.Tryz.ty_load131 Go.Sim.Tryz.ty_zero131 Go.Sim.Tryz.ty_load137 Go.Sim.Tryz.ty_zero137 Go.Sim.Tryz.ty_el137 Go.Sim.Tryz.ty_zeroE137 Go.Sim.Tryz.ty_load144 Go.Sim.Tryz.ty_zero144 Go.Sim.Tryz.ty_load147 Go.Sim.Tryz.ty_zero147 Go.Sim.Tryz.ty_und147 Go.Sim.Tryz.ty_load151 Go.Sim.Tryz.ty_zero151 Go.Sim.Tryz.ty_el151 Go.Sim.Tryz.ty_zeroE151 Go.Sim.Tryz.ty_load154 Go.Sim.Tryz.ty_zero154 Go.Sim.Tryz.ty_fld154_0 Go.Sim.Tryz.ty_part154_0 Go.Sim.Tryz.ty_struct154 Go.Sim.Tryz.ty_load164 Go.Sim.Tryz.ty_zero164 Go.Sim.Tryz.ty_load168 Go.Sim.Tryz.ty_zero168 Go.Sim.Tryz.ty_und168 Go.Sim.Tryz.ty_vzero154 Go.Sim.Tryz.ty_load171 Go.Sim.Tryz.ty_zero171 Go.Sim.Tryz.ty_fld171_0 Go.Sim.Tryz.ty_part171_0 Go.Sim.Tryz.ty_fld171_1 Go.Sim.Tryz.ty_part171_1 Go.Sim.Tryz.ty_fld171_2 Go.Sim.Tryz.ty_part171_2 Go.Sim.Tryz.ty_struct171 Go.Sim.Tryz.ty_load173 Go.Sim.Tryz.ty_zero173 Go.Sim.Tryz.ty_load175 Go.Sim.Tryz.ty_zero175 Go.Sim.Tryz.ty_und175 Go.Sim.Tryz.ty_load182 Go.Sim.Tryz.ty_zero182 Go.Sim.Tryz.ty_und182 Go.Sim.Tryz.ty_load185 Go.Sim.Tryz.ty_zero185 Go.Sim.Tryz.ty_load188 Go.Sim.Tryz.ty_zero188 Go.Sim.Tryz.ty_und188 Go.Sim.Tryz.ty_load192 Go.Sim.Tryz.ty_zero192 Go.Sim.Tryz.ty_load195 Go.Sim.Tryz.ty_zero195
section
attribute [local push_cast] encPl_mk encPl_take encPl_len encPl_one encPls_pure encPl_pure encT_pure encT_len encT_one encT_take
theorem indexP_ok (l : List (Int × Int)) (hl : l.length ≤ 140737488355328) (a b : Int) : Quiet Go.Proofs.Tryz.prog 157 [.sl (l.map encP), .agg [.int a, .int b]] (.int (idx (fun p => decide (a = p.1) && decide (b = p.2)) l)) := by
  refine quiet_of (rs := #[.tmp 4]) Go.Proofs.Tryz.func157 rfl rfl rfl mixed rfl rfl fun H hs => ?_
  simp -implicitDefEqProofs only [push_cast, Nat.reduceAdd, Nat.reduceSub, Nat.reduceMul, Nat.reduceLT, Nat.reduceLeDiff, Nat.reduceEqDiff, Nat.reduceBEq, reduceCtorEq, reduceIte, Int.reduceLE, Int.reduceLT, Int.reduceNeg, Int.reduceToNat]
  refine loop_at hs (σ := Nat) (fun i => i ≤ l.length ∧ ∀ (j : Nat) (h : j < l.length), j < i → (decide (a = l[j].1) && decide (b = l[j].2)) = false) (fun i => l.length - i)
    (fun i => [(0, .sl (l.map encP)), (3, .ptr (H.nxt + 0) 2 0 0), (7, .int l.length), (8, .int i)]) (fun i => [some (.cells 2 [[.int a, .int b]] 0)]) [some 0] 0 ⟨by omega, fun j _ h => by omega⟩ rfl ?_ ?_ ?_
  · (try simp -implicitDefEqProofs only [push_cast, Nat.reduceAdd, Nat.reduceSub, Nat.reduceMul, Nat.reduceLT, Nat.reduceLeDiff, Nat.reduceEqDiff, Nat.reduceBEq, reduceCtorEq, reduceIte, Int.reduceLE, Int.reduceLT, Int.reduceNeg, Int.reduceToNat, rowP_pure])
  · (try simp -implicitDefEqProofs only [push_cast, Nat.reduceAdd, Nat.reduceSub, Nat.reduceMul, Nat.reduceLT, Nat.reduceLeDiff, Nat.reduceEqDiff, Nat.reduceBEq, reduceCtorEq, reduceIte, Int.reduceLE, Int.reduceLT, Int.reduceNeg, Int.reduceToNat])
  rintro i ⟨h2, h3⟩
  by_cases hi : i < l.length
  · have hi' : ((i : Int) < (l.length : Int)) = True := by simp; omega
    have hi0 : (0 ≤ (i : Int)) = True := by simp
    have hps := encPs_get l i hi
    rw [encP] at hps
    simp -implicitDefEqProofs only [push_cast, Nat.reduceAdd, Nat.reduceSub, Nat.reduceMul, Nat.reduceLT, Nat.reduceLeDiff, Nat.reduceEqDiff, Nat.reduceBEq, reduceCtorEq, reduceIte, Int.reduceLE, Int.reduceLT, Int.reduceNeg, Int.reduceToNat, hi', hi0]
    refine areg_at 6 (by kernel_rfl) (by kernel_rfl) ?_
    simp -implicitDefEqProofs only [push_cast, Nat.reduceAdd, Nat.reduceSub, Nat.reduceMul, Nat.reduceLT, Nat.reduceLeDiff, Nat.reduceEqDiff, Nat.reduceBEq, reduceCtorEq, reduceIte, Int.reduceLE, Int.reduceLT, Int.reduceNeg, Int.reduceToNat, hi', hi0, hps, lits, cellsEq, cellEq, cmpPl]
    refine ⟨fun h => ?_, fun h => ?_⟩
    · exact (idx_hit (p := fun p : Int × Int => decide (a = p.1) && decide (b = p.2)) hi h3 h).symm
    · rw [wrap64 (n := (i : Int) + 1) (by omega) (by omega)]
      refine next_at [some 0] (i + 1) ⟨by omega, fun j hj hji => ?_⟩ (by omega) rfl ?_ ?_
      · rcases Nat.lt_or_ge j i with h4 | h4
        · exact h3 j hj h4
        · obtain rfl : j = i := by omega
          exact h
      · (try simp -implicitDefEqProofs only [push_cast, Nat.reduceAdd, Nat.reduceSub, Nat.reduceMul, Nat.reduceLT, Nat.reduceLeDiff, Nat.reduceEqDiff, Nat.reduceBEq, reduceCtorEq, reduceIte, Int.reduceLE, Int.reduceLT, Int.reduceNeg, Int.reduceToNat, rowP_pure])
      · (try simp -implicitDefEqProofs only [push_cast, Nat.reduceAdd, Nat.reduceSub, Nat.reduceMul, Nat.reduceLT, Nat.reduceLeDiff, Nat.reduceEqDiff, Nat.reduceBEq, reduceCtorEq, reduceIte, Int.reduceLE, Int.reduceLT, Int.reduceNeg, Int.reduceToNat])
  · have hi' : ((i : Int) < (l.length : Int)) = False := by simp; omega
    simp -implicitDefEqProofs only [push_cast, Nat.reduceAdd, Nat.reduceSub, Nat.reduceMul, Nat.reduceLT, Nat.reduceLeDiff, Nat.reduceEqDiff, Nat.reduceBEq, reduceCtorEq, reduceIte, Int.reduceLE, Int.reduceLT, Int.reduceNeg, Int.reduceToNat, hi']
    exact (idx_miss (p := fun p : Int × Int => decide (a = p.1) && decide (b = p.2)) fun j hj => h3 j hj (by omega)).symm
theorem any_pair (l : List (Int × Int)) (a b : Int) : l.any (fun p => decide (a = p.1) && decide (b = p.2)) = l.contains (a, b) := by
  induction l with
  | nil => rfl
  | cons p l ih =>
    rw [List.any_cons, List.contains_cons, ih]
    congr 1
theorem containsP_ok (l : List (Int × Int)) (hl : l.length ≤ 1000000) (a b : Int) : Quiet Go.Proofs.Tryz.prog 134 [.sl (l.map encP), .agg [.int a, .int b]] (.bool (l.contains (a, b))) := by
  rw [← any_pair]
  refine quiet_of (rs := #[.tmp 4]) Go.Proofs.Tryz.func134 rfl rfl rfl mixed rfl rfl fun H hs => ?_
  simp -implicitDefEqProofs only [push_cast, Nat.reduceAdd, Nat.reduceSub, Nat.reduceMul, Nat.reduceLT, Nat.reduceLeDiff, Nat.reduceEqDiff, Nat.reduceBEq, reduceCtorEq, reduceIte, Int.reduceLE, Int.reduceLT, Int.reduceNeg, Int.reduceToNat]
  refine callq (indexP_ok l (by omega) a b) ?_
  simp -implicitDefEqProofs only [push_cast, Nat.reduceAdd, Nat.reduceSub, Nat.reduceMul, Nat.reduceLT, Nat.reduceLeDiff, Nat.reduceEqDiff, Nat.reduceBEq, reduceCtorEq, reduceIte, Int.reduceLE, Int.reduceLT, Int.reduceNeg, Int.reduceToNat, idx_nonneg]
def Pl.good (p : Pl) : Prop := p.Ok ∧ p.few = true ∧ (treeP p).may = true
theorem good_part {op occ a b : Int} {l : List Pl} (h : Pl.good (.mk op occ a b l)) : ∀ x ∈ l, Pl.good x := by
  obtain ⟨⟨hl, hlo⟩, hf, hm⟩ := h
  exact fun x hx => ⟨hlo x hx, few_part hf hx, part_may (few_own hf) hm x hx⟩
set_option maxHeartbeats 4000000 in
theorem fits_ok (c : List Df) (hcl : c.length ≤ 1000000) (q : Qy) (hq : q.Ok) (p : Pl) (hp : Pl.good p) : Quiet Go.Proofs.Tryz.prog 78 [.agg (encPl p), .agg [.sl (c.map encD)], .agg (encQ q)] (.bool (fitP c q p)) := by
  obtain ⟨op, occ, a, b, l⟩ := p
  have hsub := good_part hp
  have hSp := partSet_ok _ (few_forms hp.2.1)
  rcases form_split (few_own hp.2.1) with ⟨rfl, rfl⟩ | ⟨rfl, x, rfl⟩ | ⟨hop, x, y, rfl⟩
  · refine quiet_of (rs := #[.tmp 6]) Go.Proofs.Tryz.func78 rfl rfl rfl mixed rfl rfl fun H hs => ?_
    simp -implicitDefEqProofs only [push_cast, Nat.reduceAdd, Nat.reduceSub, Nat.reduceMul, Nat.reduceLT, Nat.reduceLeDiff, Nat.reduceEqDiff, Nat.reduceBEq, reduceCtorEq, reduceIte, Int.reduceLE, Int.reduceLT, Int.reduceNeg, Int.reduceToNat, encQ, Int.reduceEq, if_false, if_true, or_true, or_false, true_or, false_or, List.map_cons, List.map_nil, List.length_cons, List.length_nil, Int.reduceAdd]
    try rfl
  · have hv : fitP c q (.mk 4 occ a b [x]) = (q.cols c (treeP (.mk 4 occ a b [x])).set).contains a := by rw [treeP]; rfl
    have hcl2 : (q.cols c (treeP (.mk 4 occ a b [x])).set).length ≤ 1000000 := by
      unfold Qy.cols
      split
      · have := colsIn_le c q (bitI (treeP (.mk 4 occ a b [x])).set); omega
      · simp
    rw [hv]
    refine quiet_of (rs := #[.tmp 6]) Go.Proofs.Tryz.func78 rfl rfl rfl mixed rfl rfl fun H hs => ?_
    rw [encPl_mk] at hSp
    simp -implicitDefEqProofs only [push_cast, Nat.reduceAdd, Nat.reduceSub, Nat.reduceMul, Nat.reduceLT, Nat.reduceLeDiff, Nat.reduceEqDiff, Nat.reduceBEq, reduceCtorEq, reduceIte, Int.reduceLE, Int.reduceLT, Int.reduceNeg, Int.reduceToNat, encQ, Int.reduceEq, if_false, if_true, or_true, or_false, true_or, false_or, List.map_cons, List.map_nil, List.length_cons, List.length_nil, Int.reduceAdd]
    refine areg_at 11 (by kernel_rfl) (by kernel_rfl) ?_
    simp -implicitDefEqProofs only [push_cast, Nat.reduceAdd, Nat.reduceSub, Nat.reduceMul, Nat.reduceLT, Nat.reduceLeDiff, Nat.reduceEqDiff, Nat.reduceBEq, reduceCtorEq, reduceIte, Int.reduceLE, Int.reduceLT, Int.reduceNeg, Int.reduceToNat, encQ, Int.reduceEq, if_false, if_true, or_true, or_false, true_or, false_or, List.map_cons, List.map_nil, List.length_cons, List.length_nil, Int.reduceAdd]
    refine ahdq hSp ?_
    simp -implicitDefEqProofs only [push_cast, Nat.reduceAdd, Nat.reduceSub, Nat.reduceMul, Nat.reduceLT, Nat.reduceLeDiff, Nat.reduceEqDiff, Nat.reduceBEq, reduceCtorEq, reduceIte, Int.reduceLE, Int.reduceLT, Int.reduceNeg, Int.reduceToNat, encQ, Int.reduceEq, if_false, if_true, or_true, or_false, true_or, false_or, List.map_cons, List.map_nil, List.length_cons, List.length_nil, Int.reduceAdd]
    refine ahdq (ColsQ_ok c hcl q hq _) ?_
    simp -implicitDefEqProofs only [push_cast, Nat.reduceAdd, Nat.reduceSub, Nat.reduceMul, Nat.reduceLT, Nat.reduceLeDiff, Nat.reduceEqDiff, Nat.reduceBEq, reduceCtorEq, reduceIte, Int.reduceLE, Int.reduceLT, Int.reduceNeg, Int.reduceToNat, encQ, Int.reduceEq, if_false, if_true, or_true, or_false, true_or, false_or, List.map_cons, List.map_nil, List.length_cons, List.length_nil, Int.reduceAdd]
    refine ahdq (containsI_ok _ hcl2 a) ?_
    simp -implicitDefEqProofs only [push_cast, Nat.reduceAdd, Nat.reduceSub, Nat.reduceMul, Nat.reduceLT, Nat.reduceLeDiff, Nat.reduceEqDiff, Nat.reduceBEq, reduceCtorEq, reduceIte, Int.reduceLE, Int.reduceLT, Int.reduceNeg, Int.reduceToNat, encQ, Int.reduceEq, if_false, if_true, or_true, or_false, true_or, false_or, List.map_cons, List.map_nil, List.length_cons, List.length_nil, Int.reduceAdd]
  · have hx := hsub x (by simp)
    have hy := hsub y (by simp)
    have hSx := partSet_ok x (few_forms hx.2.1)
    have hSy := partSet_ok y (few_forms hy.2.1)
    have hOx := Order_ok x hx.1
    have hOy := Order_ok y hy.1
    have hg0 : ∀ z : List AV, ([x, y].map encPl).getD 0 z = encPl x := fun _ => rfl
    have hg1 : ∀ z : List AV, ([x, y].map encPl).getD 1 z = encPl y := fun _ => rfl
    have hv : fitP c q (.mk op occ a b [x, y]) = (if op = 1 then true else (q.pairs (treeP x).set (treeP y).set).contains (a, b) && (decide (op = 2) || (decide (x.order = a) && decide (y.order = b)))) := rfl
    rw [hv]
    have hple := pairs_le q hq (treeP x).set (treeP y).set
    have hP := Pairs_ok q hq (treeP x).set (treeP y).set
    generalize q.pairs (treeP x).set (treeP y).set = ps at hple hP ⊢
    refine quiet_of (rs := #[.tmp 6]) Go.Proofs.Tryz.func78 rfl rfl rfl mixed rfl rfl fun H hs => ?_
    rcases hop with rfl | rfl | rfl
    · simp -implicitDefEqProofs only [push_cast, Nat.reduceAdd, Nat.reduceSub, Nat.reduceMul, Nat.reduceLT, Nat.reduceLeDiff, Nat.reduceEqDiff, Nat.reduceBEq, reduceCtorEq, reduceIte, Int.reduceLE, Int.reduceLT, Int.reduceNeg, Int.reduceToNat, encQ, Int.reduceEq, if_false, if_true, or_true, or_false, true_or, false_or, List.map_cons, List.map_nil, List.length_cons, List.length_nil, Int.reduceAdd]
    · simp -implicitDefEqProofs only [push_cast, Nat.reduceAdd, Nat.reduceSub, Nat.reduceMul, Nat.reduceLT, Nat.reduceLeDiff, Nat.reduceEqDiff, Nat.reduceBEq, reduceCtorEq, reduceIte, Int.reduceLE, Int.reduceLT, Int.reduceNeg, Int.reduceToNat, encQ, Int.reduceEq, if_false, if_true, or_true, or_false, true_or, false_or, List.map_cons, List.map_nil, List.length_cons, List.length_nil, Int.reduceAdd]
      refine areg_at 16 (by kernel_rfl) (by kernel_rfl) ?_
      simp -implicitDefEqProofs only [push_cast, Nat.reduceAdd, Nat.reduceSub, Nat.reduceMul, Nat.reduceLT, Nat.reduceLeDiff, Nat.reduceEqDiff, Nat.reduceBEq, reduceCtorEq, reduceIte, Int.reduceLE, Int.reduceLT, Int.reduceNeg, Int.reduceToNat, encQ, Int.reduceEq, if_false, if_true, or_true, or_false, true_or, false_or, List.map_cons, List.map_nil, List.length_cons, List.length_nil, Int.reduceAdd]
      refine areg_at 11 (by kernel_rfl) (by kernel_rfl) ?_
      simp -implicitDefEqProofs only [push_cast, Nat.reduceAdd, Nat.reduceSub, Nat.reduceMul, Nat.reduceLT, Nat.reduceLeDiff, Nat.reduceEqDiff, Nat.reduceBEq, reduceCtorEq, reduceIte, Int.reduceLE, Int.reduceLT, Int.reduceNeg, Int.reduceToNat, encQ, Int.reduceEq, if_false, if_true, or_true, or_false, true_or, false_or, List.map_cons, List.map_nil, List.length_cons, List.length_nil, Int.reduceAdd]
      refine ahdq hSx ?_
      simp -implicitDefEqProofs only [push_cast, Nat.reduceAdd, Nat.reduceSub, Nat.reduceMul, Nat.reduceLT, Nat.reduceLeDiff, Nat.reduceEqDiff, Nat.reduceBEq, reduceCtorEq, reduceIte, Int.reduceLE, Int.reduceLT, Int.reduceNeg, Int.reduceToNat, encQ, Int.reduceEq, if_false, if_true, or_true, or_false, true_or, false_or, List.map_cons, List.map_nil, List.length_cons, List.length_nil, Int.reduceAdd]
      refine ahdq hSy ?_
      simp -implicitDefEqProofs only [push_cast, Nat.reduceAdd, Nat.reduceSub, Nat.reduceMul, Nat.reduceLT, Nat.reduceLeDiff, Nat.reduceEqDiff, Nat.reduceBEq, reduceCtorEq, reduceIte, Int.reduceLE, Int.reduceLT, Int.reduceNeg, Int.reduceToNat, encQ, Int.reduceEq, if_false, if_true, or_true, or_false, true_or, false_or, List.map_cons, List.map_nil, List.length_cons, List.length_nil, Int.reduceAdd]
      refine ahdq hP ?_
      simp -implicitDefEqProofs only [push_cast, Nat.reduceAdd, Nat.reduceSub, Nat.reduceMul, Nat.reduceLT, Nat.reduceLeDiff, Nat.reduceEqDiff, Nat.reduceBEq, reduceCtorEq, reduceIte, Int.reduceLE, Int.reduceLT, Int.reduceNeg, Int.reduceToNat, encQ, Int.reduceEq, if_false, if_true, or_true, or_false, true_or, false_or, List.map_cons, List.map_nil, List.length_cons, List.length_nil, Int.reduceAdd]
      refine ahdq (containsP_ok ps hple a b) ?_
      simp -implicitDefEqProofs only [push_cast, Nat.reduceAdd, Nat.reduceSub, Nat.reduceMul, Nat.reduceLT, Nat.reduceLeDiff, Nat.reduceEqDiff, Nat.reduceBEq, reduceCtorEq, reduceIte, Int.reduceLE, Int.reduceLT, Int.reduceNeg, Int.reduceToNat, encQ, Int.reduceEq, if_false, if_true, or_true, or_false, true_or, false_or, List.map_cons, List.map_nil, List.length_cons, List.length_nil, Int.reduceAdd]
      refine areg_at 28 (by kernel_rfl) (by kernel_rfl) ?_
      simp -implicitDefEqProofs only [push_cast, Nat.reduceAdd, Nat.reduceSub, Nat.reduceMul, Nat.reduceLT, Nat.reduceLeDiff, Nat.reduceEqDiff, Nat.reduceBEq, reduceCtorEq, reduceIte, Int.reduceLE, Int.reduceLT, Int.reduceNeg, Int.reduceToNat, encQ, Int.reduceEq, if_false, if_true, or_true, or_false, true_or, false_or, List.map_cons, List.map_nil, List.length_cons, List.length_nil, Int.reduceAdd]
      refine gcallq (.int x.order) (fun _ => hOx) ?_
      simp -implicitDefEqProofs only [push_cast, Nat.reduceAdd, Nat.reduceSub, Nat.reduceMul, Nat.reduceLT, Nat.reduceLeDiff, Nat.reduceEqDiff, Nat.reduceBEq, reduceCtorEq, reduceIte, Int.reduceLE, Int.reduceLT, Int.reduceNeg, Int.reduceToNat, encQ, Int.reduceEq, if_false, if_true, or_true, or_false, true_or, false_or, List.map_cons, List.map_nil, List.length_cons, List.length_nil, Int.reduceAdd]
      refine gcallq (.int y.order) (fun _ => hOy) ?_
      simp -implicitDefEqProofs only [push_cast, Nat.reduceAdd, Nat.reduceSub, Nat.reduceMul, Nat.reduceLT, Nat.reduceLeDiff, Nat.reduceEqDiff, Nat.reduceBEq, reduceCtorEq, reduceIte, Int.reduceLE, Int.reduceLT, Int.reduceNeg, Int.reduceToNat, encQ, Int.reduceEq, if_false, if_true, or_true, or_false, true_or, false_or, List.map_cons, List.map_nil, List.length_cons, List.length_nil, Int.reduceAdd]
    · simp -implicitDefEqProofs only [push_cast, Nat.reduceAdd, Nat.reduceSub, Nat.reduceMul, Nat.reduceLT, Nat.reduceLeDiff, Nat.reduceEqDiff, Nat.reduceBEq, reduceCtorEq, reduceIte, Int.reduceLE, Int.reduceLT, Int.reduceNeg, Int.reduceToNat, encQ, Int.reduceEq, if_false, if_true, or_true, or_false, true_or, false_or, List.map_cons, List.map_nil, List.length_cons, List.length_nil, Int.reduceAdd]
      refine areg_at 16 (by kernel_rfl) (by kernel_rfl) ?_
      simp -implicitDefEqProofs only [push_cast, Nat.reduceAdd, Nat.reduceSub, Nat.reduceMul, Nat.reduceLT, Nat.reduceLeDiff, Nat.reduceEqDiff, Nat.reduceBEq, reduceCtorEq, reduceIte, Int.reduceLE, Int.reduceLT, Int.reduceNeg, Int.reduceToNat, encQ, Int.reduceEq, if_false, if_true, or_true, or_false, true_or, false_or, List.map_cons, List.map_nil, List.length_cons, List.length_nil, Int.reduceAdd]
      refine areg_at 11 (by kernel_rfl) (by kernel_rfl) ?_
      simp -implicitDefEqProofs only [push_cast, Nat.reduceAdd, Nat.reduceSub, Nat.reduceMul, Nat.reduceLT, Nat.reduceLeDiff, Nat.reduceEqDiff, Nat.reduceBEq, reduceCtorEq, reduceIte, Int.reduceLE, Int.reduceLT, Int.reduceNeg, Int.reduceToNat, encQ, Int.reduceEq, if_false, if_true, or_true, or_false, true_or, false_or, List.map_cons, List.map_nil, List.length_cons, List.length_nil, Int.reduceAdd]
      refine ahdq hSx ?_
      simp -implicitDefEqProofs only [push_cast, Nat.reduceAdd, Nat.reduceSub, Nat.reduceMul, Nat.reduceLT, Nat.reduceLeDiff, Nat.reduceEqDiff, Nat.reduceBEq, reduceCtorEq, reduceIte, Int.reduceLE, Int.reduceLT, Int.reduceNeg, Int.reduceToNat, encQ, Int.reduceEq, if_false, if_true, or_true, or_false, true_or, false_or, List.map_cons, List.map_nil, List.length_cons, List.length_nil, Int.reduceAdd]
      refine ahdq hSy ?_
      simp -implicitDefEqProofs only [push_cast, Nat.reduceAdd, Nat.reduceSub, Nat.reduceMul, Nat.reduceLT, Nat.reduceLeDiff, Nat.reduceEqDiff, Nat.reduceBEq, reduceCtorEq, reduceIte, Int.reduceLE, Int.reduceLT, Int.reduceNeg, Int.reduceToNat, encQ, Int.reduceEq, if_false, if_true, or_true, or_false, true_or, false_or, List.map_cons, List.map_nil, List.length_cons, List.length_nil, Int.reduceAdd]
      refine ahdq hP ?_
      simp -implicitDefEqProofs only [push_cast, Nat.reduceAdd, Nat.reduceSub, Nat.reduceMul, Nat.reduceLT, Nat.reduceLeDiff, Nat.reduceEqDiff, Nat.reduceBEq, reduceCtorEq, reduceIte, Int.reduceLE, Int.reduceLT, Int.reduceNeg, Int.reduceToNat, encQ, Int.reduceEq, if_false, if_true, or_true, or_false, true_or, false_or, List.map_cons, List.map_nil, List.length_cons, List.length_nil, Int.reduceAdd]
      refine ahdq (containsP_ok ps hple a b) ?_
      simp -implicitDefEqProofs only [push_cast, Nat.reduceAdd, Nat.reduceSub, Nat.reduceMul, Nat.reduceLT, Nat.reduceLeDiff, Nat.reduceEqDiff, Nat.reduceBEq, reduceCtorEq, reduceIte, Int.reduceLE, Int.reduceLT, Int.reduceNeg, Int.reduceToNat, encQ, Int.reduceEq, if_false, if_true, or_true, or_false, true_or, false_or, List.map_cons, List.map_nil, List.length_cons, List.length_nil, Int.reduceAdd]
      refine areg_at 28 (by kernel_rfl) (by kernel_rfl) ?_
      simp -implicitDefEqProofs only [push_cast, Nat.reduceAdd, Nat.reduceSub, Nat.reduceMul, Nat.reduceLT, Nat.reduceLeDiff, Nat.reduceEqDiff, Nat.reduceBEq, reduceCtorEq, reduceIte, Int.reduceLE, Int.reduceLT, Int.reduceNeg, Int.reduceToNat, encQ, Int.reduceEq, if_false, if_true, or_true, or_false, true_or, false_or, List.map_cons, List.map_nil, List.length_cons, List.length_nil, Int.reduceAdd]
      refine gcallq (.int x.order) (fun _ => hOx) ?_
      simp -implicitDefEqProofs only [push_cast, Nat.reduceAdd, Nat.reduceSub, Nat.reduceMul, Nat.reduceLT, Nat.reduceLeDiff, Nat.reduceEqDiff, Nat.reduceBEq, reduceCtorEq, reduceIte, Int.reduceLE, Int.reduceLT, Int.reduceNeg, Int.reduceToNat, encQ, Int.reduceEq, if_false, if_true, or_true, or_false, true_or, false_or, List.map_cons, List.map_nil, List.length_cons, List.length_nil, Int.reduceAdd]
      refine gcallq (.int y.order) (fun _ => hOy) ?_
      simp -implicitDefEqProofs only [push_cast, Nat.reduceAdd, Nat.reduceSub, Nat.reduceMul, Nat.reduceLT, Nat.reduceLeDiff, Nat.reduceEqDiff, Nat.reduceBEq, reduceCtorEq, reduceIte, Int.reduceLE, Int.reduceLT, Int.reduceNeg, Int.reduceToNat, encQ, Int.reduceEq, if_false, if_true, or_true, or_false, true_or, false_or, List.map_cons, List.map_nil, List.length_cons, List.length_nil, Int.reduceAdd]
      exact fun h1 h2 => by rw [h1, decide_eq_true h2]; rfl
end
section
attribute [local push_cast] encPl_mk encPl_take encPl_len encPl_one encPls_pure encPl_pure encT_pure encT_len encT_one encT_take
def stNone : St Unit where
  inv _ _ B := B = fun _ => False
  stable := by rintro s H H' B rfl _ _; rfl
  low := by rintro s H B rfl q hq; exact hq.elim
def allStep (f : Pl → Bool) (s : Unit) (p : Pl) : Unit × Bool := ((), f p)
mutual
theorem eachP_all (f : Pl → Bool) : ∀ (p : Pl) (s : Unit), (eachP (allStep f) p s).2 = (parts p).all f
  | .mk op occ a b l, s => by
    rw [eachP, parts_mk, List.all_cons]
    have h := eachPL_all f l ()
    by_cases hf : f (.mk op occ a b l) = true
    · simp only [allStep, hf, if_true, Bool.true_and]; exact h
    · rw [Bool.not_eq_true] at hf
      simp [allStep, hf]
theorem eachPL_all (f : Pl → Bool) : ∀ (l : List Pl) (s : Unit), (eachPL (allStep f) l s).2 = (partsPl l).all f
  | [], s => by rw [eachPL, partsPl]; rfl
  | x :: l, s => by
    rw [eachPL, partsPl_cons, List.all_append, ← eachP_all f x s]
    cases hx : (eachP (allStep f) x s).2
    · simp
    · rw [if_pos rfl, Bool.true_and]; exact eachPL_all f l _
end
def addStep (f : Pl → Int) (s : List Int) (p : Pl) : List Int × Bool := (s ++ [f p], true)
mutual
theorem eachP_add (f : Pl → Int) : ∀ (p : Pl) (s : List Int), eachP (addStep f) p s = (s ++ (parts p).map f, true)
  | .mk op occ a b l, s => by
    rw [eachP, parts_mk, List.map_cons]
    simp only [addStep, if_true]
    have h := eachPL_add f l (s ++ [f (.mk op occ a b l)])
    rw [h, List.append_assoc]
    rfl
theorem eachPL_add (f : Pl → Int) : ∀ (l : List Pl) (s : List Int), eachPL (addStep f) l s = (s ++ (partsPl l).map f, true)
  | [], s => by rw [eachPL, partsPl, List.map_nil, List.append_nil]
  | x :: l, s => by
    rw [eachPL, partsPl_cons, List.map_append, eachP_add f x s]
    simp only [if_true]
    rw [eachPL_add f l, List.append_assoc]
end
mutual
theorem cntP_parts : ∀ p : Pl, cntP p = (parts p).length
  | .mk op occ a b l => by rw [cntP, parts_mk, List.length_cons, cntPL_parts l]; omega
theorem cntPL_parts : ∀ l : List Pl, cntPL l = (partsPl l).length
  | [] => by rw [cntPL, partsPl]; rfl
  | x :: l => by rw [cntPL, partsPl_cons, List.length_append, cntP_parts x, cntPL_parts l]
end
theorem mayPl1_ok (c : List Df) (hcl : c.length ≤ 1000000) (q : Qy) (hq : q.Ok) (p : Pl) (hp : Pl.good p) (s : Unit) (H : AH) (B : Nat → Prop) (hI : stNone.inv s H B) :
    ACalls Go.Proofs.Tryz.prog 77 [.agg (encPl p), .iptr [.sl (c.map encD)], .iptr (encQ q)] H (fun r H' => r = .bool (allStep (fitP c q) s p).2 ∧ Moves stNone (allStep (fitP c q) s p).1 H B H') := by
  have hF := fits_ok c hcl q hq p hp
  obtain ⟨op, occ, a, b, l⟩ := p
  rw [encPl_mk] at hF
  refine acalls_sc (rs := #[.tmp 4]) Go.Proofs.Tryz.func77 rfl rfl rfl mixed rfl (Nat.le_of_ble_eq_true rfl) fun hs _ => ?_
  simp -implicitDefEqProofs only [push_cast, Nat.reduceAdd, Nat.reduceSub, Nat.reduceMul, Nat.reduceLT, Nat.reduceLeDiff, Nat.reduceEqDiff, Nat.reduceBEq, reduceCtorEq, reduceIte, Int.reduceLE, Int.reduceLT, Int.reduceNeg, Int.reduceToNat, encQ]
  refine callq hF ?_
  simp -implicitDefEqProofs only [push_cast, Nat.reduceAdd, Nat.reduceSub, Nat.reduceMul, Nat.reduceLT, Nat.reduceLeDiff, Nat.reduceEqDiff, Nat.reduceBEq, reduceCtorEq, reduceIte, Int.reduceLE, Int.reduceLT, Int.reduceNeg, Int.reduceToNat, encQ]
  exact retk trivial ⟨rfl, Moves.new hI _⟩
theorem mayP_split {c : List Df} {q : Qy} {p : Pl} (h : mayP c q p = true) : q.may c = true ∧ p.tree.2 = true ∧ (p.few = true ∧ (treeP p).may = true) ∧ (treeP p).set < 2 ^ q.occ.length := by
  unfold mayP at h
  simp only [Bool.and_eq_true, decide_eq_true_eq] at h
  obtain ⟨⟨⟨h1, h2⟩, h3⟩, h4⟩ := h
  refine ⟨h2, h1, ?_, h3⟩
  rw [tree_iff, Bool.and_eq_true] at h1
  exact h1
theorem shr_iff {t : Tr} {n : Nat} (hn : n ≤ 4) : ¬ 0 < bshr .i64 t.set n ↔ t.set < 2 ^ n := by
  have hs := t.set_range
  generalize t.set = s at hs ⊢
  obtain ⟨i, rfl⟩ : ∃ i : Fin 16, s = (i.val : Int) := ⟨⟨s.toNat, by omega⟩, by simp; omega⟩
  obtain ⟨j, rfl⟩ : ∃ j : Fin 5, n = j.val := ⟨⟨n, by omega⟩, rfl⟩
  clear hs hn
  revert i j
  decide +kernel
theorem shr_below {t : Tr} {n : Nat} (h : t.set < 2 ^ n) (hn : n ≤ 4) : ¬ 0 < bshr .i64 t.set n := (shr_iff hn).2 h
theorem below_shr {t : Tr} {n : Nat} (h : ¬ 0 < bshr .i64 t.set n) (hn : n ≤ 4) : t.set < 2 ^ n := (shr_iff hn).1 h
theorem MayPl_ok (c : List Df) (hcl : c.length ≤ 1000000) (q : Qy) (hq : q.Ok) (p : Pl) (hok : p.Ok) : Quiet Go.Proofs.Tryz.prog 35 [.agg [.sl (c.map encD)], .agg (encQ q), .agg (encPl p)] (.bool (mayP c q p)) := by
  have hT := Tree_ok p hok
  have hM := MayQ_ok c hcl q hq
  refine quiet_of (rs := #[.tmp 6]) Go.Proofs.Tryz.func35 rfl rfl rfl mixed rfl rfl fun H hs => ?_
  simp -implicitDefEqProofs only [push_cast, Nat.reduceAdd, Nat.reduceSub, Nat.reduceMul, Nat.reduceLT, Nat.reduceLeDiff, Nat.reduceEqDiff, Nat.reduceBEq, reduceCtorEq, reduceIte, Int.reduceLE, Int.reduceLT, Int.reduceNeg, Int.reduceToNat, encQ]
  refine callq hT ?_
  simp -implicitDefEqProofs only [push_cast, Nat.reduceAdd, Nat.reduceSub, Nat.reduceMul, Nat.reduceLT, Nat.reduceLeDiff, Nat.reduceEqDiff, Nat.reduceBEq, reduceCtorEq, reduceIte, Int.reduceLE, Int.reduceLT, Int.reduceNeg, Int.reduceToNat, encQ]
  refine areg_at 17 (by kernel_rfl) (by kernel_rfl) ?_
  simp -implicitDefEqProofs only [push_cast, Nat.reduceAdd, Nat.reduceSub, Nat.reduceMul, Nat.reduceLT, Nat.reduceLeDiff, Nat.reduceEqDiff, Nat.reduceBEq, reduceCtorEq, reduceIte, Int.reduceLE, Int.reduceLT, Int.reduceNeg, Int.reduceToNat, encQ]
  refine gcallq (.bool (q.may c)) (fun _ => hM) ?_
  simp -implicitDefEqProofs only [push_cast, Nat.reduceAdd, Nat.reduceSub, Nat.reduceMul, Nat.reduceLT, Nat.reduceLeDiff, Nat.reduceEqDiff, Nat.reduceBEq, reduceCtorEq, reduceIte, Int.reduceLE, Int.reduceLT, Int.reduceNeg, Int.reduceToNat, encQ]
  refine gcallq (.int p.tree.1.set) (fun _ => SetT_ok _ (tree_ok p)) ?_
  simp -implicitDefEqProofs only [push_cast, Nat.reduceAdd, Nat.reduceSub, Nat.reduceMul, Nat.reduceLT, Nat.reduceLeDiff, Nat.reduceEqDiff, Nat.reduceBEq, reduceCtorEq, reduceIte, Int.reduceLE, Int.reduceLT, Int.reduceNeg, Int.reduceToNat, encQ]
  refine ⟨fun _ => by omega, fun h => ?_, fun h => ?_⟩
  · cases hm : mayP c q p
    · rfl
    have h1 := mayP_split hm
    rw [tree_1 h1.2.1, h1.2.1, h1.1] at h
    have := shr_below h1.2.2.2 (may_split h1.1).2.2.1
    simp only [Bool.not_true, Bool.false_or, decide_eq_true_eq] at h
    exact absurd h this
  simp only [Bool.or_eq_false_iff, Bool.not_eq_false', decide_eq_false_iff_not] at h
  obtain ⟨⟨ht, hm⟩, hb⟩ := h
  have hfm : p.few = true ∧ (treeP p).may = true := by rw [tree_iff, Bool.and_eq_true] at ht; exact ht
  rw [tree_1 ht] at hb
  have hv : mayP c q p = (parts p).all (fitP c q) := by
    rw [mayP, ht, hm, decide_eq_true (below_shr hb (may_split hm).2.2.1)]
    rfl
  rw [hv, ← eachP_all (fitP c q) p ()]
  refine fzk H 0 1 [.agg (encPl p), .clo (.func 77) [] [.iptr [.sl (c.map encD)], .ptr (H.nxt + 1) 6 0 0]] (by rfl) (by omega) (by simp) ?_ ?_
  · (try simp -implicitDefEqProofs only [push_cast, Nat.reduceAdd, Nat.reduceSub, Nat.reduceMul, Nat.reduceLT, Nat.reduceLeDiff, Nat.reduceEqDiff, Nat.reduceBEq, reduceCtorEq, reduceIte, Int.reduceLE, Int.reduceLT, Int.reduceNeg, Int.reduceToNat, encDs_pure])
  refine fzk H 1 1 [.agg (encPl p), .clo (.func 77) [] [.iptr [.sl (c.map encD)], .iptr (encQ q)]] (by rfl) (by omega) (by simp) ?_ ?_
  · (try simp -implicitDefEqProofs only [push_cast, Nat.reduceAdd, Nat.reduceSub, Nat.reduceMul, Nat.reduceLT, Nat.reduceLeDiff, Nat.reduceEqDiff, Nat.reduceBEq, reduceCtorEq, reduceIte, Int.reduceLE, Int.reduceLT, Int.reduceNeg, Int.reduceToNat, encDs_pure, encIs_pure, encEs_pure, encQ])
  refine ((eachQ_ok Pl.good (fun e h => h.1) (fun _ _ _ _ _ h => good_part h) stNone (allStep (fitP c q)) _ [.iptr [.sl (c.map encD)], .iptr (encQ q)] (fun _ => 0) (fun _ _ => by omega) (cntP p) (fun s e H B he _ hI => mayPl1_ok c hcl q hq e he s H B hI) p () _ (fun _ => False) ⟨hok, hfm⟩ (by omega) rfl).hsc).mono ?_
  rintro r H2 ⟨⟨rfl, hm⟩, hsc2, hle2, -⟩
  obtain ⟨l', rfl⟩ := hm.is_plus (fun q hq => hq.elim) hsc2
  simp -implicitDefEqProofs only [push_cast, Nat.reduceAdd, Nat.reduceSub, Nat.reduceMul, Nat.reduceLT, Nat.reduceLeDiff, Nat.reduceEqDiff, Nat.reduceBEq, reduceCtorEq, reduceIte, Int.reduceLE, Int.reduceLT, Int.reduceNeg, Int.reduceToNat]
set_option maxHeartbeats 4000000 in
theorem partCost_ok (c : List Df) (hcl : c.length ≤ 1000000) (q : Qy) (hq : q.Ok) (p : Pl) (hp : Pl.good p) : Quiet Go.Proofs.Tryz.prog 80 [.agg (encPl p), .agg [.sl (c.map encD)], .agg (encQ q)] (.int (ownC c q p)) := by
  obtain ⟨op, occ, a, b, l⟩ := p
  have hsub := good_part hp
  have hSp := partSet_ok _ (few_forms hp.2.1)
  rcases form_split (few_own hp.2.1) with ⟨rfl, rfl⟩ | ⟨rfl, x, rfl⟩ | ⟨hop, x, y, rfl⟩
  · have hlf := leaf_in hp.2.2
    refine quiet_of (rs := #[.tmp 6]) Go.Proofs.Tryz.func80 rfl rfl rfl mixed rfl rfl fun H hs => ?_
    simp -implicitDefEqProofs only [push_cast, Nat.reduceAdd, Nat.reduceSub, Nat.reduceMul, Nat.reduceLT, Nat.reduceLeDiff, Nat.reduceEqDiff, Nat.reduceBEq, reduceCtorEq, reduceIte, Int.reduceLE, Int.reduceLT, Int.reduceNeg, Int.reduceToNat, encQ, Int.reduceEq, if_false, if_true, or_true, or_false, true_or, false_or, List.map_cons, List.map_nil, List.length_cons, List.length_nil, Int.reduceAdd]
    refine callq (Base_ok c hcl q hq occ (by unfold In64; omega)) ?_
    simp -implicitDefEqProofs only [push_cast, Nat.reduceAdd, Nat.reduceSub, Nat.reduceMul, Nat.reduceLT, Nat.reduceLeDiff, Nat.reduceEqDiff, Nat.reduceBEq, reduceCtorEq, reduceIte, Int.reduceLE, Int.reduceLT, Int.reduceNeg, Int.reduceToNat, encQ, Int.reduceEq, if_false, if_true, or_true, or_false, true_or, false_or, List.map_cons, List.map_nil, List.length_cons, List.length_nil, Int.reduceAdd]
    refine callq (ScanK_ok _) ?_
    simp -implicitDefEqProofs only [push_cast, Nat.reduceAdd, Nat.reduceSub, Nat.reduceMul, Nat.reduceLT, Nat.reduceLeDiff, Nat.reduceEqDiff, Nat.reduceBEq, reduceCtorEq, reduceIte, Int.reduceLE, Int.reduceLT, Int.reduceNeg, Int.reduceToNat, encQ, Int.reduceEq, if_false, if_true, or_true, or_false, true_or, false_or, List.map_cons, List.map_nil, List.length_cons, List.length_nil, Int.reduceAdd, ownC]
  · have hv : ownC c q (.mk 4 occ a b [x]) = sortK (rowsQ c q (treeP (.mk 4 occ a b [x])).set) := by rw [treeP]; rfl
    rw [hv]
    rw [encPl_mk] at hSp
    refine quiet_of (rs := #[.tmp 6]) Go.Proofs.Tryz.func80 rfl rfl rfl mixed rfl rfl fun H hs => ?_
    simp -implicitDefEqProofs only [push_cast, Nat.reduceAdd, Nat.reduceSub, Nat.reduceMul, Nat.reduceLT, Nat.reduceLeDiff, Nat.reduceEqDiff, Nat.reduceBEq, reduceCtorEq, reduceIte, Int.reduceLE, Int.reduceLT, Int.reduceNeg, Int.reduceToNat, encQ, Int.reduceEq, if_false, if_true, or_true, or_false, true_or, false_or, List.map_cons, List.map_nil, List.length_cons, List.length_nil, Int.reduceAdd]
    refine areg_at 7 (by kernel_rfl) (by kernel_rfl) ?_
    simp -implicitDefEqProofs only [push_cast, Nat.reduceAdd, Nat.reduceSub, Nat.reduceMul, Nat.reduceLT, Nat.reduceLeDiff, Nat.reduceEqDiff, Nat.reduceBEq, reduceCtorEq, reduceIte, Int.reduceLE, Int.reduceLT, Int.reduceNeg, Int.reduceToNat, encQ, Int.reduceEq, if_false, if_true, or_true, or_false, true_or, false_or, List.map_cons, List.map_nil, List.length_cons, List.length_nil, Int.reduceAdd]
    refine ahdq hSp ?_
    simp -implicitDefEqProofs only [push_cast, Nat.reduceAdd, Nat.reduceSub, Nat.reduceMul, Nat.reduceLT, Nat.reduceLeDiff, Nat.reduceEqDiff, Nat.reduceBEq, reduceCtorEq, reduceIte, Int.reduceLE, Int.reduceLT, Int.reduceNeg, Int.reduceToNat, encQ, Int.reduceEq, if_false, if_true, or_true, or_false, true_or, false_or, List.map_cons, List.map_nil, List.length_cons, List.length_nil, Int.reduceAdd]
    refine ahdq (Rows_ok c hcl q hq _) ?_
    simp -implicitDefEqProofs only [push_cast, Nat.reduceAdd, Nat.reduceSub, Nat.reduceMul, Nat.reduceLT, Nat.reduceLeDiff, Nat.reduceEqDiff, Nat.reduceBEq, reduceCtorEq, reduceIte, Int.reduceLE, Int.reduceLT, Int.reduceNeg, Int.reduceToNat, encQ, Int.reduceEq, if_false, if_true, or_true, or_false, true_or, false_or, List.map_cons, List.map_nil, List.length_cons, List.length_nil, Int.reduceAdd]
    refine ahdq (SortK_ok _) ?_
    simp -implicitDefEqProofs only [push_cast, Nat.reduceAdd, Nat.reduceSub, Nat.reduceMul, Nat.reduceLT, Nat.reduceLeDiff, Nat.reduceEqDiff, Nat.reduceBEq, reduceCtorEq, reduceIte, Int.reduceLE, Int.reduceLT, Int.reduceNeg, Int.reduceToNat, encQ, Int.reduceEq, if_false, if_true, or_true, or_false, true_or, false_or, List.map_cons, List.map_nil, List.length_cons, List.length_nil, Int.reduceAdd]
  · have hx := hsub x (by simp)
    have hy := hsub y (by simp)
    have hSx := partSet_ok x (few_forms hx.2.1)
    have hSy := partSet_ok y (few_forms hy.2.1)
    have hg0 : ∀ z : List AV, ([x, y].map encPl).getD 0 z = encPl x := fun _ => rfl
    have hg1 : ∀ z : List AV, ([x, y].map encPl).getD 1 z = encPl y := fun _ => rfl
    have hPr := prices_ok op
    refine quiet_of (rs := #[.tmp 6]) Go.Proofs.Tryz.func80 rfl rfl rfl mixed rfl rfl fun H hs => ?_
    rcases hop with rfl | rfl | rfl
    · simp -implicitDefEqProofs only [push_cast, Nat.reduceAdd, Nat.reduceSub, Nat.reduceMul, Nat.reduceLT, Nat.reduceLeDiff, Nat.reduceEqDiff, Nat.reduceBEq, reduceCtorEq, reduceIte, Int.reduceLE, Int.reduceLT, Int.reduceNeg, Int.reduceToNat, encQ, Int.reduceEq, if_false, if_true, or_true, or_false, true_or, false_or, List.map_cons, List.map_nil, List.length_cons, List.length_nil, Int.reduceAdd]
      refine areg_at 16 (by kernel_rfl) (by kernel_rfl) ?_
      simp -implicitDefEqProofs only [push_cast, Nat.reduceAdd, Nat.reduceSub, Nat.reduceMul, Nat.reduceLT, Nat.reduceLeDiff, Nat.reduceEqDiff, Nat.reduceBEq, reduceCtorEq, reduceIte, Int.reduceLE, Int.reduceLT, Int.reduceNeg, Int.reduceToNat, encQ, Int.reduceEq, if_false, if_true, or_true, or_false, true_or, false_or, List.map_cons, List.map_nil, List.length_cons, List.length_nil, Int.reduceAdd]
      refine areg_at 17 (by kernel_rfl) (by kernel_rfl) ?_
      simp -implicitDefEqProofs only [push_cast, Nat.reduceAdd, Nat.reduceSub, Nat.reduceMul, Nat.reduceLT, Nat.reduceLeDiff, Nat.reduceEqDiff, Nat.reduceBEq, reduceCtorEq, reduceIte, Int.reduceLE, Int.reduceLT, Int.reduceNeg, Int.reduceToNat, encQ, Int.reduceEq, if_false, if_true, or_true, or_false, true_or, false_or, List.map_cons, List.map_nil, List.length_cons, List.length_nil, Int.reduceAdd]
      refine ahdq hPr ?_
      simp -implicitDefEqProofs only [push_cast, Nat.reduceAdd, Nat.reduceSub, Nat.reduceMul, Nat.reduceLT, Nat.reduceLeDiff, Nat.reduceEqDiff, Nat.reduceBEq, reduceCtorEq, reduceIte, Int.reduceLE, Int.reduceLT, Int.reduceNeg, Int.reduceToNat, encQ, Int.reduceEq, if_false, if_true, or_true, or_false, true_or, false_or, List.map_cons, List.map_nil, List.length_cons, List.length_nil, Int.reduceAdd]
      refine ahdq hSx ?_
      simp -implicitDefEqProofs only [push_cast, Nat.reduceAdd, Nat.reduceSub, Nat.reduceMul, Nat.reduceLT, Nat.reduceLeDiff, Nat.reduceEqDiff, Nat.reduceBEq, reduceCtorEq, reduceIte, Int.reduceLE, Int.reduceLT, Int.reduceNeg, Int.reduceToNat, encQ, Int.reduceEq, if_false, if_true, or_true, or_false, true_or, false_or, List.map_cons, List.map_nil, List.length_cons, List.length_nil, Int.reduceAdd]
      refine ahdq (Rows_ok c hcl q hq _) ?_
      simp -implicitDefEqProofs only [push_cast, Nat.reduceAdd, Nat.reduceSub, Nat.reduceMul, Nat.reduceLT, Nat.reduceLeDiff, Nat.reduceEqDiff, Nat.reduceBEq, reduceCtorEq, reduceIte, Int.reduceLE, Int.reduceLT, Int.reduceNeg, Int.reduceToNat, encQ, Int.reduceEq, if_false, if_true, or_true, or_false, true_or, false_or, List.map_cons, List.map_nil, List.length_cons, List.length_nil, Int.reduceAdd]
      refine ahdq hSy ?_
      simp -implicitDefEqProofs only [push_cast, Nat.reduceAdd, Nat.reduceSub, Nat.reduceMul, Nat.reduceLT, Nat.reduceLeDiff, Nat.reduceEqDiff, Nat.reduceBEq, reduceCtorEq, reduceIte, Int.reduceLE, Int.reduceLT, Int.reduceNeg, Int.reduceToNat, encQ, Int.reduceEq, if_false, if_true, or_true, or_false, true_or, false_or, List.map_cons, List.map_nil, List.length_cons, List.length_nil, Int.reduceAdd]
      refine ahdq (Rows_ok c hcl q hq _) ?_
      simp -implicitDefEqProofs only [push_cast, Nat.reduceAdd, Nat.reduceSub, Nat.reduceMul, Nat.reduceLT, Nat.reduceLeDiff, Nat.reduceEqDiff, Nat.reduceBEq, reduceCtorEq, reduceIte, Int.reduceLE, Int.reduceLT, Int.reduceNeg, Int.reduceToNat, encQ, Int.reduceEq, if_false, if_true, or_true, or_false, true_or, false_or, List.map_cons, List.map_nil, List.length_cons, List.length_nil, Int.reduceAdd]
      refine ahdq (NestK_ok _ _) ?_
      simp -implicitDefEqProofs only [push_cast, Nat.reduceAdd, Nat.reduceSub, Nat.reduceMul, Nat.reduceLT, Nat.reduceLeDiff, Nat.reduceEqDiff, Nat.reduceBEq, reduceCtorEq, reduceIte, Int.reduceLE, Int.reduceLT, Int.reduceNeg, Int.reduceToNat, encQ, Int.reduceEq, if_false, if_true, or_true, or_false, true_or, false_or, List.map_cons, List.map_nil, List.length_cons, List.length_nil, Int.reduceAdd, ownC]
    · simp -implicitDefEqProofs only [push_cast, Nat.reduceAdd, Nat.reduceSub, Nat.reduceMul, Nat.reduceLT, Nat.reduceLeDiff, Nat.reduceEqDiff, Nat.reduceBEq, reduceCtorEq, reduceIte, Int.reduceLE, Int.reduceLT, Int.reduceNeg, Int.reduceToNat, encQ, Int.reduceEq, if_false, if_true, or_true, or_false, true_or, false_or, List.map_cons, List.map_nil, List.length_cons, List.length_nil, Int.reduceAdd]
      refine areg_at 16 (by kernel_rfl) (by kernel_rfl) ?_
      simp -implicitDefEqProofs only [push_cast, Nat.reduceAdd, Nat.reduceSub, Nat.reduceMul, Nat.reduceLT, Nat.reduceLeDiff, Nat.reduceEqDiff, Nat.reduceBEq, reduceCtorEq, reduceIte, Int.reduceLE, Int.reduceLT, Int.reduceNeg, Int.reduceToNat, encQ, Int.reduceEq, if_false, if_true, or_true, or_false, true_or, false_or, List.map_cons, List.map_nil, List.length_cons, List.length_nil, Int.reduceAdd]
      refine areg_at 17 (by kernel_rfl) (by kernel_rfl) ?_
      simp -implicitDefEqProofs only [push_cast, Nat.reduceAdd, Nat.reduceSub, Nat.reduceMul, Nat.reduceLT, Nat.reduceLeDiff, Nat.reduceEqDiff, Nat.reduceBEq, reduceCtorEq, reduceIte, Int.reduceLE, Int.reduceLT, Int.reduceNeg, Int.reduceToNat, encQ, Int.reduceEq, if_false, if_true, or_true, or_false, true_or, false_or, List.map_cons, List.map_nil, List.length_cons, List.length_nil, Int.reduceAdd]
      refine ahdq hPr ?_
      simp -implicitDefEqProofs only [push_cast, Nat.reduceAdd, Nat.reduceSub, Nat.reduceMul, Nat.reduceLT, Nat.reduceLeDiff, Nat.reduceEqDiff, Nat.reduceBEq, reduceCtorEq, reduceIte, Int.reduceLE, Int.reduceLT, Int.reduceNeg, Int.reduceToNat, encQ, Int.reduceEq, if_false, if_true, or_true, or_false, true_or, false_or, List.map_cons, List.map_nil, List.length_cons, List.length_nil, Int.reduceAdd]
      refine ahdq hSx ?_
      simp -implicitDefEqProofs only [push_cast, Nat.reduceAdd, Nat.reduceSub, Nat.reduceMul, Nat.reduceLT, Nat.reduceLeDiff, Nat.reduceEqDiff, Nat.reduceBEq, reduceCtorEq, reduceIte, Int.reduceLE, Int.reduceLT, Int.reduceNeg, Int.reduceToNat, encQ, Int.reduceEq, if_false, if_true, or_true, or_false, true_or, false_or, List.map_cons, List.map_nil, List.length_cons, List.length_nil, Int.reduceAdd]
      refine ahdq (Rows_ok c hcl q hq _) ?_
      simp -implicitDefEqProofs only [push_cast, Nat.reduceAdd, Nat.reduceSub, Nat.reduceMul, Nat.reduceLT, Nat.reduceLeDiff, Nat.reduceEqDiff, Nat.reduceBEq, reduceCtorEq, reduceIte, Int.reduceLE, Int.reduceLT, Int.reduceNeg, Int.reduceToNat, encQ, Int.reduceEq, if_false, if_true, or_true, or_false, true_or, false_or, List.map_cons, List.map_nil, List.length_cons, List.length_nil, Int.reduceAdd]
      refine ahdq hSy ?_
      simp -implicitDefEqProofs only [push_cast, Nat.reduceAdd, Nat.reduceSub, Nat.reduceMul, Nat.reduceLT, Nat.reduceLeDiff, Nat.reduceEqDiff, Nat.reduceBEq, reduceCtorEq, reduceIte, Int.reduceLE, Int.reduceLT, Int.reduceNeg, Int.reduceToNat, encQ, Int.reduceEq, if_false, if_true, or_true, or_false, true_or, false_or, List.map_cons, List.map_nil, List.length_cons, List.length_nil, Int.reduceAdd]
      refine ahdq (Rows_ok c hcl q hq _) ?_
      simp -implicitDefEqProofs only [push_cast, Nat.reduceAdd, Nat.reduceSub, Nat.reduceMul, Nat.reduceLT, Nat.reduceLeDiff, Nat.reduceEqDiff, Nat.reduceBEq, reduceCtorEq, reduceIte, Int.reduceLE, Int.reduceLT, Int.reduceNeg, Int.reduceToNat, encQ, Int.reduceEq, if_false, if_true, or_true, or_false, true_or, false_or, List.map_cons, List.map_nil, List.length_cons, List.length_nil, Int.reduceAdd]
      refine ahdq (HashK_ok _ _) ?_
      simp -implicitDefEqProofs only [push_cast, Nat.reduceAdd, Nat.reduceSub, Nat.reduceMul, Nat.reduceLT, Nat.reduceLeDiff, Nat.reduceEqDiff, Nat.reduceBEq, reduceCtorEq, reduceIte, Int.reduceLE, Int.reduceLT, Int.reduceNeg, Int.reduceToNat, encQ, Int.reduceEq, if_false, if_true, or_true, or_false, true_or, false_or, List.map_cons, List.map_nil, List.length_cons, List.length_nil, Int.reduceAdd, ownC]
    · simp -implicitDefEqProofs only [push_cast, Nat.reduceAdd, Nat.reduceSub, Nat.reduceMul, Nat.reduceLT, Nat.reduceLeDiff, Nat.reduceEqDiff, Nat.reduceBEq, reduceCtorEq, reduceIte, Int.reduceLE, Int.reduceLT, Int.reduceNeg, Int.reduceToNat, encQ, Int.reduceEq, if_false, if_true, or_true, or_false, true_or, false_or, List.map_cons, List.map_nil, List.length_cons, List.length_nil, Int.reduceAdd]
      refine areg_at 16 (by kernel_rfl) (by kernel_rfl) ?_
      simp -implicitDefEqProofs only [push_cast, Nat.reduceAdd, Nat.reduceSub, Nat.reduceMul, Nat.reduceLT, Nat.reduceLeDiff, Nat.reduceEqDiff, Nat.reduceBEq, reduceCtorEq, reduceIte, Int.reduceLE, Int.reduceLT, Int.reduceNeg, Int.reduceToNat, encQ, Int.reduceEq, if_false, if_true, or_true, or_false, true_or, false_or, List.map_cons, List.map_nil, List.length_cons, List.length_nil, Int.reduceAdd]
      refine areg_at 17 (by kernel_rfl) (by kernel_rfl) ?_
      simp -implicitDefEqProofs only [push_cast, Nat.reduceAdd, Nat.reduceSub, Nat.reduceMul, Nat.reduceLT, Nat.reduceLeDiff, Nat.reduceEqDiff, Nat.reduceBEq, reduceCtorEq, reduceIte, Int.reduceLE, Int.reduceLT, Int.reduceNeg, Int.reduceToNat, encQ, Int.reduceEq, if_false, if_true, or_true, or_false, true_or, false_or, List.map_cons, List.map_nil, List.length_cons, List.length_nil, Int.reduceAdd]
      refine ahdq hPr ?_
      simp -implicitDefEqProofs only [push_cast, Nat.reduceAdd, Nat.reduceSub, Nat.reduceMul, Nat.reduceLT, Nat.reduceLeDiff, Nat.reduceEqDiff, Nat.reduceBEq, reduceCtorEq, reduceIte, Int.reduceLE, Int.reduceLT, Int.reduceNeg, Int.reduceToNat, encQ, Int.reduceEq, if_false, if_true, or_true, or_false, true_or, false_or, List.map_cons, List.map_nil, List.length_cons, List.length_nil, Int.reduceAdd]
      refine ahdq hSx ?_
      simp -implicitDefEqProofs only [push_cast, Nat.reduceAdd, Nat.reduceSub, Nat.reduceMul, Nat.reduceLT, Nat.reduceLeDiff, Nat.reduceEqDiff, Nat.reduceBEq, reduceCtorEq, reduceIte, Int.reduceLE, Int.reduceLT, Int.reduceNeg, Int.reduceToNat, encQ, Int.reduceEq, if_false, if_true, or_true, or_false, true_or, false_or, List.map_cons, List.map_nil, List.length_cons, List.length_nil, Int.reduceAdd]
      refine ahdq (Rows_ok c hcl q hq _) ?_
      simp -implicitDefEqProofs only [push_cast, Nat.reduceAdd, Nat.reduceSub, Nat.reduceMul, Nat.reduceLT, Nat.reduceLeDiff, Nat.reduceEqDiff, Nat.reduceBEq, reduceCtorEq, reduceIte, Int.reduceLE, Int.reduceLT, Int.reduceNeg, Int.reduceToNat, encQ, Int.reduceEq, if_false, if_true, or_true, or_false, true_or, false_or, List.map_cons, List.map_nil, List.length_cons, List.length_nil, Int.reduceAdd]
      refine ahdq hSy ?_
      simp -implicitDefEqProofs only [push_cast, Nat.reduceAdd, Nat.reduceSub, Nat.reduceMul, Nat.reduceLT, Nat.reduceLeDiff, Nat.reduceEqDiff, Nat.reduceBEq, reduceCtorEq, reduceIte, Int.reduceLE, Int.reduceLT, Int.reduceNeg, Int.reduceToNat, encQ, Int.reduceEq, if_false, if_true, or_true, or_false, true_or, false_or, List.map_cons, List.map_nil, List.length_cons, List.length_nil, Int.reduceAdd]
      refine ahdq (Rows_ok c hcl q hq _) ?_
      simp -implicitDefEqProofs only [push_cast, Nat.reduceAdd, Nat.reduceSub, Nat.reduceMul, Nat.reduceLT, Nat.reduceLeDiff, Nat.reduceEqDiff, Nat.reduceBEq, reduceCtorEq, reduceIte, Int.reduceLE, Int.reduceLT, Int.reduceNeg, Int.reduceToNat, encQ, Int.reduceEq, if_false, if_true, or_true, or_false, true_or, false_or, List.map_cons, List.map_nil, List.length_cons, List.length_nil, Int.reduceAdd]
      refine ahdq (MergeK_ok _ _) ?_
      simp -implicitDefEqProofs only [push_cast, Nat.reduceAdd, Nat.reduceSub, Nat.reduceMul, Nat.reduceLT, Nat.reduceLeDiff, Nat.reduceEqDiff, Nat.reduceBEq, reduceCtorEq, reduceIte, Int.reduceLE, Int.reduceLT, Int.reduceNeg, Int.reduceToNat, encQ, Int.reduceEq, if_false, if_true, or_true, or_false, true_or, false_or, List.map_cons, List.map_nil, List.length_cons, List.length_nil, Int.reduceAdd, ownC]
end
section
attribute [local push_cast] encPl_mk encPl_take encPl_len encPl_one encPls_pure encPl_pure encT_pure encT_len encT_one encT_take
theorem cost1_ok (c : List Df) (hcl : c.length ≤ 1000000) (q : Qy) (hq : q.Ok) (i : Nat) (p : Pl) (hp : Pl.good p) (s : List Int) (H : AH) (B : Nat → Prop) (hs1 : s.length < 1000000) (hI : (stRow i).inv s H B) :
    ACalls Go.Proofs.Tryz.prog 79 [.agg (encPl p), .ptr i 1 0 0, .iptr [.sl (c.map encD)], .iptr (encQ q)] H (fun r H' => r = .bool (addStep (ownC c q) s p).2 ∧ Moves (stRow i) (addStep (ownC c q) s p).1 H B H') := by
  have hC := partCost_ok c hcl q hq p hp
  have hpl := encPl_len p
  refine acalls_sc (rs := #[.tmp 5]) Go.Proofs.Tryz.func79 rfl rfl rfl mixed rfl (Nat.le_of_ble_eq_true rfl) fun hs _ => ?_
  have hIc := hI
  rcases hI with ⟨rfl, h2, h3, rfl⟩ | ⟨j, h1, h2, h3, h4, h5, rfl⟩
  · have hob : ∀ l, (H.plus l).obj i = some (.cells 1 [[.nilS]] 0) := fun l => by rw [plus_low H l h2]; exact h3
    have hset : ∀ l o, (H.plus l).set i o = (H.set i o).plus l := fun l o => plus_setlow H l h2 o
    simp -implicitDefEqProofs only [push_cast, Nat.reduceAdd, Nat.reduceSub, Nat.reduceMul, Nat.reduceLT, Nat.reduceLeDiff, Nat.reduceEqDiff, Nat.reduceBEq, reduceCtorEq, reduceIte, Int.reduceLE, Int.reduceLT, Int.reduceNeg, Int.reduceToNat, hob, hset, encQ]
    refine areg_grow [some (.cells 5 [encPl p] 0)] 7 ?_ (by kernel_rfl) (by kernel_rfl) (by kernel_rfl) ?_
    · intro j o hj
      exact hj
    simp -implicitDefEqProofs only [push_cast, Nat.reduceAdd, Nat.reduceSub, Nat.reduceMul, Nat.reduceLT, Nat.reduceLeDiff, Nat.reduceEqDiff, Nat.reduceBEq, reduceCtorEq, reduceIte, Int.reduceLE, Int.reduceLT, Int.reduceNeg, Int.reduceToNat, hob, hset, encQ]
    refine ⟨_, hC, ?_⟩
    simp -implicitDefEqProofs only [push_cast, Nat.reduceAdd, Nat.reduceSub, Nat.reduceMul, Nat.reduceLT, Nat.reduceLeDiff, Nat.reduceEqDiff, Nat.reduceBEq, reduceCtorEq, reduceIte, Int.reduceLE, Int.reduceLT, Int.reduceNeg, Int.reduceToNat, hob, hset, encQ]
    refine retk trivial ⟨rfl, ?_⟩
    simp only [addStep, List.nil_append]
    refine stRow_push rfl rfl (fun q hq hb => ?_) h2 1 rfl ?_
    · show (if q = i then _ else H.obj q) = _
      rw [if_neg hb]
    · show (if i = i then _ else H.obj i) = _
      rw [if_pos rfl]
      rfl
  · have hob : ∀ l, (H.plus l).obj i = some (.cells 1 [[.rsl j 1 0 s.length]] 0) := fun l => by rw [plus_low H l h2]; exact h4
    have hoj : ∀ l, (H.plus l).obj j = some (.cells 1 (rowI s) 0) := fun l => by rw [plus_low H l h3]; exact h5
    have hdel : ∀ l, (H.plus l).del j = (H.del j).plus l := fun l => plus_dellow H l h3
    have hob2 : ∀ l, ((H.del j).plus l).obj i = some (.cells 1 [[.rsl j 1 0 s.length]] 0) := fun l => by
      rw [plus_low (H.del j) l h2]
      show (if i = j then none else H.obj i) = _
      rw [if_neg (Ne.symm h1), h4]
    have hoj2 : ∀ l, ((H.del j).plus l).obj j = none := fun l => by
      rw [plus_low (H.del j) l h3]
      show (if j = j then none else H.obj j) = _
      rw [if_pos rfl]
    have hpo : ∀ l k, ((H.del j).plus l).obj (H.nxt + k) = (l[k]?).join := fun l k => plus_obj (H.del j) l k
    have hset2 : ∀ l o, ((H.del j).plus l).set i o = ((H.del j).set i o).plus l := fun l o => plus_setlow (H.del j) l h2 o
    simp -implicitDefEqProofs only [push_cast, Nat.reduceAdd, Nat.reduceSub, Nat.reduceMul, Nat.reduceLT, Nat.reduceLeDiff, Nat.reduceEqDiff, Nat.reduceBEq, reduceCtorEq, reduceIte, Int.reduceLE, Int.reduceLT, Int.reduceNeg, Int.reduceToNat, hob, hoj, hdel, hob2, hset2, del_nxt, encQ]
    refine .inl (aregE_chain ((H.del j).plus [some (.cells 5 [encPl p] 0)]) 7 (by kernel_rfl) (by kernel_rfl) (by kernel_rfl) (fun k o hk => ?_) ?_)
    · rw [← hdel] at hk
      change (if k = j then none else _) = _ at hk
      split at hk
      · cases hk
      · exact hk
    simp -implicitDefEqProofs only [push_cast, Nat.reduceAdd, Nat.reduceSub, Nat.reduceMul, Nat.reduceLT, Nat.reduceLeDiff, Nat.reduceEqDiff, Nat.reduceBEq, reduceCtorEq, reduceIte, Int.reduceLE, Int.reduceLT, Int.reduceNeg, Int.reduceToNat, hob, hoj, hdel, hob2, hoj2, hset2, hpo, del_nxt, encQ]
    refine ⟨_, hC, ?_⟩
    simp -implicitDefEqProofs only [push_cast, Nat.reduceAdd, Nat.reduceSub, Nat.reduceMul, Nat.reduceLT, Nat.reduceLeDiff, Nat.reduceEqDiff, Nat.reduceBEq, reduceCtorEq, reduceIte, Int.reduceLE, Int.reduceLT, Int.reduceNeg, Int.reduceToNat, hob, hoj, hdel, hob2, hoj2, hset2, hpo, del_nxt, encQ]
    refine ⟨by omega, retk trivial ⟨rfl, ?_⟩⟩
    simp only [addStep]
    refine stRow_push rfl (.inl rfl) (fun q hq hb => ?_) h2 1 ?_ ?_
    · show (if q = i then _ else (if q = j then none else H.obj q)) = _
      rw [if_neg (fun e => hb (.inl e)), if_neg (fun e => hb (.inr e))]
    · simp only [List.getElem?_cons_succ, List.getElem?_cons_zero]
      rw [List.take_of_length_le (by simp [rowI]), rowI, rowI, List.map_append]
      rfl
    · show (if i = i then _ else _) = _
      rw [if_pos rfl, List.length_append]
      rfl
theorem CostPl_ok (c : List Df) (hcl : c.length ≤ 1000000) (q : Qy) (hq : q.Ok) (p : Pl) (hok : p.Ok) : Quiet Go.Proofs.Tryz.prog 38 [.agg [.sl (c.map encD)], .agg (encQ q), .agg (encPl p)] (.int (costP c q p)) := by
  have hM := MayPl_ok c hcl q hq p hok
  unfold costP
  refine quiet_of (rs := #[.tmp 6]) Go.Proofs.Tryz.func38 rfl rfl rfl mixed rfl rfl fun H hs => ?_
  simp -implicitDefEqProofs only [push_cast, Nat.reduceAdd, Nat.reduceSub, Nat.reduceMul, Nat.reduceLT, Nat.reduceLeDiff, Nat.reduceEqDiff, Nat.reduceBEq, reduceCtorEq, reduceIte, Int.reduceLE, Int.reduceLT, Int.reduceNeg, Int.reduceToNat, encQ]
  refine callq hM ?_
  cases hm : mayP c q p
  · simp -implicitDefEqProofs only [push_cast, Nat.reduceAdd, Nat.reduceSub, Nat.reduceMul, Nat.reduceLT, Nat.reduceLeDiff, Nat.reduceEqDiff, Nat.reduceBEq, reduceCtorEq, reduceIte, Int.reduceLE, Int.reduceLT, Int.reduceNeg, Int.reduceToNat, encQ, Bool.false_eq_true, if_false, capK]
  have h1 := mayP_split hm
  have hgood : Pl.good p := ⟨hok, h1.2.2.1⟩
  have hpl : (parts p).length ≤ 20 := by
    have := h1.2.2.1.1
    unfold Pl.few at this
    simp only [Bool.and_eq_true, decide_eq_true_eq] at this
    exact this.1
  have hpp : 1 ≤ (parts p).length := by obtain ⟨op, occ, a, b, l⟩ := p; rw [parts_mk]; simp
  have hA := AddK_ok ((parts p).map (ownC c q)) (by rw [List.length_map]; omega)
  have hst := eachP_add (ownC c q) p []
  rw [List.nil_append] at hst
  simp -implicitDefEqProofs only [push_cast, Nat.reduceAdd, Nat.reduceSub, Nat.reduceMul, Nat.reduceLT, Nat.reduceLeDiff, Nat.reduceEqDiff, Nat.reduceBEq, reduceCtorEq, reduceIte, Int.reduceLE, Int.reduceLT, Int.reduceNeg, Int.reduceToNat, encQ, if_true]
  refine fzk H 0 1 [.agg (encPl p), .clo (.func 79) [] [.ptr (H.nxt + 3) 1 0 0, .iptr [.sl (c.map encD)], .ptr (H.nxt + 1) 6 0 0]] (by rfl) (by omega) (by simp) ?_ ?_
  · (try simp -implicitDefEqProofs only [push_cast, Nat.reduceAdd, Nat.reduceSub, Nat.reduceMul, Nat.reduceLT, Nat.reduceLeDiff, Nat.reduceEqDiff, Nat.reduceBEq, reduceCtorEq, reduceIte, Int.reduceLE, Int.reduceLT, Int.reduceNeg, Int.reduceToNat, encDs_pure])
  refine fzk H 1 1 [.agg (encPl p), .clo (.func 79) [] [.ptr (H.nxt + 3) 1 0 0, .iptr [.sl (c.map encD)], .iptr (encQ q)]] (by rfl) (by omega) (by simp) ?_ ?_
  · (try simp -implicitDefEqProofs only [push_cast, Nat.reduceAdd, Nat.reduceSub, Nat.reduceMul, Nat.reduceLT, Nat.reduceLeDiff, Nat.reduceEqDiff, Nat.reduceBEq, reduceCtorEq, reduceIte, Int.reduceLE, Int.reduceLT, Int.reduceNeg, Int.reduceToNat, encDs_pure, encIs_pure, encEs_pure, encQ])
  refine ((eachQ_ok Pl.good (fun e h => h.1) (fun _ _ _ _ _ h => good_part h) (stRow (H.nxt + 3)) (addStep (ownC c q)) _ [.ptr (H.nxt + 3) 1 0 0, .iptr [.sl (c.map encD)], .iptr (encQ q)] List.length (fun _ _ => by simp [addStep]) 1000000 (fun s e H B he hw hI => cost1_ok c hcl q hq _ e he s H B hw hI) p [] _ (fun q => q = H.nxt + 3) hgood (by rw [cntP_parts]; simp; omega) (.inl ⟨rfl, by simp [plus_nxt], by rw [plus_obj]; rfl, rfl⟩)).hsc).mono ?_
  rintro r H2 ⟨⟨rfl, hm⟩, hsc2, hle2, -⟩
  rw [hst] at hm ⊢
  obtain ⟨l', rfl⟩ := hm.is_plus (fun q hq => by omega) hsc2
  obtain ⟨hm1, hm2, B', hB', hBB⟩ := hm
  rcases hB' with ⟨hnil, _, hv, rfl⟩ | ⟨j, hj1, hj2, hj3, hv, hrow, rfl⟩
  · have : ((parts p).map (ownC c q)).length = 0 := by dsimp only at hnil; rw [hnil]; rfl
    rw [List.length_map] at this
    omega
  have hjn : H.nxt ≤ j := by
    rcases hBB j (.inr rfl) with h1 | h1
    · omega
    · rw [plus_nxt] at h1; omega
  obtain ⟨k, rfl⟩ : ∃ k, j = H.nxt + k := ⟨j - H.nxt, by omega⟩
  have hkl : k < l'.length := by rw [plus_nxt] at hj3; omega
  rw [plus_obj] at hv hrow
  simp -implicitDefEqProofs only [push_cast, Nat.reduceAdd, Nat.reduceSub, Nat.reduceMul, Nat.reduceLT, Nat.reduceLeDiff, Nat.reduceEqDiff, Nat.reduceBEq, reduceCtorEq, reduceIte, Int.reduceLE, Int.reduceLT, Int.reduceNeg, Int.reduceToNat, hv, hrow]
  have hk : l'[k]? = some (some (.cells 1 (rowI ((parts p).map (ownC c q))) 0)) := by
    cases hx : l'[k]? with
    | none => rw [hx] at hrow; cases hrow
    | some x => rw [hx] at hrow; simp only [Option.join_some] at hrow; rw [hrow]
  have htk : List.take (parts p).length (rowI ((parts p).map (ownC c q))) = ((parts p).map (ownC c q)).map encI := List.take_of_length_le (by simp [rowI])
  refine fzk H k (parts p).length [.sl (((parts p).map (ownC c q)).map encI)] hk (by omega) (by simp [rowI]) ?_ ?_
  · (try simp -implicitDefEqProofs only [push_cast, Nat.reduceAdd, Nat.reduceSub, Nat.reduceMul, Nat.reduceLT, Nat.reduceLeDiff, Nat.reduceEqDiff, Nat.reduceBEq, reduceCtorEq, reduceIte, Int.reduceLE, Int.reduceLT, Int.reduceNeg, Int.reduceToNat, hrow, htk, encIs_pure])
    rw [List.getElem?_set_self hkl]
    exact Nat.le_refl (parts p).length
  refine callq hA ?_
  simp -implicitDefEqProofs only [push_cast, Nat.reduceAdd, Nat.reduceSub, Nat.reduceMul, Nat.reduceLT, Nat.reduceLeDiff, Nat.reduceEqDiff, Nat.reduceBEq, reduceCtorEq, reduceIte, Int.reduceLE, Int.reduceLT, Int.reduceNeg, Int.reduceToNat]
end
section
attribute [local push_cast] encPl_mk encPl_take encPl_len encPl_one encPls_pure encPl_pure encT_pure encT_len encT_one encT_take
def encW (p : Pl) (e : Int) (s : Bool) : List AV := encPl p ++ [.int e, .bool s]
theorem encW_mk (op occ a b : Int) (l : List Pl) (e : Int) (s : Bool) : encW (.mk op occ a b l) e s = [.int op, .int occ, .int a, .int b, .sl (l.map encPl), .int e, .bool s] := by rw [encW, encPl_mk]; rfl
def endP (q : Qy) (o e : Int) (s : Bool) : Bool := decide (0 ≤ e) && decide (e < 3) && (decide (e = 0) == decide (q.by_ = -1)) &&
  (if s then decide (q.ord ≠ -1) && decide (e = 1) else if e = 2 then decide (o = q.by_) else if q.ord ≠ -1 then decide (e = 0) && decide (o = q.ord) else true)
def fineP (c : List Df) (q : Qy) (p : Pl) (e : Int) (s : Bool) : Bool := mayP c q p && decide ((treeP p).set = 2 ^ q.occ.length - 1) && endP q p.order e s
def allL (c : List Df) (q : Qy) (p : Pl) (e : Int) (s : Bool) : List Int := [costP c q p] ++ (if e = 0 then [] else [groupK (rowsQ c q 15) (decide (e = 1))]) ++ (if s then [sortK (groupsQ c q)] else [])
def allP (c : List Df) (q : Qy) (p : Pl) (e : Int) (s : Bool) : Int := if fineP c q p e s then addK (allL c q p e s) else capK
theorem shl_one {n : Nat} (hn : n ≤ 4) : bshl .i64 1 n = 2 ^ n := by
  obtain ⟨j, rfl⟩ : ∃ j : Fin 5, n = j.val := ⟨⟨n, by omega⟩, rfl⟩
  clear hn
  revert j
  decide +kernel
theorem pow_full {n : Nat} (hn : n ≤ 4) : (1 : Int) ≤ 2 ^ n ∧ (2 : Int) ^ n ≤ 16 := by
  obtain ⟨j, rfl⟩ : ∃ j : Fin 5, n = j.val := ⟨⟨n, by omega⟩, rfl⟩
  clear hn
  revert j
  decide +kernel
theorem rows_full {c : List Df} {q : Qy} (h : q.may c = true) : rowsQ c q (2 ^ q.occ.length - 1) = rowsQ c q 15 := by
  refine rowsQ_congr h fun i hi => ?_
  have h4 := (may_split h).2.2.1
  obtain ⟨j, hj⟩ : ∃ j : Fin 5, q.occ.length = j.val := ⟨⟨q.occ.length, by omega⟩, rfl⟩
  rw [hj] at hi ⊢
  obtain ⟨k, rfl⟩ : ∃ k : Fin 5, i = k.val := ⟨⟨i, by omega⟩, rfl⟩
  clear hj h4
  revert hi
  revert j k
  decide +kernel
set_option maxHeartbeats 4000000 in
theorem FinePl_ok (c : List Df) (hcl : c.length ≤ 1000000) (q : Qy) (hq : q.Ok) (p : Pl) (hok : p.Ok) (e : Int) (s : Bool) : Quiet Go.Proofs.Tryz.prog 32 [.agg [.sl (c.map encD)], .agg (encQ q), .agg (encW p e s)] (.bool (fineP c q p e s)) := by
  have hM := MayPl_ok c hcl q hq p hok
  have hT := Tree_ok p hok
  have hO := Order_ok p hok
  have hS := SetT_ok _ (tree_ok p)
  cases hm : mayP c q p
  · have hv : fineP c q p e s = false := by rw [fineP, hm]; rfl
    rw [hv]
    rw [hm] at hM
    obtain ⟨op, occ, a, b, l⟩ := p
    rw [encPl_mk] at hM hT hO
    rw [encW_mk]
    refine quiet_of (rs := #[.tmp 6]) Go.Proofs.Tryz.func32 rfl rfl rfl mixed rfl rfl fun H hs => ?_
    simp -implicitDefEqProofs only [push_cast, Nat.reduceAdd, Nat.reduceSub, Nat.reduceMul, Nat.reduceLT, Nat.reduceLeDiff, Nat.reduceEqDiff, Nat.reduceBEq, reduceCtorEq, reduceIte, Int.reduceLE, Int.reduceLT, Int.reduceNeg, Int.reduceToNat, encQ]
    refine callq hT ?_
    simp -implicitDefEqProofs only [push_cast, Nat.reduceAdd, Nat.reduceSub, Nat.reduceMul, Nat.reduceLT, Nat.reduceLeDiff, Nat.reduceEqDiff, Nat.reduceBEq, reduceCtorEq, reduceIte, Int.reduceLE, Int.reduceLT, Int.reduceNeg, Int.reduceToNat, encQ]
    refine areg_at 35 (by kernel_rfl) (by kernel_rfl) ?_
    simp -implicitDefEqProofs only [push_cast, Nat.reduceAdd, Nat.reduceSub, Nat.reduceMul, Nat.reduceLT, Nat.reduceLeDiff, Nat.reduceEqDiff, Nat.reduceBEq, reduceCtorEq, reduceIte, Int.reduceLE, Int.reduceLT, Int.reduceNeg, Int.reduceToNat, encQ]
    refine ahdq hM ?_
    simp -implicitDefEqProofs only [push_cast, Nat.reduceAdd, Nat.reduceSub, Nat.reduceMul, Nat.reduceLT, Nat.reduceLeDiff, Nat.reduceEqDiff, Nat.reduceBEq, reduceCtorEq, reduceIte, Int.reduceLE, Int.reduceLT, Int.reduceNeg, Int.reduceToNat, encQ]
    refine gcallq (.int 0) (fun h => by cases h) ?_
    simp -implicitDefEqProofs only [push_cast, Nat.reduceAdd, Nat.reduceSub, Nat.reduceMul, Nat.reduceLT, Nat.reduceLeDiff, Nat.reduceEqDiff, Nat.reduceBEq, reduceCtorEq, reduceIte, Int.reduceLE, Int.reduceLT, Int.reduceNeg, Int.reduceToNat, encQ]
  · have h1 := mayP_split hm
    have h4 := (may_split h1.1).2.2.1
    have hpw := pow_full h4
    have hsh := shl_one h4
    have hv : fineP c q p e s = (decide ((treeP p).set = 2 ^ q.occ.length - 1) && endP q p.order e s) := by rw [fineP, hm]; rfl
    rw [hv]
    rw [hm] at hM
    rw [tree_1 h1.2.1] at hT hS
    generalize (treeP p).set = S at hS ⊢
    generalize p.order = O at hO ⊢
    obtain ⟨op, occ, a, b, l⟩ := p
    rw [encPl_mk] at hM hT hO
    rw [encW_mk]
    refine quiet_of (rs := #[.tmp 6]) Go.Proofs.Tryz.func32 rfl rfl rfl mixed rfl rfl fun H hs => ?_
    simp -implicitDefEqProofs only [push_cast, Nat.reduceAdd, Nat.reduceSub, Nat.reduceMul, Nat.reduceLT, Nat.reduceLeDiff, Nat.reduceEqDiff, Nat.reduceBEq, reduceCtorEq, reduceIte, Int.reduceLE, Int.reduceLT, Int.reduceNeg, Int.reduceToNat, encQ]
    refine callq hT ?_
    simp -implicitDefEqProofs only [push_cast, Nat.reduceAdd, Nat.reduceSub, Nat.reduceMul, Nat.reduceLT, Nat.reduceLeDiff, Nat.reduceEqDiff, Nat.reduceBEq, reduceCtorEq, reduceIte, Int.reduceLE, Int.reduceLT, Int.reduceNeg, Int.reduceToNat, encQ]
    refine areg_at 35 (by kernel_rfl) (by kernel_rfl) ?_
    simp -implicitDefEqProofs only [push_cast, Nat.reduceAdd, Nat.reduceSub, Nat.reduceMul, Nat.reduceLT, Nat.reduceLeDiff, Nat.reduceEqDiff, Nat.reduceBEq, reduceCtorEq, reduceIte, Int.reduceLE, Int.reduceLT, Int.reduceNeg, Int.reduceToNat, encQ]
    refine ahdq hM ?_
    simp -implicitDefEqProofs only [push_cast, Nat.reduceAdd, Nat.reduceSub, Nat.reduceMul, Nat.reduceLT, Nat.reduceLeDiff, Nat.reduceEqDiff, Nat.reduceBEq, reduceCtorEq, reduceIte, Int.reduceLE, Int.reduceLT, Int.reduceNeg, Int.reduceToNat, encQ]
    refine gcallq (.int S) (fun _ => hS) ?_
    simp -implicitDefEqProofs only [push_cast, Nat.reduceAdd, Nat.reduceSub, Nat.reduceMul, Nat.reduceLT, Nat.reduceLeDiff, Nat.reduceEqDiff, Nat.reduceBEq, reduceCtorEq, reduceIte, Int.reduceLE, Int.reduceLT, Int.reduceNeg, Int.reduceToNat, encQ, hsh]
    rw [wrap64 (n := 2 ^ q.occ.length - 1) (by omega) (by omega)]
    generalize (2 : Int) ^ q.occ.length - 1 = F
    refine ⟨by omega, fun h => ?_, fun h => ?_⟩
    · unfold endP
      generalize q.by_ = by_ at h ⊢
      grind
    simp only [Bool.or_eq_false_iff, Bool.not_eq_false', decide_eq_false_iff_not, decide_eq_true_eq] at h
    obtain ⟨⟨⟨rfl, h0⟩, h3⟩, hb⟩ := h
    refine callq hO ?_
    have hv2 : (decide (S = S) && endP q O e s) = (if s then decide (q.ord ≠ -1) && decide (e = 1) else if e = 2 then decide (O = q.by_) else if q.ord ≠ -1 then decide (e = 0) && decide (O = q.ord) else true) := by
      unfold endP
      generalize q.by_ = by_ at hb ⊢
      grind
    rw [hv2]
    cases s
    · simp -implicitDefEqProofs only [push_cast, Nat.reduceAdd, Nat.reduceSub, Nat.reduceMul, Nat.reduceLT, Nat.reduceLeDiff, Nat.reduceEqDiff, Nat.reduceBEq, reduceCtorEq, reduceIte, Int.reduceLE, Int.reduceLT, Int.reduceNeg, Int.reduceToNat, encQ]
      generalize q.by_ = by_
      grind
    · simp -implicitDefEqProofs only [push_cast, Nat.reduceAdd, Nat.reduceSub, Nat.reduceMul, Nat.reduceLT, Nat.reduceLeDiff, Nat.reduceEqDiff, Nat.reduceBEq, reduceCtorEq, reduceIte, Int.reduceLE, Int.reduceLT, Int.reduceNeg, Int.reduceToNat, encQ, if_true]
      grind
theorem fine_split {c : List Df} {q : Qy} {p : Pl} {e : Int} {s : Bool} (h : fineP c q p e s = true) : mayP c q p = true ∧ (treeP p).set = 2 ^ q.occ.length - 1 ∧ endP q p.order e s = true := by
  unfold fineP at h
  simp only [Bool.and_eq_true, decide_eq_true_eq] at h
  exact ⟨h.1.1, h.1.2, h.2⟩
set_option maxHeartbeats 4000000 in
theorem AllPl_ok (c : List Df) (hcl : c.length ≤ 1000000) (q : Qy) (hq : q.Ok) (p : Pl) (hok : p.Ok) (e : Int) (s : Bool) : Quiet Go.Proofs.Tryz.prog 33 [.agg [.sl (c.map encD)], .agg (encQ q), .agg (encW p e s)] (.int (allP c q p e s)) := by
  have hF := FinePl_ok c hcl q hq p hok e s
  have hC := CostPl_ok c hcl q hq p hok
  unfold allP
  cases hf : fineP c q p e s
  · rw [hf] at hF
    obtain ⟨op, occ, a, b, l⟩ := p
    rw [encW_mk] at hF ⊢
    refine quiet_of (rs := #[.tmp 6]) Go.Proofs.Tryz.func33 rfl rfl rfl mixed rfl rfl fun H hs => ?_
    simp -implicitDefEqProofs only [push_cast, Nat.reduceAdd, Nat.reduceSub, Nat.reduceMul, Nat.reduceLT, Nat.reduceLeDiff, Nat.reduceEqDiff, Nat.reduceBEq, reduceCtorEq, reduceIte, Int.reduceLE, Int.reduceLT, Int.reduceNeg, Int.reduceToNat, encQ]
    refine callq hF ?_
    simp -implicitDefEqProofs only [push_cast, Nat.reduceAdd, Nat.reduceSub, Nat.reduceMul, Nat.reduceLT, Nat.reduceLeDiff, Nat.reduceEqDiff, Nat.reduceBEq, reduceCtorEq, reduceIte, Int.reduceLE, Int.reduceLT, Int.reduceNeg, Int.reduceToNat, encQ, capK, Bool.false_eq_true, if_false]
  · rw [hf] at hF
    have h1 := mayP_split (fine_split hf).1
    have h4 := (may_split h1.1).2.2.1
    have hpw := pow_full h4
    have hsh := shl_one h4
    have hR := Rows_ok c hcl q hq (2 ^ q.occ.length - 1)
    rw [rows_full h1.1] at hR
    have hA := AddK_ok (allL c q p e s) (by unfold allL; split <;> split <;> simp)
    generalize hX : costP c q p = X at hC
    rw [if_pos rfl]
    have hL : allL c q p e s = [X] ++ (if e = 0 then [] else [groupK (rowsQ c q 15) (decide (e = 1))]) ++ (if s then [sortK (groupsQ c q)] else []) := by rw [allL, hX]
    rw [hL] at hA ⊢
    clear hX hf hL h1
    obtain ⟨op, occ, a, b, l⟩ := p
    rw [encPl_mk] at hC
    rw [encW_mk] at hF ⊢
    refine quiet_of (rs := #[.tmp 6]) Go.Proofs.Tryz.func33 rfl rfl rfl mixed rfl rfl fun H hs => ?_
    by_cases he : e = 0
    · subst he
      cases s
      · simp -implicitDefEqProofs only [push_cast, Nat.reduceAdd, Nat.reduceSub, Nat.reduceMul, Nat.reduceLT, Nat.reduceLeDiff, Nat.reduceEqDiff, Nat.reduceBEq, reduceCtorEq, reduceIte, Int.reduceLE, Int.reduceLT, Int.reduceNeg, Int.reduceToNat, encQ]
        refine callq hF ?_
        simp -implicitDefEqProofs only [push_cast, Nat.reduceAdd, Nat.reduceSub, Nat.reduceMul, Nat.reduceLT, Nat.reduceLeDiff, Nat.reduceEqDiff, Nat.reduceBEq, reduceCtorEq, reduceIte, Int.reduceLE, Int.reduceLT, Int.reduceNeg, Int.reduceToNat, encQ]
        refine callq hC ?_
        simp -implicitDefEqProofs only [push_cast, Nat.reduceAdd, Nat.reduceSub, Nat.reduceMul, Nat.reduceLT, Nat.reduceLeDiff, Nat.reduceEqDiff, Nat.reduceBEq, reduceCtorEq, reduceIte, Int.reduceLE, Int.reduceLT, Int.reduceNeg, Int.reduceToNat, encQ, Int.reduceEq, if_false, if_true, or_true, or_false, true_or, false_or, List.map_cons, List.map_nil, List.length_cons, List.length_nil, Int.reduceAdd, List.cons_append, List.nil_append, List.append_nil]
        refine fzk H 3 1 [.sl ([X].map encI)] (by rfl) (by omega) (by simp) ?_ ?_
        · (try simp -implicitDefEqProofs only [push_cast, Nat.reduceAdd, Nat.reduceSub, Nat.reduceMul, Nat.reduceLT, Nat.reduceLeDiff, Nat.reduceEqDiff, Nat.reduceBEq, reduceCtorEq, reduceIte, Int.reduceLE, Int.reduceLT, Int.reduceNeg, Int.reduceToNat, encI, Int.reduceEq, if_false, if_true, or_true, or_false, true_or, false_or, List.map_cons, List.map_nil, List.length_cons, List.length_nil, Int.reduceAdd, List.cons_append, List.nil_append, List.append_nil])
        refine callq hA ?_
        simp -implicitDefEqProofs only [push_cast, Nat.reduceAdd, Nat.reduceSub, Nat.reduceMul, Nat.reduceLT, Nat.reduceLeDiff, Nat.reduceEqDiff, Nat.reduceBEq, reduceCtorEq, reduceIte, Int.reduceLE, Int.reduceLT, Int.reduceNeg, Int.reduceToNat, encQ, Int.reduceEq, if_false, if_true, or_true, or_false, true_or, false_or, List.map_cons, List.map_nil, List.length_cons, List.length_nil, Int.reduceAdd, List.cons_append, List.nil_append, List.append_nil]
      · simp -implicitDefEqProofs only [push_cast, Nat.reduceAdd, Nat.reduceSub, Nat.reduceMul, Nat.reduceLT, Nat.reduceLeDiff, Nat.reduceEqDiff, Nat.reduceBEq, reduceCtorEq, reduceIte, Int.reduceLE, Int.reduceLT, Int.reduceNeg, Int.reduceToNat, encQ]
        refine callq hF ?_
        simp -implicitDefEqProofs only [push_cast, Nat.reduceAdd, Nat.reduceSub, Nat.reduceMul, Nat.reduceLT, Nat.reduceLeDiff, Nat.reduceEqDiff, Nat.reduceBEq, reduceCtorEq, reduceIte, Int.reduceLE, Int.reduceLT, Int.reduceNeg, Int.reduceToNat, encQ]
        refine callq hC ?_
        simp -implicitDefEqProofs only [push_cast, Nat.reduceAdd, Nat.reduceSub, Nat.reduceMul, Nat.reduceLT, Nat.reduceLeDiff, Nat.reduceEqDiff, Nat.reduceBEq, reduceCtorEq, reduceIte, Int.reduceLE, Int.reduceLT, Int.reduceNeg, Int.reduceToNat, encQ, Int.reduceEq, if_false, if_true, or_true, or_false, true_or, false_or, List.map_cons, List.map_nil, List.length_cons, List.length_nil, Int.reduceAdd, List.cons_append, List.nil_append, List.append_nil]
        refine callq (Groups_ok c hcl q hq) ?_
        simp -implicitDefEqProofs only [push_cast, Nat.reduceAdd, Nat.reduceSub, Nat.reduceMul, Nat.reduceLT, Nat.reduceLeDiff, Nat.reduceEqDiff, Nat.reduceBEq, reduceCtorEq, reduceIte, Int.reduceLE, Int.reduceLT, Int.reduceNeg, Int.reduceToNat, encQ, Int.reduceEq, if_false, if_true, or_true, or_false, true_or, false_or, List.map_cons, List.map_nil, List.length_cons, List.length_nil, Int.reduceAdd, List.cons_append, List.nil_append, List.append_nil]
        refine callq (SortK_ok _) ?_
        simp -implicitDefEqProofs only [push_cast, Nat.reduceAdd, Nat.reduceSub, Nat.reduceMul, Nat.reduceLT, Nat.reduceLeDiff, Nat.reduceEqDiff, Nat.reduceBEq, reduceCtorEq, reduceIte, Int.reduceLE, Int.reduceLT, Int.reduceNeg, Int.reduceToNat, encQ, Int.reduceEq, if_false, if_true, or_true, or_false, true_or, false_or, List.map_cons, List.map_nil, List.length_cons, List.length_nil, Int.reduceAdd, List.cons_append, List.nil_append, List.append_nil]
        refine fzk H 5 2 [.sl ([X, sortK (groupsQ c q)].map encI)] (by rfl) (by omega) (by simp) ?_ ?_
        · (try simp -implicitDefEqProofs only [push_cast, Nat.reduceAdd, Nat.reduceSub, Nat.reduceMul, Nat.reduceLT, Nat.reduceLeDiff, Nat.reduceEqDiff, Nat.reduceBEq, reduceCtorEq, reduceIte, Int.reduceLE, Int.reduceLT, Int.reduceNeg, Int.reduceToNat, encI, Int.reduceEq, if_false, if_true, or_true, or_false, true_or, false_or, List.map_cons, List.map_nil, List.length_cons, List.length_nil, Int.reduceAdd, List.cons_append, List.nil_append, List.append_nil])
        refine callq hA ?_
        simp -implicitDefEqProofs only [push_cast, Nat.reduceAdd, Nat.reduceSub, Nat.reduceMul, Nat.reduceLT, Nat.reduceLeDiff, Nat.reduceEqDiff, Nat.reduceBEq, reduceCtorEq, reduceIte, Int.reduceLE, Int.reduceLT, Int.reduceNeg, Int.reduceToNat, encQ, Int.reduceEq, if_false, if_true, or_true, or_false, true_or, false_or, List.map_cons, List.map_nil, List.length_cons, List.length_nil, Int.reduceAdd, List.cons_append, List.nil_append, List.append_nil]
    · have he' : (e = 0) = False := by simp [he]
      have hen : decide (e = 0) = false := by simp [he]
      cases s
      · simp -implicitDefEqProofs only [push_cast, Nat.reduceAdd, Nat.reduceSub, Nat.reduceMul, Nat.reduceLT, Nat.reduceLeDiff, Nat.reduceEqDiff, Nat.reduceBEq, reduceCtorEq, reduceIte, Int.reduceLE, Int.reduceLT, Int.reduceNeg, Int.reduceToNat, encQ]
        refine callq hF ?_
        simp -implicitDefEqProofs only [push_cast, Nat.reduceAdd, Nat.reduceSub, Nat.reduceMul, Nat.reduceLT, Nat.reduceLeDiff, Nat.reduceEqDiff, Nat.reduceBEq, reduceCtorEq, reduceIte, Int.reduceLE, Int.reduceLT, Int.reduceNeg, Int.reduceToNat, encQ]
        refine callq hC ?_
        simp -implicitDefEqProofs only [push_cast, Nat.reduceAdd, Nat.reduceSub, Nat.reduceMul, Nat.reduceLT, Nat.reduceLeDiff, Nat.reduceEqDiff, Nat.reduceBEq, reduceCtorEq, reduceIte, Int.reduceLE, Int.reduceLT, Int.reduceNeg, Int.reduceToNat, encQ, Int.reduceEq, if_false, if_true, or_true, or_false, true_or, false_or, List.map_cons, List.map_nil, List.length_cons, List.length_nil, Int.reduceAdd, List.cons_append, List.nil_append, List.append_nil, he', hen]
        refine areg_grow [some (.cells 1 [[.sl (c.map encD)]] 0), some (.cells 6 [encQ q] 0), some (.cells 7 [[.int op, .int occ, .int a, .int b, .sl (l.map encPl), .int e, .bool false]] 0)] 16 ?_ (by kernel_rfl) (by kernel_rfl) (by kernel_rfl) ?_
        · intro j o hj
          match j, hj with
          | 0, hj => exact hj
          | 1, hj => exact hj
          | 2, hj => exact hj
          | j + 3, hj => simp at hj
        simp -implicitDefEqProofs only [push_cast, Nat.reduceAdd, Nat.reduceSub, Nat.reduceMul, Nat.reduceLT, Nat.reduceLeDiff, Nat.reduceEqDiff, Nat.reduceBEq, reduceCtorEq, reduceIte, Int.reduceLE, Int.reduceLT, Int.reduceNeg, Int.reduceToNat, encQ, Int.reduceEq, if_false, if_true, or_true, or_false, true_or, false_or, List.map_cons, List.map_nil, List.length_cons, List.length_nil, Int.reduceAdd, List.cons_append, List.nil_append, List.append_nil, he', hen, hsh]
        rw [wrap64 (n := 2 ^ q.occ.length - 1) (by omega) (by omega)]
        refine ⟨by omega, ahdq hR ?_⟩
        simp -implicitDefEqProofs only [push_cast, Nat.reduceAdd, Nat.reduceSub, Nat.reduceMul, Nat.reduceLT, Nat.reduceLeDiff, Nat.reduceEqDiff, Nat.reduceBEq, reduceCtorEq, reduceIte, Int.reduceLE, Int.reduceLT, Int.reduceNeg, Int.reduceToNat, encQ, Int.reduceEq, if_false, if_true, or_true, or_false, true_or, false_or, List.map_cons, List.map_nil, List.length_cons, List.length_nil, Int.reduceAdd, List.cons_append, List.nil_append, List.append_nil]
        refine ahdq (GroupK_ok _ _) ?_
        simp -implicitDefEqProofs only [push_cast, Nat.reduceAdd, Nat.reduceSub, Nat.reduceMul, Nat.reduceLT, Nat.reduceLeDiff, Nat.reduceEqDiff, Nat.reduceBEq, reduceCtorEq, reduceIte, Int.reduceLE, Int.reduceLT, Int.reduceNeg, Int.reduceToNat, encQ, Int.reduceEq, if_false, if_true, or_true, or_false, true_or, false_or, List.map_cons, List.map_nil, List.length_cons, List.length_nil, Int.reduceAdd, List.cons_append, List.nil_append, List.append_nil]
        refine fzk H 4 2 [.sl ([X, groupK (rowsQ c q 15) (decide (e = 1))].map encI)] (by rfl) (by omega) (by simp) ?_ ?_
        · (try simp -implicitDefEqProofs only [push_cast, Nat.reduceAdd, Nat.reduceSub, Nat.reduceMul, Nat.reduceLT, Nat.reduceLeDiff, Nat.reduceEqDiff, Nat.reduceBEq, reduceCtorEq, reduceIte, Int.reduceLE, Int.reduceLT, Int.reduceNeg, Int.reduceToNat, encI, Int.reduceEq, if_false, if_true, or_true, or_false, true_or, false_or, List.map_cons, List.map_nil, List.length_cons, List.length_nil, Int.reduceAdd, List.cons_append, List.nil_append, List.append_nil])
        simp only [he', if_false, if_true, Bool.false_eq_true, List.cons_append, List.nil_append, List.append_nil] at hA
        refine callq hA ?_
        simp -implicitDefEqProofs only [push_cast, Nat.reduceAdd, Nat.reduceSub, Nat.reduceMul, Nat.reduceLT, Nat.reduceLeDiff, Nat.reduceEqDiff, Nat.reduceBEq, reduceCtorEq, reduceIte, Int.reduceLE, Int.reduceLT, Int.reduceNeg, Int.reduceToNat, encQ, Int.reduceEq, if_false, if_true, or_true, or_false, true_or, false_or, List.map_cons, List.map_nil, List.length_cons, List.length_nil, Int.reduceAdd, List.cons_append, List.nil_append, List.append_nil]
      · simp -implicitDefEqProofs only [push_cast, Nat.reduceAdd, Nat.reduceSub, Nat.reduceMul, Nat.reduceLT, Nat.reduceLeDiff, Nat.reduceEqDiff, Nat.reduceBEq, reduceCtorEq, reduceIte, Int.reduceLE, Int.reduceLT, Int.reduceNeg, Int.reduceToNat, encQ]
        refine callq hF ?_
        simp -implicitDefEqProofs only [push_cast, Nat.reduceAdd, Nat.reduceSub, Nat.reduceMul, Nat.reduceLT, Nat.reduceLeDiff, Nat.reduceEqDiff, Nat.reduceBEq, reduceCtorEq, reduceIte, Int.reduceLE, Int.reduceLT, Int.reduceNeg, Int.reduceToNat, encQ]
        refine callq hC ?_
        simp -implicitDefEqProofs only [push_cast, Nat.reduceAdd, Nat.reduceSub, Nat.reduceMul, Nat.reduceLT, Nat.reduceLeDiff, Nat.reduceEqDiff, Nat.reduceBEq, reduceCtorEq, reduceIte, Int.reduceLE, Int.reduceLT, Int.reduceNeg, Int.reduceToNat, encQ, Int.reduceEq, if_false, if_true, or_true, or_false, true_or, false_or, List.map_cons, List.map_nil, List.length_cons, List.length_nil, Int.reduceAdd, List.cons_append, List.nil_append, List.append_nil, he', hen]
        refine areg_grow [some (.cells 1 [[.sl (c.map encD)]] 0), some (.cells 6 [encQ q] 0), some (.cells 7 [[.int op, .int occ, .int a, .int b, .sl (l.map encPl), .int e, .bool true]] 0)] 16 ?_ (by kernel_rfl) (by kernel_rfl) (by kernel_rfl) ?_
        · intro j o hj
          match j, hj with
          | 0, hj => exact hj
          | 1, hj => exact hj
          | 2, hj => exact hj
          | j + 3, hj => simp at hj
        simp -implicitDefEqProofs only [push_cast, Nat.reduceAdd, Nat.reduceSub, Nat.reduceMul, Nat.reduceLT, Nat.reduceLeDiff, Nat.reduceEqDiff, Nat.reduceBEq, reduceCtorEq, reduceIte, Int.reduceLE, Int.reduceLT, Int.reduceNeg, Int.reduceToNat, encQ, Int.reduceEq, if_false, if_true, or_true, or_false, true_or, false_or, List.map_cons, List.map_nil, List.length_cons, List.length_nil, Int.reduceAdd, List.cons_append, List.nil_append, List.append_nil, he', hen, hsh]
        rw [wrap64 (n := 2 ^ q.occ.length - 1) (by omega) (by omega)]
        refine ⟨by omega, ahdq hR ?_⟩
        simp -implicitDefEqProofs only [push_cast, Nat.reduceAdd, Nat.reduceSub, Nat.reduceMul, Nat.reduceLT, Nat.reduceLeDiff, Nat.reduceEqDiff, Nat.reduceBEq, reduceCtorEq, reduceIte, Int.reduceLE, Int.reduceLT, Int.reduceNeg, Int.reduceToNat, encQ, Int.reduceEq, if_false, if_true, or_true, or_false, true_or, false_or, List.map_cons, List.map_nil, List.length_cons, List.length_nil, Int.reduceAdd, List.cons_append, List.nil_append, List.append_nil]
        refine ahdq (GroupK_ok _ _) ?_
        simp -implicitDefEqProofs only [push_cast, Nat.reduceAdd, Nat.reduceSub, Nat.reduceMul, Nat.reduceLT, Nat.reduceLeDiff, Nat.reduceEqDiff, Nat.reduceBEq, reduceCtorEq, reduceIte, Int.reduceLE, Int.reduceLT, Int.reduceNeg, Int.reduceToNat, encQ, Int.reduceEq, if_false, if_true, or_true, or_false, true_or, false_or, List.map_cons, List.map_nil, List.length_cons, List.length_nil, Int.reduceAdd, List.cons_append, List.nil_append, List.append_nil]
        refine callq (Groups_ok c hcl q hq) ?_
        simp -implicitDefEqProofs only [push_cast, Nat.reduceAdd, Nat.reduceSub, Nat.reduceMul, Nat.reduceLT, Nat.reduceLeDiff, Nat.reduceEqDiff, Nat.reduceBEq, reduceCtorEq, reduceIte, Int.reduceLE, Int.reduceLT, Int.reduceNeg, Int.reduceToNat, encQ, Int.reduceEq, if_false, if_true, or_true, or_false, true_or, false_or, List.map_cons, List.map_nil, List.length_cons, List.length_nil, Int.reduceAdd, List.cons_append, List.nil_append, List.append_nil]
        refine callq (SortK_ok _) ?_
        simp -implicitDefEqProofs only [push_cast, Nat.reduceAdd, Nat.reduceSub, Nat.reduceMul, Nat.reduceLT, Nat.reduceLeDiff, Nat.reduceEqDiff, Nat.reduceBEq, reduceCtorEq, reduceIte, Int.reduceLE, Int.reduceLT, Int.reduceNeg, Int.reduceToNat, encQ, Int.reduceEq, if_false, if_true, or_true, or_false, true_or, false_or, List.map_cons, List.map_nil, List.length_cons, List.length_nil, Int.reduceAdd, List.cons_append, List.nil_append, List.append_nil]
        refine fzk H 6 3 [.sl ([X, groupK (rowsQ c q 15) (decide (e = 1)), sortK (groupsQ c q)].map encI)] (by rfl) (by omega) (by simp) ?_ ?_
        · (try simp -implicitDefEqProofs only [push_cast, Nat.reduceAdd, Nat.reduceSub, Nat.reduceMul, Nat.reduceLT, Nat.reduceLeDiff, Nat.reduceEqDiff, Nat.reduceBEq, reduceCtorEq, reduceIte, Int.reduceLE, Int.reduceLT, Int.reduceNeg, Int.reduceToNat, encI, Int.reduceEq, if_false, if_true, or_true, or_false, true_or, false_or, List.map_cons, List.map_nil, List.length_cons, List.length_nil, Int.reduceAdd, List.cons_append, List.nil_append, List.append_nil])
        simp only [he', if_false, if_true, Bool.false_eq_true, List.cons_append, List.nil_append, List.append_nil] at hA
        refine callq hA ?_
        simp -implicitDefEqProofs only [push_cast, Nat.reduceAdd, Nat.reduceSub, Nat.reduceMul, Nat.reduceLT, Nat.reduceLeDiff, Nat.reduceEqDiff, Nat.reduceBEq, reduceCtorEq, reduceIte, Int.reduceLE, Int.reduceLT, Int.reduceNeg, Int.reduceToNat, encQ, Int.reduceEq, if_false, if_true, or_true, or_false, true_or, false_or, List.map_cons, List.map_nil, List.length_cons, List.length_nil, Int.reduceAdd, List.cons_append, List.nil_append, List.append_nil]
end
section
theorem bor_lt {a b : Int} (a0 : 0 ≤ a) (a1 : a ≤ 15) (b0 : 0 ≤ b) (b1 : b ≤ 15) {n : Nat} (hn : n ≤ 4) : bor .i64 a b < 2 ^ n ↔ a < 2 ^ n ∧ b < 2 ^ n := by
  obtain ⟨i, rfl⟩ : ∃ i : Fin 16, a = (i.val : Int) := ⟨⟨a.toNat, by omega⟩, by simp; omega⟩
  obtain ⟨j, rfl⟩ : ∃ j : Fin 16, b = (j.val : Int) := ⟨⟨b.toNat, by omega⟩, by simp; omega⟩
  obtain ⟨k, rfl⟩ : ∃ k : Fin 5, n = k.val := ⟨⟨n, by omega⟩, rfl⟩
  clear a0 a1 b0 b1 hn
  revert i j k
  decide +kernel
theorem mayP_iff {c : List Df} {q : Qy} {p : Pl} : mayP c q p = true ↔ q.may c = true ∧ p.few = true ∧ (treeP p).may = true ∧ (treeP p).set < 2 ^ q.occ.length ∧ (parts p).all (fitP c q) = true := by
  unfold mayP
  rw [tree_iff]
  simp only [Bool.and_eq_true, decide_eq_true_eq]
  constructor
  · rintro ⟨⟨⟨⟨h1, h2⟩, h3⟩, h4⟩, h5⟩
    exact ⟨h3, h1, h2, h4, h5⟩
  · rintro ⟨h3, h1, h2, h4, h5⟩
    exact ⟨⟨⟨⟨h1, h2⟩, h3⟩, h4⟩, h5⟩
theorem may_len {c : List Df} {q : Qy} (h : q.may c = true) : q.occ.length ≤ 4 := (may_split h).2.2.1
theorem mayP_part {c : List Df} {q : Qy} {op occ a b : Int} {l : List Pl} (h : mayP c q (.mk op occ a b l) = true) : ∀ x ∈ l, mayP c q x = true := by
  obtain ⟨h1, h2, h3, h4, h5⟩ := mayP_iff.1 h
  intro x hx
  have hn := may_len h1
  refine mayP_iff.2 ⟨h1, few_part h2 hx, part_may (few_own h2) h3 x hx, ?_, ?_⟩
  · rcases form_split (few_own h2) with ⟨_, rfl⟩ | ⟨_, y, rfl⟩ | ⟨_, y, z, rfl⟩
    · cases hx
    · simp only [List.mem_singleton] at hx
      subst hx
      rwa [treeP] at h4
    · rw [treeP] at h3 h4
      obtain ⟨_, _, _, hs⟩ := join_may h3
      have ry := (treeP y).set_range
      have rz := (treeP z).set_range
      rw [hs, bor_lt ry.1 ry.2 rz.1 rz.2 hn] at h4
      simp only [List.mem_cons, List.not_mem_nil, or_false] at hx
      rcases hx with rfl | rfl
      · exact h4.1
      · exact h4.2
  · rw [parts_mk] at h5
    simp only [List.all_cons, Bool.and_eq_true, List.all_eq_true] at h5 ⊢
    exact fun y hy => h5.2 y (partsPl_mem hx y hy)
theorem fit_own {c : List Df} {q : Qy} {p : Pl} (h : mayP c q p = true) : fitP c q p = true := by
  obtain ⟨_, _, _, _, h5⟩ := mayP_iff.1 h
  obtain ⟨op, occ, a, b, l⟩ := p
  rw [parts_all, Bool.and_eq_true] at h5
  exact h5.1
theorem costP_range (c : List Df) (q : Qy) (p : Pl) : 0 ≤ costP c q p ∧ costP c q p ≤ capK := by
  unfold costP
  split
  · exact addK_range _
  · unfold capK; omega
theorem costP_tree {c : List Df} {q : Qy} {p : Pl} (h : mayP c q p = true) : costP c q p = costT (ownC c q) p := by
  rw [costP, if_pos h]
  exact cost_tree (mayP_iff.1 h).2.1
theorem costP_mk {c : List Df} {q : Qy} {op occ a b : Int} {l : List Pl} (h : mayP c q (.mk op occ a b l) = true) : costP c q (.mk op occ a b l) = addK (l.map (costP c q) ++ [ownC c q (.mk op occ a b l)]) := by
  have hs := mayP_part h
  rw [costP_tree h]
  rcases form_split (few_own (mayP_iff.1 h).2.1) with ⟨_, rfl⟩ | ⟨_, x, rfl⟩ | ⟨_, x, y, rfl⟩
  · have ho := ownC_range c q (.mk op occ a b [])
    rw [costT, List.map_nil, List.nil_append, addK_eq]
    simp only [sumK, List.map_cons, List.map_nil, List.foldr_cons, List.foldr_nil]
    omega
  · rw [costT, List.map_cons, List.map_nil, costP_tree (hs x (by simp))]
    rfl
  · rw [costT, List.map_cons, List.map_cons, List.map_nil, costP_tree (hs x (by simp)), costP_tree (hs y (by simp))]
    rfl
theorem addK_more (l m : List Int) : addK l ≤ addK (l ++ m) := by
  have := sumK_pos m
  rw [addK_eq, addK_eq, sumK_append]
  omega
theorem addK_mem {l : List Int} {x : Int} (h : x ∈ l) (h1 : x ≤ capK) : x ≤ addK l := by
  rw [addK_eq]
  have : x ≤ sumK l := by
    induction l with
    | nil => cases h
    | cons y l ih =>
      have hp := sumK_pos l
      have e : sumK (y :: l) = max y 0 + sumK l := rfl
      rw [e]
      cases h with
      | head => omega
      | tail _ h => have := ih h; omega
  omega
theorem addK_zero (l : List Int) : addK (0 :: l) = addK l := by
  rw [addK_eq, addK_eq]
  have e : sumK (0 :: l) = max 0 0 + sumK l := rfl
  rw [e]
  congr 1
  omega
theorem cost_sub {c : List Df} {q : Qy} {op occ a b : Int} {l : List Pl} (h : mayP c q (.mk op occ a b l) = true) : (∀ x ∈ l, costP c q x ≤ costP c q (.mk op occ a b l)) ∧ addK (0 :: l.map (costP c q)) ≤ costP c q (.mk op occ a b l) := by
  rw [costP_mk h]
  exact ⟨fun x hx => addK_mem (List.mem_append.2 (.inl (List.mem_map.2 ⟨x, hx, rfl⟩))) (costP_range c q x).2, by rw [addK_zero]; exact addK_more _ _⟩
theorem nest_order {a b : Pl} (h : (Pl.mk 1 0 0 0 [a, b]).few = true) : (Pl.mk 1 0 0 0 [a, b]).order = a.order := by
  rw [Pl.order, Pl.order, if_pos h, if_pos (few_part h (by simp)), orderL, if_pos rfl]
theorem sort_may {c : List Df} {q : Qy} {x : Pl} {col : Int} (hx : mayP c q x = true) (hf : (Pl.mk 4 0 col 0 [x]).few = true) : mayP c q (.mk 4 0 col 0 [x]) = (q.cols c (treeP x).set).contains col := by
  obtain ⟨h1, _, h3, h4, h5⟩ := mayP_iff.1 hx
  rw [Bool.eq_iff_iff, mayP_iff, treeP, parts_all, partsPl_cons, partsPl, List.append_nil, h5, Bool.and_true]
  exact ⟨fun h => h.2.2.2.2, fun h => ⟨h1, hf, h3, h4, h⟩⟩
theorem sort_cost {c : List Df} {q : Qy} {x : Pl} {col b : Int} (h : mayP c q (.mk 4 0 col b [x]) = true) : costP c q (.mk 4 0 col b [x]) = addK [costP c q x, sortK (rowsQ c q (treeP x).set)] := by
  rw [costP_mk h]
  rfl
theorem sort_order {x : Pl} {col b : Int} (h : (Pl.mk 4 0 col b [x]).few = true) : (Pl.mk 4 0 col b [x]).order = col := by
  rw [Pl.order, if_pos h, orderL, if_neg (by decide), if_pos (.inl rfl)]
theorem form_two {op a b : Int} {x y : Pl} (ho : op = 2 ∨ op = 3) : (Pl.mk op 0 a b [x, y]).form = true := by
  rcases ho with rfl | rfl <;> simp [Pl.form, Pl.op, Pl.l, Pl.occ, plansP]
theorem fit_two {c : List Df} {q : Qy} {op occ a b : Int} {x y : Pl} (ho : op = 2 ∨ op = 3) (h : fitP c q (.mk op occ a b [x, y]) = true) : (q.pairs (treeP x).set (treeP y).set).contains (a, b) = true ∧ (op = 2 ∨ (x.order = a ∧ y.order = b)) := by
  have e : fitP c q (.mk op occ a b [x, y]) = (if op = 1 then true else (q.pairs (treeP x).set (treeP y).set).contains (a, b) && (decide (op = 2) || (decide (x.order = a) && decide (y.order = b)))) := rfl
  rw [e, if_neg (by omega)] at h
  simpa only [Bool.and_eq_true, Bool.or_eq_true, decide_eq_true_eq] using h
theorem fit_of {c : List Df} {q : Qy} {op occ a b : Int} {x y : Pl} (h1 : (q.pairs (treeP x).set (treeP y).set).contains (a, b) = true) (h2 : op = 2 ∨ (x.order = a ∧ y.order = b)) : fitP c q (.mk op occ a b [x, y]) = true := by
  have e : fitP c q (.mk op occ a b [x, y]) = (if op = 1 then true else (q.pairs (treeP x).set (treeP y).set).contains (a, b) && (decide (op = 2) || (decide (x.order = a) && decide (y.order = b)))) := rfl
  rw [e, h1]
  split
  · rfl
  · simpa only [Bool.and_eq_true, Bool.or_eq_true, decide_eq_true_eq, Bool.true_and] using h2
theorem hash_order {occ a b : Int} {x y : Pl} : (Pl.mk 2 occ a b [x, y]).order = -1 := by
  rw [Pl.order]
  split
  · rw [orderL, if_neg (by decide), if_neg (by decide)]
  · rfl
end
section
def innerL (op col : Int) (ps : List (Int × Int)) : List Pl := (ps.filter fun p => decide (col = -1) || (decide (op = 3) && decide (col = p.1))).map fun p => .mk op 0 p.1 p.2 []
def nestW : Pl := .mk 1 0 0 0 []
def waysP (q : Qy) (a b col : Int) : List Pl := [nestW] ++ innerL 2 col (q.pairs a b) ++ innerL 3 col (q.pairs a b)
def mustP (w : Pl) (col : Int) : Int × Int := if w.op = 1 then (col, -1) else if w.op = 3 then (w.a, w.b) else (-1, -1)
def sortedC (c : List Df) (q : Qy) (s n : Int) : Int := addK [n, sortK (rowsQ c q s)]
def ownW (c : List Df) (q : Qy) (w : Pl) (a b : Int) : Int := if w.op = 1 then nestK (rowsQ c q a) (rowsQ c q b) else if w.op = 2 then hashK (rowsQ c q a) (rowsQ c q b) else mergeK (rowsQ c q a) (rowsQ c q b)
abbrev Ch := Int × Pl
def plO : Pl := .mk 0 0 0 0 []
def leastC : List Ch → Ch
  | [] => (0, plO)
  | x :: l => l.foldl (fun out y => if y.1 < out.1 then y else out) x
def wayC (c : List Df) (q : Qy) (f g : Int → Ch) (a b col : Int) (w : Pl) : List Ch :=
  if (mustP w col).1 ≠ -1 ∧ (q.cols c a).contains (mustP w col).1 = false then []
  else [(addK [(f (mustP w col).1).1, (g (mustP w col).2).1, ownW c q w a b], .mk w.op w.occ w.a w.b [(f (mustP w col).1).2, (g (mustP w col).2).2])]
def candC (c : List Df) (q : Qy) (f : Tr → Int → Ch) (t : Tr) (col : Int) : List Ch :=
  match t with
  | .mk o l =>
    match l with
    | [] => if col = -1 then [(costP c q (.mk 0 o 0 0 []), .mk 0 o 0 0 [])] else []
    | [x, y] => (waysP q x.set y.set col).flatMap (wayC c q (f x) (f y) x.set y.set col)
    | _ => []
def sortC (c : List Df) (q : Qy) (t : Tr) (col : Int) (x : Ch) : Ch := (sortedC c q t.set x.1, .mk 4 0 col 0 [x.2])
def bestF (c : List Df) (q : Qy) : Nat → Tr → Int → Ch
  | 0, _, _ => (0, plO)
  | d + 1, t, col => if col = -1 then leastC (candC c q (bestF c q d) t (-1)) else leastC (candC c q (bestF c q d) t col ++ [sortC c q t col (leastC (candC c q (bestF c q d) t (-1)))])
theorem innerL_snoc (op col : Int) (ps : List (Int × Int)) (i : Nat) (h : i < ps.length) : innerL op col (ps.take (i + 1)) = innerL op col (ps.take i) ++ (if (decide (col = -1) || (decide (op = 3) && decide (col = ps[i].1))) = true then [.mk op 0 ps[i].1 ps[i].2 []] else []) := by
  unfold innerL
  rw [List.take_succ_eq_append_getElem h, List.filter_append, List.map_append]
  congr 1
  cases hc : (decide (col = -1) || (decide (op = 3) && decide (col = ps[i].1)))
  · rw [List.filter_cons, hc]; rfl
  · rw [List.filter_cons, hc]; rfl
theorem innerL_len (op col : Int) (ps : List (Int × Int)) : (innerL op col ps).length ≤ ps.length := by
  unfold innerL
  rw [List.length_map]
  exact List.length_filter_le _ _
end
section
theorem foldC_spec (l : List Ch) : ∀ x : Ch, let r := l.foldl (fun out y => if y.1 < out.1 then y else out) x
    (r = x ∨ r ∈ l) ∧ r.1 ≤ x.1 ∧ ∀ y ∈ l, r.1 ≤ y.1 := by
  induction l with
  | nil => intro x; exact ⟨.inl rfl, Int.le_refl _, by simp⟩
  | cons y l ih =>
    intro x
    rw [List.foldl_cons]
    have h := ih (if y.1 < x.1 then y else x)
    generalize l.foldl (fun out y => if y.1 < out.1 then y else out) (if y.1 < x.1 then y else x) = r at h ⊢
    obtain ⟨h1, h2, h3⟩ := h
    by_cases hc : y.1 < x.1
    · rw [if_pos hc] at h1 h2
      refine ⟨?_, by omega, ?_⟩
      · rcases h1 with h1 | h1
        · right; rw [h1]; exact .head _
        · right; exact .tail _ h1
      · intro z hz
        rcases List.mem_cons.1 hz with rfl | hz
        · exact h2
        · exact h3 z hz
    · rw [if_neg hc] at h1 h2
      refine ⟨?_, h2, ?_⟩
      · rcases h1 with h1 | h1
        · left; exact h1
        · right; exact .tail _ h1
      · intro z hz
        rcases List.mem_cons.1 hz with rfl | hz
        · omega
        · exact h3 z hz
theorem leastC_mem {l : List Ch} (h : l ≠ []) : leastC l ∈ l := by
  match l, h with
  | x :: l, _ =>
    rw [leastC]
    rcases (foldC_spec l x).1 with h | h
    · rw [h]; exact .head _
    · exact .tail _ h
theorem leastC_le {l : List Ch} {x : Ch} (h : x ∈ l) : (leastC l).1 ≤ x.1 := by
  match l, h with
  | y :: l, h =>
    rw [leastC]
    obtain ⟨_, h2, h3⟩ := foldC_spec l y
    rcases List.mem_cons.1 h with rfl | h
    · exact h2
    · exact h3 x h
theorem cols_mem_iff {c : List Df} {q : Qy} (h : q.may c = true) (s x : Int) : (q.cols c s).contains x = true ↔ isCol c q x = true ∧ bitI s (x / 4).toNat = true := by
  rw [List.contains_iff_mem, Qy.cols, if_pos h, colsIn, List.mem_filter, Bool.and_eq_true]
  refine ⟨fun h => h.2, fun h => ⟨?_, h⟩⟩
  have := isCol_range h.1
  simp only [upto, List.mem_map, List.mem_range]
  exact ⟨x.toNat, by omega, by show ((x.toNat : Nat) : Int) = x; omega⟩
theorem isCol_pos {c : List Df} {q : Qy} {x : Int} (h : isCol c q x = true) : x ≠ -1 := by
  have := isCol_range h
  omega
theorem cols_l {c : List Df} {q : Qy} (h : q.may c = true) {a b x : Int} (hx : (q.cols c a).contains x = true) : (q.cols c (bor .i64 a b)).contains x = true := by
  rw [cols_mem_iff h] at hx ⊢
  have := isCol_range hx.1
  exact ⟨hx.1, by rw [bor_bit a b _ (by omega), hx.2]; rfl⟩
theorem pairs_cols {c : List Df} {q : Qy} (h : q.may c = true) {a b : Int} (h0 : band .i64 a b = 0) {p : Int × Int} (hp : (q.pairs a b).contains p = true) : (q.cols c a).contains p.1 = true ∧ (q.cols c b).contains p.2 = true := by
  have hd := apart_band h0
  rw [List.contains_iff_mem] at hp
  obtain ⟨h1, h2, h3, h4, _⟩ := pairs_mem hd hp
  rw [cols_mem_iff h, cols_mem_iff h]
  unfold Qy.pairs pairsF at hp
  rw [List.mem_flatMap] at hp
  obtain ⟨i, hi, hp⟩ := hp
  obtain ⟨hn, hm⟩ := new_mem hi
  rcases (pairOf_new hd hn).2 with ⟨_, h0⟩ | ⟨his, x, y, h0, _, _, _, _, _, h6⟩
  · rw [h0] at hp; cases hp
  · rw [h0, List.mem_singleton] at hp
    subst hp
    have hs := (pair_spec his).2.2.2.2
    have hc := ((may_split h).2.2.2.2.2.1 _ hm).2
    refine ⟨⟨hc _ ((hs _).2 (h6.elim (fun h => .inl h.1) fun h => .inr h.1)), h3⟩, ⟨hc _ ((hs _).2 (h6.elim (fun h => .inr h.2) fun h => .inl h.2)), h4⟩⟩
theorem ways_mem {q : Qy} {a b col : Int} {w : Pl} (h : w ∈ waysP q a b col) : w = nestW ∨ ∃ (op : Int) (p : Int × Int), w = .mk op 0 p.1 p.2 [] ∧ (q.pairs a b).contains p = true ∧ ((op = 2 ∧ col = -1) ∨ (op = 3 ∧ (col = -1 ∨ col = p.1))) := by
  unfold waysP at h
  have one : ∀ op : Int, w ∈ innerL op col (q.pairs a b) → ∃ p : Int × Int, w = .mk op 0 p.1 p.2 [] ∧ (q.pairs a b).contains p = true ∧ (col = -1 ∨ (op = 3 ∧ col = p.1)) := by
    intro op h
    unfold innerL at h
    rw [List.mem_map] at h
    obtain ⟨p, hp, rfl⟩ := h
    rw [List.mem_filter, Bool.or_eq_true, Bool.and_eq_true, decide_eq_true_eq, decide_eq_true_eq, decide_eq_true_eq] at hp
    exact ⟨p, rfl, List.contains_iff_mem.2 hp.1, hp.2⟩
  rcases List.mem_append.1 h with h | h
  · rcases List.mem_append.1 h with h | h
    · left; simpa using h
    · obtain ⟨p, h1, h2, h3⟩ := one 2 h
      exact .inr ⟨2, p, h1, h2, .inl ⟨rfl, by omega⟩⟩
  · obtain ⟨p, h1, h2, h3⟩ := one 3 h
    exact .inr ⟨3, p, h1, h2, .inr ⟨rfl, by omega⟩⟩
theorem ways_nest (q : Qy) (a b col : Int) : nestW ∈ waysP q a b col := by unfold waysP; simp
theorem ways_pair {q : Qy} {a b col : Int} {op : Int} {p : Int × Int} (hp : (q.pairs a b).contains p = true) (h : (op = 2 ∧ col = -1) ∨ (op = 3 ∧ (col = -1 ∨ col = p.1))) : Pl.mk op 0 p.1 p.2 [] ∈ waysP q a b col := by
  have one : ∀ op : Int, (col = -1 ∨ (op = 3 ∧ col = p.1)) → Pl.mk op 0 p.1 p.2 [] ∈ innerL op col (q.pairs a b) := by
    intro op h
    unfold innerL
    rw [List.mem_map]
    refine ⟨p, ?_, rfl⟩
    rw [List.mem_filter, Bool.or_eq_true, Bool.and_eq_true, decide_eq_true_eq, decide_eq_true_eq, decide_eq_true_eq]
    exact ⟨List.contains_iff_mem.1 hp, h⟩
  unfold waysP
  rcases h with ⟨rfl, h⟩ | ⟨rfl, h⟩
  · exact List.mem_append.2 (.inl (List.mem_append.2 (.inr (one 2 (.inl h)))))
  · exact List.mem_append.2 (.inr (one 3 (by omega)))
theorem setT_join {d : Nat} {x y : Tr} (h : (setT (d + 1) (.join x y)).2 = true) : (setT d x).2 = true ∧ (setT d y).2 = true ∧ band .i64 (setT d x).1 (setT d y).1 = 0 := by
  rw [Tr.join, setT_two, if_pos rfl] at h
  simp only [Bool.and_eq_true, decide_eq_true_eq] at h
  exact ⟨h.1.1, h.1.2, h.2⟩
theorem may_of_d {d : Nat} (hd : d ≤ 4) {t : Tr} (h : (setT d t).2 = true) : t.may = true ∧ t.set = (setT d t).1 := by
  have e := setT_le hd h
  have hm : t.may = true := by unfold Tr.may; rw [e]; exact h
  exact ⟨hm, by rw [set_of_may hm, e]⟩
theorem order_cols {c : List Df} {q : Qy} (p : Pl) : mayP c q p = true → p.order ≠ -1 → (q.cols c (treeP p).set).contains p.order = true := by
  induction p using Pl.ind with
  | h op occ a b l ih =>
  intro h ho
  obtain ⟨h1, h2, h3, h4, h5⟩ := mayP_iff.1 h
  have hsub := mayP_part h
  rcases form_split (few_own h2) with ⟨rfl, rfl⟩ | ⟨rfl, x, rfl⟩ | ⟨hop, x, y, rfl⟩
  · rw [Pl.order, if_pos h2, orderL, if_neg (by decide)] at ho
    exact absurd rfl ho
  · have e : (Pl.mk 4 occ a b [x]).order = a := by rw [Pl.order, if_pos h2, orderL, if_neg (by decide), if_pos (.inl rfl)]
    rw [e, treeP]
    exact fit_own h
  · rw [treeP] at h3 ⊢
    rw [(join_may h3).2.2.2]
    have hfx := few_part h2 (x := x) (by simp)
    rcases hop with rfl | rfl | rfl
    · have e : (Pl.mk 1 occ a b [x, y]).order = x.order := by rw [Pl.order, Pl.order, if_pos h2, if_pos hfx, orderL, if_pos rfl]
      rw [e] at ho ⊢
      exact cols_l h1 (ih x (by simp) (hsub x (by simp)) ho)
    · exact absurd hash_order ho
    · have e : (Pl.mk 3 occ a b [x, y]).order = a := by rw [Pl.order, if_pos h2, orderL, if_neg (by decide), if_pos (.inr rfl)]
      rw [e]
      exact cols_l h1 (pairs_cols h1 (join_may h3).2.2.1 (fit_two (.inr rfl) (fit_own h)).1).1
theorem addK_mono2 {a b x y : Int} (h1 : a ≤ x) (h2 : b ≤ y) : addK [a, b] ≤ addK [x, y] := by
  rw [addK_eq, addK_eq]
  simp only [sumK, List.map_cons, List.map_nil, List.foldr_cons, List.foldr_nil]
  omega
theorem addK_mono3 {a b x y o : Int} (h1 : a ≤ x) (h2 : b ≤ y) : addK [a, b, o] ≤ addK [x, y, o] := by
  rw [addK_eq, addK_eq]
  simp only [sumK, List.map_cons, List.map_nil, List.foldr_cons, List.foldr_nil]
  omega
theorem wayC_mem {c : List Df} {q : Qy} {f g : Int → Ch} {a b col : Int} {w : Pl} (h : (mustP w col).1 = -1 ∨ (q.cols c a).contains (mustP w col).1 = true) :
    (addK [(f (mustP w col).1).1, (g (mustP w col).2).1, ownW c q w a b], Pl.mk w.op w.occ w.a w.b [(f (mustP w col).1).2, (g (mustP w col).2).2]) ∈ wayC c q f g a b col w := by
  unfold wayC
  rw [if_neg]
  · exact List.mem_singleton.2 rfl
  · rintro ⟨h1, h2⟩
    rcases h with h | h
    · exact h1 h
    · rw [h] at h2; cases h2
theorem best_le {c : List Df} {q : Qy} (p : Pl) : ∀ (d : Nat) (col : Int), d ≤ 4 → (setT d (treeP p)).2 = true → mayP c q p = true → (col = -1 ∨ p.order = col) → (bestF c q d (treeP p) col).1 ≤ costP c q p := by
  induction p using Pl.ind with
  | h op occ a b l ih =>
  intro d col hd hs h hcol
  obtain ⟨h1, h2, h3, h4, h5⟩ := mayP_iff.1 h
  have hsub := mayP_part h
  obtain ⟨d, rfl⟩ : ∃ d', d = d' + 1 := by
    cases d with
    | zero => simp [setT] at hs
    | succ d => exact ⟨d, rfl⟩
  rcases form_split (few_own h2) with ⟨rfl, rfl⟩ | ⟨rfl, x, rfl⟩ | ⟨hop, x, y, rfl⟩
  · have hab : a = 0 ∧ b = 0 := by
      have := few_own h2
      simp [Pl.form, Pl.op, Pl.b, Pl.a, Pl.occ, Pl.l, plansP] at this
      exact ⟨of_decide_eq_true this.1, of_decide_eq_true this.2⟩
    obtain ⟨rfl, rfl⟩ := hab
    have ho : (Pl.mk 0 occ 0 0 []).order = -1 := by rw [Pl.order, if_pos h2, orderL, if_neg (by decide)]
    have hc : col = -1 := by rcases hcol with h | h <;> omega
    subst hc
    rw [treeP, bestF, if_pos rfl]
    exact Int.le_refl _
  · have ho : (Pl.mk 4 occ a b [x]).order = a := by rw [Pl.order, if_pos h2, orderL, if_neg (by decide), if_pos (.inl rfl)]
    have hc := costP_mk h
    rw [treeP] at hs ⊢
    have hx := ih x (by simp) (d + 1) (-1) hd hs (hsub x (by simp)) (.inl rfl)
    have hle := (cost_sub h).1 x (by simp)
    by_cases hcol1 : col = -1
    · subst hcol1
      omega
    · have hca : col = a := by rcases hcol with h | h <;> omega
      subst hca
      rw [bestF, if_neg hcol1]
      have e1 : bestF c q (d + 1) (treeP x) (-1) = leastC (candC c q (bestF c q d) (treeP x) (-1)) := by rw [bestF, if_pos rfl]
      rw [← e1]
      refine Int.le_trans (leastC_le (List.mem_append.2 (.inr (List.mem_singleton.2 rfl)))) ?_
      rw [hc]
      exact addK_mono2 hx (Int.le_refl _)
  · rw [treeP] at hs h3 ⊢
    obtain ⟨sx, sy, s0⟩ := setT_join hs
    have mx := may_of_d (by omega) sx
    have my := may_of_d (by omega) sy
    have hb0 : band .i64 (treeP x).set (treeP y).set = 0 := by rw [mx.2, my.2]; exact s0
    have hc := costP_mk h
    have hfx := few_part h2 (x := x) (by simp)
    have cand : ∀ w ∈ waysP q (treeP x).set (treeP y).set col, ((mustP w col).1 = -1 ∨ (q.cols c (treeP x).set).contains (mustP w col).1 = true) →
        (bestF c q (d + 1) (.join (treeP x) (treeP y)) col).1 ≤ addK [(bestF c q d (treeP x) (mustP w col).1).1, (bestF c q d (treeP y) (mustP w col).2).1, ownW c q w (treeP x).set (treeP y).set] := by
      intro w hw hm
      have hin : (addK [(bestF c q d (treeP x) (mustP w col).1).1, (bestF c q d (treeP y) (mustP w col).2).1, ownW c q w (treeP x).set (treeP y).set], Pl.mk w.op w.occ w.a w.b [(bestF c q d (treeP x) (mustP w col).1).2, (bestF c q d (treeP y) (mustP w col).2).2]) ∈ candC c q (bestF c q d) (.join (treeP x) (treeP y)) col :=
        List.mem_flatMap.2 ⟨w, hw, wayC_mem hm⟩
      rw [bestF]
      split
      · rename_i hcc
        subst hcc
        exact leastC_le (x := (_, _)) hin
      · exact leastC_le (x := (_, _)) (List.mem_append.2 (.inl hin))
    rcases hop with rfl | rfl | rfl
    · have ho : (Pl.mk 1 occ a b [x, y]).order = x.order := by rw [Pl.order, Pl.order, if_pos h2, if_pos hfx, orderL, if_pos rfl]
      rw [ho] at hcol
      have h6 := cand nestW (ways_nest q _ _ col) (by
        show col = -1 ∨ _
        by_cases hc1 : col = -1
        · exact .inl hc1
        · right
          have hxo : x.order = col := by rcases hcol with h | h; exact absurd h hc1; exact h
          have := order_cols x (hsub x (by simp)) (by rw [hxo]; exact hc1)
          rw [hxo] at this
          exact this)
      refine Int.le_trans h6 ?_
      rw [hc]
      exact addK_mono3 (ih x (by simp) d col (by omega) sx (hsub x (by simp)) hcol) (ih y (by simp) d (-1) (by omega) sy (hsub y (by simp)) (.inl rfl))
    · have hc1 : col = -1 := by
        rcases hcol with h | h
        · exact h
        · rw [hash_order] at h; exact h.symm
      subst hc1
      have hft := fit_two (.inl rfl) (fit_own h)
      have h6 := cand (.mk 2 0 a b []) (ways_pair (p := (a, b)) hft.1 (.inl ⟨rfl, rfl⟩)) (.inl rfl)
      refine Int.le_trans h6 ?_
      rw [hc]
      exact addK_mono3 (ih x (by simp) d (-1) (by omega) sx (hsub x (by simp)) (.inl rfl)) (ih y (by simp) d (-1) (by omega) sy (hsub y (by simp)) (.inl rfl))
    · have ho : (Pl.mk 3 occ a b [x, y]).order = a := by rw [Pl.order, if_pos h2, orderL, if_neg (by decide), if_pos (.inr rfl)]
      rw [ho] at hcol
      have hft := fit_two (.inr rfl) (fit_own h)
      have hor : x.order = a ∧ y.order = b := by rcases hft.2 with h | h; exact absurd h (by decide); exact h
      have h6 := cand (.mk 3 0 a b []) (ways_pair (p := (a, b)) hft.1 (.inr ⟨rfl, by rcases hcol with h | h; exact .inl h; exact .inr h.symm⟩)) (.inr (pairs_cols h1 hb0 hft.1).1)
      refine Int.le_trans h6 ?_
      rw [hc]
      exact addK_mono3 (ih x (by simp) d a (by omega) sx (hsub x (by simp)) (.inr hor.1)) (ih y (by simp) d b (by omega) sy (hsub y (by simp)) (.inr hor.2))
theorem few_mk {op occ a b : Int} {l : List Pl} (h : (Pl.mk op occ a b l).form = true) (hl : ∀ x ∈ l, x.few = true) (hn : 1 + (partsPl l).length ≤ 20) : (Pl.mk op occ a b l).few = true := by
  unfold Pl.few
  rw [parts_mk, List.all_cons, h, List.length_cons, Bool.true_and, Bool.and_eq_true, decide_eq_true_eq]
  refine ⟨by omega, ?_⟩
  clear hn h
  induction l with
  | nil => rfl
  | cons x l ih =>
    rw [partsPl_cons, List.all_append, Bool.and_eq_true]
    exact ⟨few_forms (hl x (.head _)), ih fun y hy => hl y (.tail _ hy)⟩
theorem two_of {c : List Df} {q : Qy} {op a b : Int} {x y : Pl} (hx : mayP c q x = true) (hy : mayP c q y = true) (h0 : band .i64 (treeP x).set (treeP y).set = 0) (hf : (Pl.mk op 0 a b [x, y]).form = true) (hn : 1 + ((parts x).length + (parts y).length) ≤ 20)
    (hfit : fitP c q (.mk op 0 a b [x, y]) = true) : mayP c q (.mk op 0 a b [x, y]) = true := by
  obtain ⟨h1, h2, h3, h4, h5⟩ := mayP_iff.1 hx
  obtain ⟨_, k2, k3, k4, k5⟩ := mayP_iff.1 hy
  have hj := may_join h3 k3 h0
  have ra := (treeP x).set_range
  have rb := (treeP y).set_range
  have hfew : (Pl.mk op 0 a b [x, y]).few = true := by
    refine few_mk hf (fun z hz => ?_) ?_
    · simp only [List.mem_cons, List.not_mem_nil, or_false] at hz
      rcases hz with rfl | rfl
      · exact h2
      · exact k2
    · rw [partsPl_cons, partsPl_cons, partsPl, List.append_nil, List.length_append]
      exact hn
  refine mayP_iff.2 ⟨h1, hfew, by rw [treeP]; exact hj, ?_, ?_⟩
  · rw [treeP, (join_may hj).2.2.2, bor_lt ra.1 ra.2 rb.1 rb.2 (may_len h1)]
    exact ⟨h4, k4⟩
  · rw [parts_all, partsPl_cons, partsPl_cons, partsPl, List.append_nil, List.all_append, h5, k5, hfit]
    rfl
def Good (c : List Df) (q : Qy) (d : Nat) (t : Tr) (col : Int) (x : Ch) : Prop :=
  mayP c q x.2 = true ∧ treeP x.2 = t ∧ costP c q x.2 = x.1 ∧ (col ≠ -1 → x.2.order = col) ∧ (parts x.2).length + (if col = -1 then 3 else 2) ≤ 4 * (lvsT d t).1.length
theorem lv4 {d : Nat} {t : Tr} (h : (setT d t).2 = true) : (lvsT d t).1.length ≤ 4 := by
  have := (set_lvs d t).1.1 h
  exact nodup4 this.2 (lvsT_range d t this.1)
theorem way_good {c : List Df} {q : Qy} {d : Nat} {a b : Tr} {col : Int} (hq : q.may c = true) (hd : d + 1 ≤ 4) (hs : (setT (d + 1) (.join a b)).2 = true) (f : Tr → Int → Ch)
    (ha : ∀ x, x = -1 ∨ (q.cols c a.set).contains x = true → Good c q d a x (f a x)) (hb : ∀ x, x = -1 ∨ (q.cols c b.set).contains x = true → Good c q d b x (f b x)) {w : Pl} (hw : w ∈ waysP q a.set b.set col)
    (hm : (mustP w col).1 = -1 ∨ (q.cols c a.set).contains (mustP w col).1 = true) :
    Good c q (d + 1) (.join a b) col (addK [(f a (mustP w col).1).1, (f b (mustP w col).2).1, ownW c q w a.set b.set], .mk w.op w.occ w.a w.b [(f a (mustP w col).1).2, (f b (mustP w col).2).2]) := by
  obtain ⟨sx, sy, s0⟩ := setT_join hs
  have mx := may_of_d (by omega) sx
  have my := may_of_d (by omega) sy
  have hb0 : band .i64 a.set b.set = 0 := by rw [mx.2, my.2]; exact s0
  have hlv : (lvsT (d + 1) (.join a b)).1.length = (lvsT d a).1.length + (lvsT d b).1.length := by
    rw [Tr.join, lvsT_two, if_pos rfl, List.length_append]
  have h4 := lv4 hs
  have hA := ha (mustP w col).1 hm
  have hB : (mustP w col).2 = -1 ∨ (q.cols c b.set).contains (mustP w col).2 = true := by
    rcases ways_mem hw with rfl | ⟨op, p, rfl, hp, h⟩
    · exact .inl rfl
    · rcases h with ⟨rfl, _⟩ | ⟨rfl, _⟩
      · exact .inl rfl
      · exact .inr (pairs_cols hq hb0 hp).2
  have hB := hb _ hB
  generalize hx : f a (mustP w col).1 = x at hA
  generalize hy : f b (mustP w col).2 = y at hB
  obtain ⟨a1, a2, a3, a4, a5⟩ := hA
  obtain ⟨b1, b2, b3, b4, b5⟩ := hB
  have hn : (parts x.2).length + (parts y.2).length + 4 ≤ 4 * (lvsT (d + 1) (.join a b)).1.length := by
    rw [hlv]
    split at a5 <;> split at b5 <;> omega
  have fin : ∀ op p1 p2 : Int, w = .mk op 0 p1 p2 [] → (Pl.mk op 0 p1 p2 [x.2, y.2]).form = true → fitP c q (.mk op 0 p1 p2 [x.2, y.2]) = true → (col ≠ -1 → (Pl.mk op 0 p1 p2 [x.2, y.2]).few = true → (Pl.mk op 0 p1 p2 [x.2, y.2]).order = col) → ownC c q (.mk op 0 p1 p2 [x.2, y.2]) = ownW c q w a.set b.set →
      Good c q (d + 1) (.join a b) col (addK [x.1, y.1, ownW c q w a.set b.set], .mk w.op w.occ w.a w.b [x.2, y.2]) := by
    intro op p1 p2 hwe hf hfit ho hown
    subst hwe
    have hmay := two_of a1 b1 (by rw [a2, b2]; exact hb0) hf (by omega) hfit
    refine ⟨hmay, ?_, ?_, fun hc => ho hc (mayP_iff.1 hmay).2.1, ?_⟩
    · show treeP (.mk op 0 p1 p2 [x.2, y.2]) = _
      rw [treeP, a2, b2]
    · show costP c q (.mk op 0 p1 p2 [x.2, y.2]) = addK [x.1, y.1, _]
      rw [costP_mk hmay, ← hown, ← a3, ← b3]
      rfl
    · show (parts (.mk op 0 p1 p2 [x.2, y.2])).length + _ ≤ _
      rw [parts_mk, partsPl_cons, partsPl_cons, partsPl, List.append_nil, List.length_cons, List.length_append]
      split <;> omega
  rcases ways_mem hw with rfl | ⟨op, p, rfl, hp, h⟩
  · refine fin 1 0 0 rfl rfl rfl (fun hc hf => ?_) ?_
    · rw [nest_order hf]
      exact a4 hc
    · show nestK (rowsQ c q (treeP x.2).set) (rowsQ c q (treeP y.2).set) = nestK _ _
      rw [a2, b2]
  · rcases h with ⟨rfl, h⟩ | ⟨rfl, h⟩
    · refine fin 2 p.1 p.2 rfl (form_two (.inl rfl)) (fit_of (by rw [a2, b2]; exact hp) (.inl rfl)) (fun hc => absurd h hc) ?_
      show hashK (rowsQ c q (treeP x.2).set) (rowsQ c q (treeP y.2).set) = hashK _ _
      rw [a2, b2]
    · have hpc := pairs_cols hq hb0 hp
      have n1 := isCol_pos ((cols_mem_iff hq _ _).1 hpc.1).1
      have n2 := isCol_pos ((cols_mem_iff hq _ _).1 hpc.2).1
      refine fin 3 p.1 p.2 rfl (form_two (.inr rfl)) (fit_of (by rw [a2, b2]; exact hp) (.inr ⟨a4 n1, b4 n2⟩)) (fun hc hf => ?_) ?_
      · rw [Pl.order, if_pos hf, orderL, if_neg (by decide), if_pos (.inr rfl)]
        rcases h with h | h
        · exact absurd h hc
        · exact h.symm
      · show mergeK (rowsQ c q (treeP x.2).set) (rowsQ c q (treeP y.2).set) = mergeK _ _
        rw [a2, b2]
theorem cand_good {c : List Df} {q : Qy} {d : Nat} {a b : Tr} {col : Int} (hq : q.may c = true) (hd : d + 1 ≤ 4) (hs : (setT (d + 1) (.join a b)).2 = true) (f : Tr → Int → Ch)
    (ha : ∀ x, x = -1 ∨ (q.cols c a.set).contains x = true → Good c q d a x (f a x)) (hb : ∀ x, x = -1 ∨ (q.cols c b.set).contains x = true → Good c q d b x (f b x)) {x : Ch} (hx : x ∈ candC c q f (.join a b) col) : Good c q (d + 1) (.join a b) col x := by
  have hx' : x ∈ (waysP q a.set b.set col).flatMap (wayC c q (f a) (f b) a.set b.set col) := hx
  rw [List.mem_flatMap] at hx'
  obtain ⟨w, hw, hx'⟩ := hx'
  unfold wayC at hx'
  split at hx'
  · cases hx'
  · rename_i hn
    rw [List.mem_singleton] at hx'
    subst hx'
    refine way_good hq hd hs f ha hb hw ?_
    by_cases h1 : (mustP w col).1 = -1
    · exact .inl h1
    · right
      rcases Bool.eq_false_or_eq_true ((q.cols c a.set).contains (mustP w col).1) with h2 | h2
      · exact h2
      · exact absurd ⟨h1, h2⟩ hn
theorem leaf_good {c : List Df} {q : Qy} {d : Nat} {o : Int} (hq : q.may c = true) (hs : (setT (d + 1) (.mk o [])).2 = true) (hlt : (Tr.leaf o).set < 2 ^ q.occ.length) : Good c q (d + 1) (.leaf o) (-1) (costP c q (.mk 0 o 0 0 []), .mk 0 o 0 0 []) := by
  have ho : 0 ≤ o ∧ o < 4 := by rw [setT_nil] at hs; simpa using hs
  refine ⟨mayP_iff.2 ⟨hq, by rfl, by rw [treeP, leaf_may]; simp [ho], by rw [treeP]; exact hlt, by rw [parts_all]; rfl⟩, by rw [treeP], rfl, fun h => absurd rfl h, ?_⟩
  rw [parts_mk, partsPl, Tr.leaf, lvsT_nil]
  exact Nat.le_refl _
theorem sort_good {c : List Df} {q : Qy} {d : Nat} {t : Tr} {col : Int} {x : Ch} (hs : (setT d t).2 = true) (hc : col ≠ -1) (hcol : (q.cols c t.set).contains col = true) (hx : Good c q d t (-1) x) : Good c q d t col (sortC c q t col x) := by
  obtain ⟨a1, a2, a3, _, a5⟩ := hx
  rw [if_pos rfl] at a5
  have h4 := lv4 hs
  have hfew : (Pl.mk 4 0 col 0 [x.2]).few = true := by
    refine few_mk (by simp [Pl.form, Pl.op, Pl.b, Pl.a, Pl.occ, Pl.l, plansP]) (fun z hz => ?_) ?_
    · rw [List.mem_singleton] at hz
      subst hz
      exact (mayP_iff.1 a1).2.1
    · rw [partsPl_cons, partsPl, List.append_nil]
      omega
  have hmay : mayP c q (.mk 4 0 col 0 [x.2]) = true := by rw [sort_may a1 hfew, a2]; exact hcol
  refine ⟨hmay, ?_, ?_, fun _ => sort_order hfew, ?_⟩
  · show treeP (.mk 4 0 col 0 [x.2]) = t
    rw [treeP, a2]
  · show costP c q (.mk 4 0 col 0 [x.2]) = sortedC c q t.set x.1
    rw [sort_cost hmay, a2, a3]
    rfl
  · show (parts (.mk 4 0 col 0 [x.2])).length + _ ≤ _
    rw [parts_mk, partsPl_cons, partsPl, List.append_nil, List.length_cons, if_neg hc]
    omega
theorem tr_form {d : Nat} {t : Tr} (h : (setT (d + 1) t).2 = true) : (∃ o, t = .leaf o) ∨ ∃ a b, t = .join a b := by
  obtain ⟨o, l⟩ := t
  match l, h with
  | [], _ => exact .inl ⟨o, rfl⟩
  | [a], h => rw [setT_one] at h; cases h
  | [a, b], h =>
    rw [setT_two] at h
    by_cases ho : o = 0
    · subst ho; exact .inr ⟨a, b, rfl⟩
    · rw [if_neg ho] at h; cases h
  | a :: b :: e :: l, h => rw [setT_more] at h; cases h
theorem best_good {c : List Df} {q : Qy} (hq : q.may c = true) : ∀ (d : Nat) (t : Tr) (col : Int), d ≤ 4 → (setT d t).2 = true → t.set < 2 ^ q.occ.length → (col = -1 ∨ (q.cols c t.set).contains col = true) → Good c q d t col (bestF c q d t col) := by
  intro d
  induction d with
  | zero => intro t col _ h; simp [setT] at h
  | succ d ih =>
  intro t col hd hs hlt hcol
  have hcand : (∀ col x, x ∈ candC c q (bestF c q d) t col → Good c q (d + 1) t col x) ∧ candC c q (bestF c q d) t (-1) ≠ [] := by
    rcases tr_form hs with ⟨o, rfl⟩ | ⟨a, b, rfl⟩
    · refine ⟨fun col x hx => ?_, by simp [candC, Tr.leaf]⟩
      simp only [candC, Tr.leaf] at hx
      split at hx
      · rename_i h
        subst h
        rw [List.mem_singleton] at hx
        subst hx
        exact leaf_good hq hs hlt
      · cases hx
    · obtain ⟨sx, sy, s0⟩ := setT_join hs
      have mx := may_of_d (by omega) sx
      have my := may_of_d (by omega) sy
      have mt := (may_of_d hd hs).1
      have ra := a.set_range
      have rb := b.set_range
      have hl2 := hlt
      rw [(join_may mt).2.2.2, bor_lt ra.1 ra.2 rb.1 rb.2 (may_len hq)] at hl2
      refine ⟨fun col x hx => cand_good hq hd hs _ (fun y hy => ih a y (by omega) sx hl2.1 hy) (fun y hy => ih b y (by omega) sy hl2.2 hy) hx, ?_⟩
      have h1 := wayC_mem (c := c) (q := q) (f := bestF c q d a) (g := bestF c q d b) (a := a.set) (b := b.set) (col := -1) (w := nestW) (.inl rfl)
      have h2 : _ ∈ candC c q (bestF c q d) (.join a b) (-1) := List.mem_flatMap.2 ⟨nestW, ways_nest q _ _ _, h1⟩
      exact fun h => by rw [h] at h2; cases h2
  have hnone : Good c q (d + 1) t (-1) (leastC (candC c q (bestF c q d) t (-1))) := hcand.1 _ _ (leastC_mem hcand.2)
  rw [bestF]
  split
  · rename_i h
    subst h
    exact hnone
  · rename_i h
    have hc : (q.cols c t.set).contains col = true := by rcases hcol with h2 | h2; exact absurd h2 h; exact h2
    rcases List.mem_append.1 (leastC_mem (l := candC c q (bestF c q d) t col ++ [sortC c q t col (leastC (candC c q (bestF c q d) t (-1)))]) (by simp)) with h2 | h2
    · exact hcand.1 _ _ h2
    · rw [List.mem_singleton] at h2
      rw [h2]
      exact sort_good hs h hc hnone
end
section
def leafSet (s : Int) : List Tr := ((List.range 4).filter fun (o : Nat) => decide (s = 2 ^ o)).map fun (o : Nat) => Tr.leaf (o : Int)
def cutT (f : Int → List Tr) (s a : Int) : List Tr := if (decide (a < s) && decide (band .i64 a s = a)) = true then (f a).flatMap fun x => (f (s - a)).map fun y => Tr.join x y else []
def allT : Nat → Int → List Tr
  | 0, _ => []
  | d + 1, s => if 1 ≤ s ∧ s < 16 then leafSet s ++ (List.range 15).flatMap fun (k : Nat) => cutT (allT d) s ((k : Int) + 1) else []
end
section
theorem cut16 {a b : Int} (a0 : 1 ≤ a) (a1 : a ≤ 15) (b0 : 1 ≤ b) (b1 : b ≤ 15) (h : band .i64 a b = 0) : bor .i64 a b = a + b ∧ a + b ≤ 15 ∧ band .i64 a (a + b) = a := by
  obtain ⟨i, rfl⟩ : ∃ i : Fin 16, a = (i.val : Int) := ⟨⟨a.toNat, by omega⟩, by simp; omega⟩
  obtain ⟨j, rfl⟩ : ∃ j : Fin 16, b = (j.val : Int) := ⟨⟨b.toNat, by omega⟩, by simp; omega⟩
  clear a0 a1 b0 b1
  revert i j
  decide +kernel
theorem uncut16 {a s : Int} (a0 : 1 ≤ a) (s1 : s ≤ 15) (h : a < s) (hb : band .i64 a s = a) : band .i64 a (s - a) = 0 ∧ bor .i64 a (s - a) = s := by
  obtain ⟨i, rfl⟩ : ∃ i : Fin 16, a = (i.val : Int) := ⟨⟨a.toNat, by omega⟩, by simp; omega⟩
  obtain ⟨j, rfl⟩ : ∃ j : Fin 16, s = (j.val : Int) := ⟨⟨s.toNat, by omega⟩, by simp; omega⟩
  clear a0 s1
  revert i j
  decide +kernel
theorem setT_pos : ∀ (d : Nat) (t : Tr), (setT d t).2 = true → 1 ≤ (setT d t).1
  | 0, _, h => by simp [setT] at h
  | d + 1, t, h => by
    rcases tr_form h with ⟨o, rfl⟩ | ⟨a, b, rfl⟩
    · rw [Tr.leaf, setT_nil]
      have h1 := tmod4 o
      have := pow2_cases (n := (max (o.tmod 4) 0).toNat) (by omega)
      dsimp only
      omega
    · obtain ⟨ha, hb, h0⟩ := setT_join h
      have pa := setT_pos d a ha
      have pb := setT_pos d b hb
      have ra := setT_range d a
      have rb := setT_range d b
      rw [Tr.join, setT_two, if_pos rfl]
      have := cut16 pa ra.2 pb rb.2 h0
      dsimp only
      omega
theorem leafSet_mem {s : Int} {t : Tr} : t ∈ leafSet s ↔ ∃ o : Nat, o < 4 ∧ s = 2 ^ o ∧ t = .leaf (o : Int) := by
  unfold leafSet
  simp only [List.mem_map, List.mem_filter, List.mem_range, decide_eq_true_eq]
  constructor
  · rintro ⟨o, ⟨h1, h2⟩, rfl⟩; exact ⟨o, h1, h2, rfl⟩
  · rintro ⟨o, h1, h2, rfl⟩; exact ⟨o, ⟨h1, h2⟩, rfl⟩
theorem cutT_mem {f : Int → List Tr} {s a : Int} {t : Tr} : t ∈ cutT f s a ↔ (a < s ∧ band .i64 a s = a) ∧ ∃ x ∈ f a, ∃ y ∈ f (s - a), t = .join x y := by
  unfold cutT
  simp only [Bool.and_eq_true, decide_eq_true_eq]
  split
  · rename_i h
    simp only [List.mem_flatMap, List.mem_map]
    constructor
    · rintro ⟨x, hx, y, hy, rfl⟩; exact ⟨h, x, hx, y, hy, rfl⟩
    · rintro ⟨_, x, hx, y, hy, rfl⟩; exact ⟨x, hx, y, hy, rfl⟩
  · rename_i h
    constructor
    · intro h; cases h
    · rintro ⟨h2, _⟩; exact absurd h2 h
theorem allT_mem : ∀ (d : Nat) (s : Int) (t : Tr), t ∈ allT d s ↔ (setT d t).2 = true ∧ (setT d t).1 = s
  | 0, s, t => by simp [allT, setT]
  | d + 1, s, t => by
    rw [allT]
    constructor
    · intro h
      split at h
      · rename_i hs
        rcases List.mem_append.1 h with h | h
        · obtain ⟨o, ho, rfl, rfl⟩ := leafSet_mem.1 h
          rw [Tr.leaf, setT_nil]
          have hc : o = 0 ∨ o = 1 ∨ o = 2 ∨ o = 3 := by omega
          rcases hc with rfl | rfl | rfl | rfl <;> decide
        · obtain ⟨k, _, hk⟩ := List.mem_flatMap.1 h
          obtain ⟨⟨h1, h2⟩, x, hx, y, hy, rfl⟩ := cutT_mem.1 hk
          obtain ⟨x1, x2⟩ := (allT_mem d _ x).1 hx
          obtain ⟨y1, y2⟩ := (allT_mem d _ y).1 hy
          have hu := uncut16 (a := (k : Int) + 1) (s := s) (by omega) (by omega) h1 h2
          rw [Tr.join, setT_two, if_pos rfl, x1, x2, y1, y2, hu.1, hu.2]
          exact ⟨rfl, rfl⟩
      · cases h
    · rintro ⟨h1, h2⟩
      have hp := setT_pos _ _ h1
      have hr := setT_range (d + 1) t
      rw [h2] at hp hr
      rw [if_pos ⟨hp, by omega⟩]
      rcases tr_form h1 with ⟨o, rfl⟩ | ⟨a, b, rfl⟩
      · refine List.mem_append.2 (.inl (leafSet_mem.2 ?_))
        rw [Tr.leaf, setT_nil] at h1 h2
        simp only [Bool.and_eq_true, decide_eq_true_eq] at h1
        refine ⟨o.toNat, by omega, ?_, by rw [Int.toNat_of_nonneg h1.1]⟩
        dsimp only at h2
        rw [← h2]
        have hc : o = 0 ∨ o = 1 ∨ o = 2 ∨ o = 3 := by omega
        rcases hc with rfl | rfl | rfl | rfl <;> decide
      · obtain ⟨ha, hb, h0⟩ := setT_join h1
        have pa := setT_pos d a ha
        have pb := setT_pos d b hb
        have ra := setT_range d a
        have rb := setT_range d b
        have hc := cut16 pa ra.2 pb rb.2 h0
        rw [Tr.join, setT_two, if_pos rfl] at h2
        dsimp only at h2
        rw [hc.1] at h2
        refine List.mem_append.2 (.inr (List.mem_flatMap.2 ⟨((setT d a).1 - 1).toNat, List.mem_range.2 (by omega), ?_⟩))
        have e : ((((setT d a).1 - 1).toNat : Nat) : Int) + 1 = (setT d a).1 := by omega
        rw [e]
        refine cutT_mem.2 ⟨⟨by omega, by rw [← h2]; exact hc.2.2⟩, a, (allT_mem d _ a).2 ⟨ha, rfl⟩, b, (allT_mem d _ b).2 ⟨hb, by omega⟩, rfl⟩
theorem all_mem {s : Int} {t : Tr} (hs : 1 ≤ s) : t ∈ allT 4 s ↔ t.may = true ∧ t.set = s := by
  rw [allT_mem]
  constructor
  · rintro ⟨h1, h2⟩
    exact ⟨h1, by rw [Tr.set, if_pos (show t.may = true from h1)]; exact h2⟩
  · rintro ⟨h1, h2⟩
    rw [Tr.set, if_pos h1] at h2
    exact ⟨h1, h2⟩
end
section
attribute [local push_cast] encPl_mk encPl_take encPl_len encPl_one encPls_pure encPl_pure encT_pure encT_len encT_one encT_take
theorem encPls_all5 (l : List Pl) : ∀ e ∈ l.map encPl, e.length = 5 := by
  simp only [List.mem_map]
  rintro _ ⟨x, _, rfl⟩
  exact encPl_len x
theorem sealLL_snoc {π : Nat → Option Nat} {H H' : AH} {v u : List AV} : ∀ {vs us : List (List AV)}, SealLL π H H' vs us → SealL π H H' v u → SealLL π H H' (vs ++ [v]) (us ++ [u])
  | [], [], _, h => by rw [List.nil_append, List.nil_append, slll_cons, slll_nil]; exact ⟨h, trivial⟩
  | a :: vs, b :: us, h0, h => by
    rw [slll_cons] at h0
    rw [List.cons_append, List.cons_append, slll_cons]
    exact ⟨h0.1, sealLL_snoc h0.2 h⟩
  | [], b :: us, h0, _ => by simp [SealLL] at h0
  | a :: vs, [], h0, _ => by simp [SealLL] at h0
def outW (col : Int) (ps : List (Int × Int)) : Nat → List Pl
  | 0 => [nestW]
  | 1 => [nestW] ++ innerL 2 col ps
  | _ => [nestW] ++ innerL 2 col ps ++ innerL 3 col ps
def curW (B : List Pl) (op col : Int) (ps : List (Int × Int)) (i : Nat) : List Pl := B ++ innerL op col (ps.take i)
theorem curW_zero (B : List Pl) (op col : Int) (ps : List (Int × Int)) : curW B op col ps 0 = B := by rw [curW, List.take_zero]; exact List.append_nil B
theorem curW_len (B : List Pl) (op col : Int) (ps : List (Int × Int)) (i : Nat) : (curW B op col ps i).length ≤ B.length + ps.length := by
  rw [curW, List.length_append]
  have := innerL_len op col (ps.take i)
  rw [List.length_take] at this
  omega
theorem outW_len (col : Int) (ps : List (Int × Int)) (k : Nat) : (outW col ps k).length ≤ 1 + ps.length + ps.length := by
  have h2 := innerL_len 2 col ps
  have h3 := innerL_len 3 col ps
  match k with
  | 0 => rw [outW, List.length_singleton]; omega
  | 1 => rw [outW, List.length_append, List.length_singleton]; omega
  | _ + 2 => rw [outW, List.length_append, List.length_append, List.length_singleton]; omega; all_goals simp
set_option maxHeartbeats 4000000 in
theorem Ways_ok (q : Qy) (hq : q.Ok) (a b col : Int) : Quiet Go.Proofs.Tryz.prog 121 [.agg (encQ q), .int a, .int b, .int col] (.sl ((waysP q a b col).map encPl)) := by
  have hP := Pairs_ok q hq a b
  have hple := pairs_le q hq a b
  unfold waysP
  generalize q.pairs a b = ps at hP hple ⊢
  have e1 : [nestW] ++ innerL 2 col ps ++ innerL 3 col ps = outW col ps 2 := rfl
  rw [e1]
  refine quiet_of (rs := #[.tmp 8]) Go.Proofs.Tryz.func121 rfl rfl rfl mixed rfl rfl fun H hs => ?_
  simp -implicitDefEqProofs only [push_cast, Nat.reduceAdd, Nat.reduceSub, Nat.reduceMul, Nat.reduceLT, Nat.reduceLeDiff, Nat.reduceEqDiff, Nat.reduceBEq, reduceCtorEq, reduceIte, Int.reduceLE, Int.reduceLT, Int.reduceNeg, Int.reduceToNat, encQ]
  refine callq hP ?_
  simp -implicitDefEqProofs only [push_cast, Nat.reduceAdd, Nat.reduceSub, Nat.reduceMul, Nat.reduceLT, Nat.reduceLeDiff, Nat.reduceEqDiff, Nat.reduceBEq, reduceCtorEq, reduceIte, Int.reduceLE, Int.reduceLT, Int.reduceNeg, Int.reduceToNat, encQ]
  refine loop_at hs (σ := Nat) (fun k => k ≤ 2) (fun k => 2 - k)
    (fun k => [(23, .int k), (22, .int 2), (21, .rsl (H.nxt + 2) 1 0 2), (10, .sl (ps.map encP)), (3, .int col), (9, .rsl (H.nxt + 1) 5 0 (outW col ps k).length)])
    (fun k => [none, some (.cells 5 ((outW col ps k).map encPl) 0), some (.cells 1 [[.int 2], [.int 3]] 0)]) [none, some 1, some 2] 0 (by omega) rfl ?_ ?_ ?_
  · (try simp -implicitDefEqProofs only [push_cast, Nat.reduceAdd, Nat.reduceSub, Nat.reduceMul, Nat.reduceLT, Nat.reduceLeDiff, Nat.reduceEqDiff, Nat.reduceBEq, reduceCtorEq, reduceIte, Int.reduceLE, Int.reduceLT, Int.reduceNeg, Int.reduceToNat, outW, rowP_pure, Int.reduceAdd, List.length_singleton])
  · (try simp -implicitDefEqProofs only [push_cast, Nat.reduceAdd, Nat.reduceSub, Nat.reduceMul, Nat.reduceLT, Nat.reduceLeDiff, Nat.reduceEqDiff, Nat.reduceBEq, reduceCtorEq, reduceIte, Int.reduceLE, Int.reduceLT, Int.reduceNeg, Int.reduceToNat, outW, nestW, List.map_cons, List.map_nil])
  intro k hk
  have hol := outW_len col ps k
  by_cases hk2 : k < 2
  · have hk' : ((k : Int) < 2) = True := by simp; omega
    have hk0 : (0 ≤ (k : Int)) = True := by simp
    obtain ⟨op, hop, hopk, hend⟩ : ∃ op : Int, ([[AV.int 2], [AV.int 3]] : List (List AV)).getD k [] = [.int op] ∧ op = 2 + k ∧ curW (outW col ps k) op col ps ps.length = outW col ps (k + 1) := by
      have hc : k = 0 ∨ k = 1 := by omega
      rcases hc with rfl | rfl
      · exact ⟨2, rfl, rfl, by rw [curW, List.take_length]; rfl⟩
      · exact ⟨3, rfl, rfl, by rw [curW, List.take_length]; rfl⟩
    simp -implicitDefEqProofs only [push_cast, Nat.reduceAdd, Nat.reduceSub, Nat.reduceMul, Nat.reduceLT, Nat.reduceLeDiff, Nat.reduceEqDiff, Nat.reduceBEq, reduceCtorEq, reduceIte, Int.reduceLE, Int.reduceLT, Int.reduceNeg, Int.reduceToNat, hk', hk0, hop]
    refine ⟨by omega, by omega, ?_⟩
    refine loop_at hs (σ := Nat) (fun i => i ≤ ps.length) (fun i => ps.length - i)
      (fun i => [(29, .int i), (28, .int ps.length), (27, .sl (ps.map encP)), (12, .int op), (23, .int k), (22, .int 2), (21, .rsl (H.nxt + 2) 1 0 2), (10, .sl (ps.map encP)), (3, .int col), (9, .rsl (H.nxt + 1) 5 0 (curW (outW col ps k) op col ps i).length)])
      (fun i => [none, some (.cells 5 ((curW (outW col ps k) op col ps i).map encPl) 0), some (.cells 1 [[.int 2], [.int 3]] 0)]) [none, some 1, some 2] 0 (by omega) rfl ?_ ?_ ?_
    · (try simp -implicitDefEqProofs only [push_cast, Nat.reduceAdd, Nat.reduceSub, Nat.reduceMul, Nat.reduceLT, Nat.reduceLeDiff, Nat.reduceEqDiff, Nat.reduceBEq, reduceCtorEq, reduceIte, Int.reduceLE, Int.reduceLT, Int.reduceNeg, Int.reduceToNat, hop, curW_zero, rowP_pure, Int.reduceAdd])
    · (try simp -implicitDefEqProofs only [push_cast, Nat.reduceAdd, Nat.reduceSub, Nat.reduceMul, Nat.reduceLT, Nat.reduceLeDiff, Nat.reduceEqDiff, Nat.reduceBEq, reduceCtorEq, reduceIte, Int.reduceLE, Int.reduceLT, Int.reduceNeg, Int.reduceToNat, curW_zero, encPls_pure])
      exact encPls_all5 _
    intro i hi2
    have hcl := curW_len (outW col ps k) op col ps i
    by_cases hi : i < ps.length
    · have hi' : ((i : Int) < (ps.length : Int)) = True := by simp; omega
      have hi0 : (0 ≤ (i : Int)) = True := by simp
      have hps := encPs_get ps i hi
      rw [encP] at hps
      have hsn := innerL_snoc op col ps i hi
      have hcs : curW (outW col ps k) op col ps (i + 1) = curW (outW col ps k) op col ps i ++ (if (decide (col = -1) || (decide (op = 3) && decide (col = ps[i].1))) = true then [.mk op 0 ps[i].1 ps[i].2 []] else []) := by
        rw [curW, hsn, ← List.append_assoc]; rfl
      generalize ps[i].1 = u at hps hcs
      generalize ps[i].2 = v at hps hcs
      generalize hrow : curW (outW col ps k) op col ps i = row at hcs hcl ⊢
      have hnext : ∀ row', row' = curW (outW col ps k) op col ps (i + 1) → True := fun _ _ => trivial
      simp -implicitDefEqProofs only [push_cast, Nat.reduceAdd, Nat.reduceSub, Nat.reduceMul, Nat.reduceLT, Nat.reduceLeDiff, Nat.reduceEqDiff, Nat.reduceBEq, reduceCtorEq, reduceIte, Int.reduceLE, Int.reduceLT, Int.reduceNeg, Int.reduceToNat, hi', hi0, hps]
      refine ⟨fun _ => by decide, fun h1 h2 => by rw [decide_eq_false h1, decide_eq_true h2]; rfl, fun h => ?_, fun h => ?_⟩
      · rw [h, if_pos rfl] at hcs
        have hrw : (curW (outW col ps k) op col ps (i + 1)).map encPl = row.map encPl ++ [encPl (.mk op 0 u v [])] := by rw [hcs, List.map_append]; rfl
        have hln : (curW (outW col ps k) op col ps (i + 1)).length = row.length + 1 := by rw [hcs, List.length_append]; rfl
        have hcap : List.take row.length (row.map encPl) = row.map encPl := List.take_of_length_le (by simp)
        rw [wrap64 (n := (i : Int) + 1) (by omega) (by omega)]
        refine ⟨by omega, next_at [none, some 5, some 2] (i + 1) (by omega) (by omega) rfl ?_ ?_⟩
        · (try simp -implicitDefEqProofs only [push_cast, Nat.reduceAdd, Nat.reduceSub, Nat.reduceMul, Nat.reduceLT, Nat.reduceLeDiff, Nat.reduceEqDiff, Nat.reduceBEq, reduceCtorEq, reduceIte, Int.reduceLE, Int.reduceLT, Int.reduceNeg, Int.reduceToNat, hln, rowP_pure])
        · (try simp -implicitDefEqProofs only [push_cast, Nat.reduceAdd, Nat.reduceSub, Nat.reduceMul, Nat.reduceLT, Nat.reduceLeDiff, Nat.reduceEqDiff, Nat.reduceBEq, reduceCtorEq, reduceIte, Int.reduceLE, Int.reduceLT, Int.reduceNeg, Int.reduceToNat, hcap, encPls_pure])
          rw [hrw]
          refine ⟨sealLL_snoc (sealLL_pure _ _ _ (encPls_pure row)) ?_, fun e he => ?_⟩
          · (try simp -implicitDefEqProofs only [push_cast, Nat.reduceAdd, Nat.reduceSub, Nat.reduceMul, Nat.reduceLT, Nat.reduceLeDiff, Nat.reduceEqDiff, Nat.reduceBEq, reduceCtorEq, reduceIte, Int.reduceLE, Int.reduceLT, Int.reduceNeg, Int.reduceToNat, List.map_nil])
          · rw [← hrw] at he; exact encPls_all5 _ e he
      · rw [h] at hcs
        have hcs' : curW (outW col ps k) op col ps (i + 1) = row := by rw [hcs]; exact List.append_nil row
        rw [wrap64 (n := (i : Int) + 1) (by omega) (by omega)]
        refine next_at [none, some 1, some 2] (i + 1) (by omega) (by omega) rfl ?_ ?_
        · (try simp -implicitDefEqProofs only [push_cast, Nat.reduceAdd, Nat.reduceSub, Nat.reduceMul, Nat.reduceLT, Nat.reduceLeDiff, Nat.reduceEqDiff, Nat.reduceBEq, reduceCtorEq, reduceIte, Int.reduceLE, Int.reduceLT, Int.reduceNeg, Int.reduceToNat, hcs', rowP_pure])
        · (try simp -implicitDefEqProofs only [push_cast, Nat.reduceAdd, Nat.reduceSub, Nat.reduceMul, Nat.reduceLT, Nat.reduceLeDiff, Nat.reduceEqDiff, Nat.reduceBEq, reduceCtorEq, reduceIte, Int.reduceLE, Int.reduceLT, Int.reduceNeg, Int.reduceToNat, hcs', encPls_pure])
          exact encPls_all5 _
    · have hi' : ((i : Int) < (ps.length : Int)) = False := by simp; omega
      obtain rfl : i = ps.length := by omega
      rw [hend]
      simp -implicitDefEqProofs only [push_cast, Nat.reduceAdd, Nat.reduceSub, Nat.reduceMul, Nat.reduceLT, Nat.reduceLeDiff, Nat.reduceEqDiff, Nat.reduceBEq, reduceCtorEq, reduceIte, Int.reduceLE, Int.reduceLT, Int.reduceNeg, Int.reduceToNat, hi']
      rw [wrap64 (n := (k : Int) + 1) (by omega) (by omega)]
      refine next_at [none, some 1, some 2] (k + 1) (by omega) (by omega) rfl ?_ ?_
      · (try simp -implicitDefEqProofs only [push_cast, Nat.reduceAdd, Nat.reduceSub, Nat.reduceMul, Nat.reduceLT, Nat.reduceLeDiff, Nat.reduceEqDiff, Nat.reduceBEq, reduceCtorEq, reduceIte, Int.reduceLE, Int.reduceLT, Int.reduceNeg, Int.reduceToNat, rowP_pure])
      · (try simp -implicitDefEqProofs only [push_cast, Nat.reduceAdd, Nat.reduceSub, Nat.reduceMul, Nat.reduceLT, Nat.reduceLeDiff, Nat.reduceEqDiff, Nat.reduceBEq, reduceCtorEq, reduceIte, Int.reduceLE, Int.reduceLT, Int.reduceNeg, Int.reduceToNat, encPls_pure])
        exact encPls_all5 _
  · have hk' : ((k : Int) < 2) = False := by simp; omega
    have ek : outW col ps k = outW col ps 2 := by rw [show k = 2 by omega]
    rw [ek] at hol ⊢
    have hcap : List.take (outW col ps 2).length ((outW col ps 2).map encPl) = (outW col ps 2).map encPl := List.take_of_length_le (by simp)
    simp -implicitDefEqProofs only [push_cast, Nat.reduceAdd, Nat.reduceSub, Nat.reduceMul, Nat.reduceLT, Nat.reduceLeDiff, Nat.reduceEqDiff, Nat.reduceBEq, reduceCtorEq, reduceIte, Int.reduceLE, Int.reduceLT, Int.reduceNeg, Int.reduceToNat, hk']
    rw [hcap]
    exact sealLL_pure _ _ _ (encPls_pure _)
theorem must_ok (w : Pl) (col : Int) : Quiet Go.Proofs.Tryz.prog 122 [.agg (encPl w), .int col] (.tup [.int (mustP w col).1, .int (mustP w col).2]) := by
  obtain ⟨op, occ, a, b, l⟩ := w
  refine quiet_of (rs := #[.tmp 4, .tmp 5]) Go.Proofs.Tryz.func122 rfl rfl rfl mixed rfl rfl fun H hs => ?_
  by_cases h1 : op = 1
  · subst h1
    simp -implicitDefEqProofs only [push_cast, Nat.reduceAdd, Nat.reduceSub, Nat.reduceMul, Nat.reduceLT, Nat.reduceLeDiff, Nat.reduceEqDiff, Nat.reduceBEq, reduceCtorEq, reduceIte, Int.reduceLE, Int.reduceLT, Int.reduceNeg, Int.reduceToNat, mustP, Pl.op, Pl.a, Pl.b, Int.reduceEq]
  · have c1 : (op = 1) = False := by simp [h1]
    by_cases h3 : op = 3
    · subst h3
      simp -implicitDefEqProofs only [push_cast, Nat.reduceAdd, Nat.reduceSub, Nat.reduceMul, Nat.reduceLT, Nat.reduceLeDiff, Nat.reduceEqDiff, Nat.reduceBEq, reduceCtorEq, reduceIte, Int.reduceLE, Int.reduceLT, Int.reduceNeg, Int.reduceToNat, mustP, Pl.op, Pl.a, Pl.b, Int.reduceEq]
      refine areg_at 7 (by kernel_rfl) (by kernel_rfl) ?_
      simp -implicitDefEqProofs only [push_cast, Nat.reduceAdd, Nat.reduceSub, Nat.reduceMul, Nat.reduceLT, Nat.reduceLeDiff, Nat.reduceEqDiff, Nat.reduceBEq, reduceCtorEq, reduceIte, Int.reduceLE, Int.reduceLT, Int.reduceNeg, Int.reduceToNat]
      try decide
    · have c3 : (op = 3) = False := by simp [h3]
      simp -implicitDefEqProofs only [push_cast, Nat.reduceAdd, Nat.reduceSub, Nat.reduceMul, Nat.reduceLT, Nat.reduceLeDiff, Nat.reduceEqDiff, Nat.reduceBEq, reduceCtorEq, reduceIte, Int.reduceLE, Int.reduceLT, Int.reduceNeg, Int.reduceToNat, mustP, Pl.op, Pl.a, Pl.b, c1, c3]
theorem Sorted_ok (c : List Df) (hcl : c.length ≤ 1000000) (q : Qy) (hq : q.Ok) (s n : Int) : Quiet Go.Proofs.Tryz.prog 124 [.agg [.sl (c.map encD)], .agg (encQ q), .int s, .int n] (.int (sortedC c q s n)) := by
  have hR := Rows_ok c hcl q hq s
  have hA := AddK_ok [n, sortK (rowsQ c q s)] (by simp)
  refine quiet_of (rs := #[.tmp 8]) Go.Proofs.Tryz.func124 rfl rfl rfl mixed rfl rfl fun H hs => ?_
  simp -implicitDefEqProofs only [push_cast, Nat.reduceAdd, Nat.reduceSub, Nat.reduceMul, Nat.reduceLT, Nat.reduceLeDiff, Nat.reduceEqDiff, Nat.reduceBEq, reduceCtorEq, reduceIte, Int.reduceLE, Int.reduceLT, Int.reduceNeg, Int.reduceToNat, encQ]
  refine callq hR ?_
  simp -implicitDefEqProofs only [push_cast, Nat.reduceAdd, Nat.reduceSub, Nat.reduceMul, Nat.reduceLT, Nat.reduceLeDiff, Nat.reduceEqDiff, Nat.reduceBEq, reduceCtorEq, reduceIte, Int.reduceLE, Int.reduceLT, Int.reduceNeg, Int.reduceToNat, encQ]
  refine callq (SortK_ok _) ?_
  simp -implicitDefEqProofs only [push_cast, Nat.reduceAdd, Nat.reduceSub, Nat.reduceMul, Nat.reduceLT, Nat.reduceLeDiff, Nat.reduceEqDiff, Nat.reduceBEq, reduceCtorEq, reduceIte, Int.reduceLE, Int.reduceLT, Int.reduceNeg, Int.reduceToNat, encQ]
  refine fzk H 2 2 [.sl ([n, sortK (rowsQ c q s)].map encI)] (by rfl) (by omega) (by simp) ?_ ?_
  · (try simp -implicitDefEqProofs only [push_cast, Nat.reduceAdd, Nat.reduceSub, Nat.reduceMul, Nat.reduceLT, Nat.reduceLeDiff, Nat.reduceEqDiff, Nat.reduceBEq, reduceCtorEq, reduceIte, Int.reduceLE, Int.reduceLT, Int.reduceNeg, Int.reduceToNat, encI, List.map_cons, List.map_nil])
  refine callq hA ?_
  simp -implicitDefEqProofs only [push_cast, Nat.reduceAdd, Nat.reduceSub, Nat.reduceMul, Nat.reduceLT, Nat.reduceLeDiff, Nat.reduceEqDiff, Nat.reduceBEq, reduceCtorEq, reduceIte, Int.reduceLE, Int.reduceLT, Int.reduceNeg, Int.reduceToNat, sortedC]
theorem ownW_ok (c : List Df) (hcl : c.length ≤ 1000000) (q : Qy) (hq : q.Ok) (w : Pl) (s t : Int) : Quiet Go.Proofs.Tryz.prog 123 [.agg [.sl (c.map encD)], .agg (encQ q), .agg (encPl w), .int s, .int t] (.int (ownW c q w s t)) := by
  have hR := Rows_ok c hcl q hq s
  have hR2 := Rows_ok c hcl q hq t
  obtain ⟨op, occ, a, b, l⟩ := w
  unfold ownW
  refine quiet_of (rs := #[.tmp 10]) Go.Proofs.Tryz.func123 rfl rfl rfl mixed rfl rfl fun H hs => ?_
  simp -implicitDefEqProofs only [push_cast, Nat.reduceAdd, Nat.reduceSub, Nat.reduceMul, Nat.reduceLT, Nat.reduceLeDiff, Nat.reduceEqDiff, Nat.reduceBEq, reduceCtorEq, reduceIte, Int.reduceLE, Int.reduceLT, Int.reduceNeg, Int.reduceToNat, encQ]
  refine areg_at 9 (by kernel_rfl) (by kernel_rfl) ?_
  simp -implicitDefEqProofs only [push_cast, Nat.reduceAdd, Nat.reduceSub, Nat.reduceMul, Nat.reduceLT, Nat.reduceLeDiff, Nat.reduceEqDiff, Nat.reduceBEq, reduceCtorEq, reduceIte, Int.reduceLE, Int.reduceLT, Int.reduceNeg, Int.reduceToNat, encQ]
  refine ahdq hR ?_
  simp -implicitDefEqProofs only [push_cast, Nat.reduceAdd, Nat.reduceSub, Nat.reduceMul, Nat.reduceLT, Nat.reduceLeDiff, Nat.reduceEqDiff, Nat.reduceBEq, reduceCtorEq, reduceIte, Int.reduceLE, Int.reduceLT, Int.reduceNeg, Int.reduceToNat, encQ]
  refine ahdq hR2 ?_
  by_cases h1 : op = 1
  · subst h1
    simp -implicitDefEqProofs only [push_cast, Nat.reduceAdd, Nat.reduceSub, Nat.reduceMul, Nat.reduceLT, Nat.reduceLeDiff, Nat.reduceEqDiff, Nat.reduceBEq, reduceCtorEq, reduceIte, Int.reduceLE, Int.reduceLT, Int.reduceNeg, Int.reduceToNat, Pl.op, Int.reduceEq]
    refine callq (NestK_ok _ _) ?_
    simp -implicitDefEqProofs only [push_cast, Nat.reduceAdd, Nat.reduceSub, Nat.reduceMul, Nat.reduceLT, Nat.reduceLeDiff, Nat.reduceEqDiff, Nat.reduceBEq, reduceCtorEq, reduceIte, Int.reduceLE, Int.reduceLT, Int.reduceNeg, Int.reduceToNat]
  · have c1 : (op = 1) = False := by simp [h1]
    by_cases h2 : op = 2
    · subst h2
      simp -implicitDefEqProofs only [push_cast, Nat.reduceAdd, Nat.reduceSub, Nat.reduceMul, Nat.reduceLT, Nat.reduceLeDiff, Nat.reduceEqDiff, Nat.reduceBEq, reduceCtorEq, reduceIte, Int.reduceLE, Int.reduceLT, Int.reduceNeg, Int.reduceToNat, Pl.op, Int.reduceEq]
      refine callq (HashK_ok _ _) ?_
      simp -implicitDefEqProofs only [push_cast, Nat.reduceAdd, Nat.reduceSub, Nat.reduceMul, Nat.reduceLT, Nat.reduceLeDiff, Nat.reduceEqDiff, Nat.reduceBEq, reduceCtorEq, reduceIte, Int.reduceLE, Int.reduceLT, Int.reduceNeg, Int.reduceToNat]
    · have c2 : (op = 2) = False := by simp [h2]
      simp -implicitDefEqProofs only [push_cast, Nat.reduceAdd, Nat.reduceSub, Nat.reduceMul, Nat.reduceLT, Nat.reduceLeDiff, Nat.reduceEqDiff, Nat.reduceBEq, reduceCtorEq, reduceIte, Int.reduceLE, Int.reduceLT, Int.reduceNeg, Int.reduceToNat, Pl.op, c1, c2]
      refine callq (MergeK_ok _ _) ?_
      simp -implicitDefEqProofs only [push_cast, Nat.reduceAdd, Nat.reduceSub, Nat.reduceMul, Nat.reduceLT, Nat.reduceLeDiff, Nat.reduceEqDiff, Nat.reduceBEq, reduceCtorEq, reduceIte, Int.reduceLE, Int.reduceLT, Int.reduceNeg, Int.reduceToNat]
end
section
def encCh (x : Ch) : List AV := .int x.1 :: encPl x.2
theorem encCh_len (x : Ch) : (encCh x).length = 6 := by rw [encCh, List.length_cons, encPl_len]
theorem encCh_take (x : Ch) : (encCh x).take 6 = encCh x := by rw [← encCh_len x, List.take_length]
theorem encCh_drop (x : Ch) : (encCh x).drop 6 = [] := List.drop_of_length_le (by rw [encCh_len]; exact Nat.le_refl _)
theorem encCh_one (x : Ch) : (encCh x).all AV.one = true := by rw [encCh, List.all_cons, encPl_one]; rfl
theorem encCh_pure (x : Ch) : PureL (encCh x) := by
  rw [encCh]
  simp only [PureL, Pure, true_and]
  exact encPl_pure x.2
theorem encChs_pure (l : List Ch) : PureLL (l.map encCh) := by
  rw [pureLL_iff]
  simp only [List.mem_map]
  rintro _ ⟨x, _, rfl⟩
  exact encCh_pure x
theorem encChs_get (l : List Ch) (i : Nat) (h : i < l.length) : (l.map encCh).getD i [] = encCh l[i] := getD_map encCh l [] i h
theorem encChs_all6 (l : List Ch) : ∀ e ∈ l.map encCh, e.length = 6 := by
  simp only [List.mem_map]
  rintro _ ⟨x, _, rfl⟩
  exact encCh_len x
attribute [local push_cast] encPl_mk encPl_take encPl_len encPl_one encPls_pure encPl_pure encT_pure encT_len encT_one encT_take encCh_take encCh_drop encCh_len encCh_one encCh_pure encChs_pure
theorem best2_ok (x : Ch) : Quiet Go.Proofs.Tryz.prog 126 [.agg (encCh x)] (.int x.1) := by
  refine quiet_of (rs := #[.tmp 2]) Go.Proofs.Tryz.func126 rfl rfl rfl mixed rfl rfl fun H hs => ?_
  simp -implicitDefEqProofs only [push_cast, Nat.reduceAdd, Nat.reduceSub, Nat.reduceMul, Nat.reduceLT, Nat.reduceLeDiff, Nat.reduceEqDiff, Nat.reduceBEq, reduceCtorEq, reduceIte, Int.reduceLE, Int.reduceLT, Int.reduceNeg, Int.reduceToNat, encCh]
theorem leastC_snoc (l : List Ch) (i : Nat) (h : i < l.length) : leastC (l.take (i + 1)) = if i = 0 then l[i] else if l[i].1 < (leastC (l.take i)).1 then l[i] else leastC (l.take i) := by
  rw [List.take_succ_eq_append_getElem h]
  match i, l, h with
  | 0, x :: l, _ => rfl
  | i + 1, x :: l, h =>
    rw [if_neg (by omega), List.take_succ_cons, List.cons_append, leastC, leastC, List.foldl_append]
    rfl
set_option maxHeartbeats 4000000 in
theorem least_ok (l : List Ch) (hl : l.length ≤ 1000000) : Quiet Go.Proofs.Tryz.prog 125 [.sl (l.map encCh), .clo (.func 126) [] []] (.tup [.agg (encCh (leastC l)), .bool (decide (0 < l.length))]) := by
  refine quiet_of (rs := #[.cell 4 103, .tmp 5]) Go.Proofs.Tryz.func125 rfl rfl rfl mixed rfl rfl fun H hs => ?_
  simp -implicitDefEqProofs only [push_cast, Nat.reduceAdd, Nat.reduceSub, Nat.reduceMul, Nat.reduceLT, Nat.reduceLeDiff, Nat.reduceEqDiff, Nat.reduceBEq, reduceCtorEq, reduceIte, Int.reduceLE, Int.reduceLT, Int.reduceNeg, Int.reduceToNat]
  refine loop_at hs (σ := Nat) (fun i => i ≤ l.length) (fun i => l.length - i)
    (fun i => [(11, .int i), (10, .int l.length), (9, .sl (l.map encCh)), (0, .sl (l.map encCh)), (1, .clo (.func 126) [] []), (4, .ptr (H.nxt + 0) 6 0 0), (6, .ptr (H.nxt + 1) 6 0 0)])
    (fun i => [some (.cells 6 [encCh (0, plO)] 0), some (.cells 6 [encCh (leastC (l.take i))] 0)]) [some 0, some 1] 0 (by omega) rfl ?_ ?_ ?_
  · (try simp -implicitDefEqProofs only [push_cast, Nat.reduceAdd, Nat.reduceSub, Nat.reduceMul, Nat.reduceLT, Nat.reduceLeDiff, Nat.reduceEqDiff, Nat.reduceBEq, reduceCtorEq, reduceIte, Int.reduceLE, Int.reduceLT, Int.reduceNeg, Int.reduceToNat, encChs_pure])
  · (try simp -implicitDefEqProofs only [push_cast, Nat.reduceAdd, Nat.reduceSub, Nat.reduceMul, Nat.reduceLT, Nat.reduceLeDiff, Nat.reduceEqDiff, Nat.reduceBEq, reduceCtorEq, reduceIte, Int.reduceLE, Int.reduceLT, Int.reduceNeg, Int.reduceToNat, List.take_zero, leastC, encCh, plO, List.map_nil])
  intro i hi2
  by_cases hi : i < l.length
  · have hi' : ((i : Int) < (l.length : Int)) = True := by simp; omega
    have hi0 : (0 ≤ (i : Int)) = True := by simp
    have hsn := leastC_snoc l i hi
    have hb2 := best2_ok l[i]
    have hb3 := best2_ok (leastC (l.take i))
    have hget := encChs_get l i hi
    generalize l[i] = x at hsn hb2 hget
    generalize leastC (l.take i) = out at hsn hb3 ⊢
    simp -implicitDefEqProofs only [push_cast, Nat.reduceAdd, Nat.reduceSub, Nat.reduceMul, Nat.reduceLT, Nat.reduceLeDiff, Nat.reduceEqDiff, Nat.reduceBEq, reduceCtorEq, reduceIte, Int.reduceLE, Int.reduceLT, Int.reduceNeg, Int.reduceToNat, hi', hi0, hget]
    refine areg_at 11 (by kernel_rfl) (by kernel_rfl) ?_
    by_cases h0 : i = 0
    · subst h0
      rw [if_pos rfl] at hsn
      simp -implicitDefEqProofs only [push_cast, Nat.reduceAdd, Nat.reduceSub, Nat.reduceMul, Nat.reduceLT, Nat.reduceLeDiff, Nat.reduceEqDiff, Nat.reduceBEq, reduceCtorEq, reduceIte, Int.reduceLE, Int.reduceLT, Int.reduceNeg, Int.reduceToNat, Int.reduceEq]
      refine gcallq (.int x.1) (fun h => by cases h) ?_
      simp -implicitDefEqProofs only [push_cast, Nat.reduceAdd, Nat.reduceSub, Nat.reduceMul, Nat.reduceLT, Nat.reduceLeDiff, Nat.reduceEqDiff, Nat.reduceBEq, reduceCtorEq, reduceIte, Int.reduceLE, Int.reduceLT, Int.reduceNeg, Int.reduceToNat]
      refine gcallq (.int out.1) (fun h => by cases h) ?_
      simp -implicitDefEqProofs only [push_cast, Nat.reduceAdd, Nat.reduceSub, Nat.reduceMul, Nat.reduceLT, Nat.reduceLeDiff, Nat.reduceEqDiff, Nat.reduceBEq, reduceCtorEq, reduceIte, Int.reduceLE, Int.reduceLT, Int.reduceNeg, Int.reduceToNat]
      rw [show IntKind.wrap .i64 ((0 : Int) + 1) = 0 + 1 by decide]
      refine next_at [some 0, some 1] (0 + 1) (by omega) (by omega) rfl ?_ ?_
      · (try simp -implicitDefEqProofs only [push_cast, Nat.reduceAdd, Nat.reduceSub, Nat.reduceMul, Nat.reduceLT, Nat.reduceLeDiff, Nat.reduceEqDiff, Nat.reduceBEq, reduceCtorEq, reduceIte, Int.reduceLE, Int.reduceLT, Int.reduceNeg, Int.reduceToNat, hsn])
      · (try simp -implicitDefEqProofs only [push_cast, Nat.reduceAdd, Nat.reduceSub, Nat.reduceMul, Nat.reduceLT, Nat.reduceLeDiff, Nat.reduceEqDiff, Nat.reduceBEq, reduceCtorEq, reduceIte, Int.reduceLE, Int.reduceLT, Int.reduceNeg, Int.reduceToNat, hsn])
    · have h0' : ((i : Int) = 0) = False := by simp; omega
      rw [if_neg h0] at hsn
      simp -implicitDefEqProofs only [push_cast, Nat.reduceAdd, Nat.reduceSub, Nat.reduceMul, Nat.reduceLT, Nat.reduceLeDiff, Nat.reduceEqDiff, Nat.reduceBEq, reduceCtorEq, reduceIte, Int.reduceLE, Int.reduceLT, Int.reduceNeg, Int.reduceToNat, h0']
      refine gcallq (.int x.1) (fun _ => hb2) ?_
      simp -implicitDefEqProofs only [push_cast, Nat.reduceAdd, Nat.reduceSub, Nat.reduceMul, Nat.reduceLT, Nat.reduceLeDiff, Nat.reduceEqDiff, Nat.reduceBEq, reduceCtorEq, reduceIte, Int.reduceLE, Int.reduceLT, Int.reduceNeg, Int.reduceToNat]
      refine gcallq (.int out.1) (fun _ => hb3) ?_
      simp -implicitDefEqProofs only [push_cast, Nat.reduceAdd, Nat.reduceSub, Nat.reduceMul, Nat.reduceLT, Nat.reduceLeDiff, Nat.reduceEqDiff, Nat.reduceBEq, reduceCtorEq, reduceIte, Int.reduceLE, Int.reduceLT, Int.reduceNeg, Int.reduceToNat]
      refine ⟨fun h => ?_, fun h => ?_⟩
      · rw [if_pos h] at hsn
        rw [wrap64 (n := (i : Int) + 1) (by omega) (by omega)]
        refine next_at [some 0, some 1] (i + 1) (by omega) (by omega) rfl ?_ ?_
        · (try simp -implicitDefEqProofs only [push_cast, Nat.reduceAdd, Nat.reduceSub, Nat.reduceMul, Nat.reduceLT, Nat.reduceLeDiff, Nat.reduceEqDiff, Nat.reduceBEq, reduceCtorEq, reduceIte, Int.reduceLE, Int.reduceLT, Int.reduceNeg, Int.reduceToNat, hsn])
        · (try simp -implicitDefEqProofs only [push_cast, Nat.reduceAdd, Nat.reduceSub, Nat.reduceMul, Nat.reduceLT, Nat.reduceLeDiff, Nat.reduceEqDiff, Nat.reduceBEq, reduceCtorEq, reduceIte, Int.reduceLE, Int.reduceLT, Int.reduceNeg, Int.reduceToNat, hsn])
      · rw [if_neg h] at hsn
        rw [wrap64 (n := (i : Int) + 1) (by omega) (by omega)]
        refine next_at [some 0, some 1] (i + 1) (by omega) (by omega) rfl ?_ ?_
        · (try simp -implicitDefEqProofs only [push_cast, Nat.reduceAdd, Nat.reduceSub, Nat.reduceMul, Nat.reduceLT, Nat.reduceLeDiff, Nat.reduceEqDiff, Nat.reduceBEq, reduceCtorEq, reduceIte, Int.reduceLE, Int.reduceLT, Int.reduceNeg, Int.reduceToNat, hsn])
        · (try simp -implicitDefEqProofs only [push_cast, Nat.reduceAdd, Nat.reduceSub, Nat.reduceMul, Nat.reduceLT, Nat.reduceLeDiff, Nat.reduceEqDiff, Nat.reduceBEq, reduceCtorEq, reduceIte, Int.reduceLE, Int.reduceLT, Int.reduceNeg, Int.reduceToNat, hsn])
  · have hi' : ((i : Int) < (l.length : Int)) = False := by simp; omega
    rw [List.take_of_length_le (by omega)]
    simp -implicitDefEqProofs only [push_cast, Nat.reduceAdd, Nat.reduceSub, Nat.reduceMul, Nat.reduceLT, Nat.reduceLeDiff, Nat.reduceEqDiff, Nat.reduceBEq, reduceCtorEq, reduceIte, Int.reduceLE, Int.reduceLT, Int.reduceNeg, Int.reduceToNat, hi']
    rw [decide_eq_decide]
    omega
theorem putN_ok (n : Int) (p : Pl) (i : Nat) (H : AH) (hi : i < H.nxt) (ho : H.obj i = some (.cells 1 [[.nilS]] 0)) :
    ACalls Go.Proofs.Tryz.prog 120 [.int n, .agg (encPl p), .ptr i 1 0 0] H (fun r H' => r = .tup [] ∧ H' = (H.set i (.cells 1 [[.rsl (H.nxt + 2) 6 0 1]] 0)).plus [some (.cells 5 [encPl p] 0), some (.cells 6 [encCh (n, p)] 0), some (.cells 6 [encCh (n, p)] 0)]) := by
  refine acalls_sc (rs := #[]) Go.Proofs.Tryz.func120 rfl rfl rfl mixed rfl (Nat.le_of_ble_eq_true rfl) fun hs _ => ?_
  have hob : ∀ l, (H.plus l).obj i = some (.cells 1 [[.nilS]] 0) := fun l => by rw [plus_low H l hi]; exact ho
  have hset : ∀ l o, (H.plus l).set i o = (H.set i o).plus l := fun l o => plus_setlow H l hi o
  simp -implicitDefEqProofs only [push_cast, Nat.reduceAdd, Nat.reduceSub, Nat.reduceMul, Nat.reduceLT, Nat.reduceLeDiff, Nat.reduceEqDiff, Nat.reduceBEq, reduceCtorEq, reduceIte, Int.reduceLE, Int.reduceLT, Int.reduceNeg, Int.reduceToNat, hob, hset]
  exact retk trivial ⟨rfl, rfl⟩
theorem put_ok (s : List Ch) (hl : s.length ≤ 1000000) (n : Int) (p : Pl) (i j : Nat) (H : AH) (hij : j ≠ i) (hi : i < H.nxt) (hj : j < H.nxt) (ho : H.obj i = some (.cells 1 [[.rsl j 6 0 s.length]] 0)) (hr : H.obj j = some (.cells 6 (s.map encCh) 0)) :
    ACalls Go.Proofs.Tryz.prog 120 [.int n, .agg (encPl p), .ptr i 1 0 0] H (fun r H' => r = .tup [] ∧ H' = ((H.del j).set i (.cells 1 [[.rsl (H.nxt + 2) 6 0 (s.length + 1)]] 0)).plus [some (.cells 5 [encPl p] 0), some (.cells 6 [encCh (n, p)] 0), some (.cells 6 ((s ++ [(n, p)]).map encCh) 0)]) := by
  refine acalls_sc (rs := #[]) Go.Proofs.Tryz.func120 rfl rfl rfl mixed rfl (Nat.le_of_ble_eq_true rfl) fun hs _ => ?_
  have hob : ∀ l, (H.plus l).obj i = some (.cells 1 [[.rsl j 6 0 s.length]] 0) := fun l => by rw [plus_low H l hi]; exact ho
  have hoj : ∀ l, (H.plus l).obj j = some (.cells 6 (s.map encCh) 0) := fun l => by rw [plus_low H l hj]; exact hr
  have hdel : ∀ l, (H.plus l).del j = (H.del j).plus l := fun l => plus_dellow H l hj
  have hob2 : ∀ l, ((H.del j).plus l).obj i = some (.cells 1 [[.rsl j 6 0 s.length]] 0) := fun l => by
    rw [plus_low (H.del j) l hi]
    show (if i = j then none else H.obj i) = _
    rw [if_neg (Ne.symm hij), ho]
  have hset2 : ∀ l o, ((H.del j).plus l).set i o = ((H.del j).set i o).plus l := fun l o => plus_setlow (H.del j) l hi o
  simp -implicitDefEqProofs only [push_cast, Nat.reduceAdd, Nat.reduceSub, Nat.reduceMul, Nat.reduceLT, Nat.reduceLeDiff, Nat.reduceEqDiff, Nat.reduceBEq, reduceCtorEq, reduceIte, Int.reduceLE, Int.reduceLT, Int.reduceNeg, Int.reduceToNat, hob, hoj, hdel, hob2, hset2, del_nxt]
  refine ⟨by omega, retk trivial ⟨rfl, ?_⟩⟩
  rw [List.map_append, List.take_of_length_le (by simp)]
  rfl
end
section
attribute [local push_cast] encPl_mk encPl_take encPl_len encPl_one encPls_pure encPl_pure encT_pure encT_len encT_one encT_take encCh_take encCh_drop encCh_len encCh_one encCh_pure encChs_pure
theorem quiet_told {P : Program} {f : FuncId} {args args' : List AV} {r : AV} (hq : Quiet P f args' r) (ha : ∀ H, SealL some H H args args') : Quiet P f args r := fun H =>
  ACalls.mono (calla (d := some 0) (C := fun T' H' => tget T' 0 = r ∧ H' = H) (T := []) args' hq (ha H) ⟨by simp [tput, tget], rfl⟩) fun r' H' hr => ⟨by simpa [tput, tget] using hr.1, hr.2⟩
theorem told {P : Program} {f : FuncId} {H : AH} {K : AV → AH → Prop} {args : List AV} (args' : List AV) (ha : SealL some H H args args') (h : ACalls P f args' H K) : ACalls P f args H K := by
  refine ⟨h.1, fun ρ w xs hh hr => ?_⟩
  have hw := weak_refl (hsc_of_holds hh)
  refine (h.2 _ w xs (holds_weak hh hw) (repL_seal hh hw _ _ _ ha hr)).mono ?_
  rintro e w' ⟨r, H2, ρ2, x, h1, h2, h3, h4, h5⟩
  exact ⟨r, H2, ρ2, x, h1, h2, h3, (ext_weak (Ext.refl hh) hw).trans h4, h5⟩
theorem plOk0' {op occ a b : Int} : Pl.Ok (.mk op occ a b []) := .mk (by decide) (by simp)
def BestAt (c : List Df) (q : Qy) (d : Nat) (t : Tr) (col : Int) : Prop := Quiet Go.Proofs.Tryz.prog 66 [.agg [.sl (c.map encD)], .agg (encQ q), .agg (encT t), .int col] (.agg (encCh (bestF c q d t col)))
set_option maxHeartbeats 8000000 in
theorem bestLeaf_ok (c : List Df) (hcl : c.length ≤ 1000000) (q : Qy) (hq : q.Ok) (d : Nat) (o : Int) : BestAt c q (d + 1) (.leaf o) (-1) := by
  have hC := CostPl_ok c hcl q hq (.mk 0 o 0 0 []) plOk0'
  have hv : bestF c q (d + 1) (.leaf o) (-1) = (costP c q (.mk 0 o 0 0 []), .mk 0 o 0 0 []) := by rw [bestF, if_pos rfl]; rfl
  have hL := least_ok [(costP c q (.mk 0 o 0 0 []), Pl.mk 0 o 0 0 [])] (by simp)
  unfold BestAt
  rw [hv, Tr.leaf, encT_mk, List.map_nil]
  generalize costP c q (.mk 0 o 0 0 []) = n at hC hL ⊢
  rw [encPl_mk, List.map_nil] at hC
  refine quiet_of (rs := #[.cell 8 103]) Go.Proofs.Tryz.func66 rfl rfl rfl mixed rfl rfl fun H hs => ?_
  simp -implicitDefEqProofs only [push_cast, Nat.reduceAdd, Nat.reduceSub, Nat.reduceMul, Nat.reduceLT, Nat.reduceLeDiff, Nat.reduceEqDiff, Nat.reduceBEq, reduceCtorEq, reduceIte, Int.reduceLE, Int.reduceLT, Int.reduceNeg, Int.reduceToNat, encQ, Int.reduceEq, List.map_nil]
  refine areg_link 6 (by kernel_rfl) (by kernel_rfl) ?_
  simp -implicitDefEqProofs only [push_cast, Nat.reduceAdd, Nat.reduceSub, Nat.reduceMul, Nat.reduceLT, Nat.reduceLeDiff, Nat.reduceEqDiff, Nat.reduceBEq, reduceCtorEq, reduceIte, Int.reduceLE, Int.reduceLT, Int.reduceNeg, Int.reduceToNat, encQ, List.map_nil]
  refine ahdq (quiet_told hC fun H => ?_) ?_
  · (try simp -implicitDefEqProofs only [push_cast, Nat.reduceAdd, Nat.reduceSub, Nat.reduceMul, Nat.reduceLT, Nat.reduceLeDiff, Nat.reduceEqDiff, Nat.reduceBEq, reduceCtorEq, reduceIte, Int.reduceLE, Int.reduceLT, Int.reduceNeg, Int.reduceToNat, encQ, encDs_pure, encEs_pure, encIs_pure])
  simp -implicitDefEqProofs only [push_cast, Nat.reduceAdd, Nat.reduceSub, Nat.reduceMul, Nat.reduceLT, Nat.reduceLeDiff, Nat.reduceEqDiff, Nat.reduceBEq, reduceCtorEq, reduceIte, Int.reduceLE, Int.reduceLT, Int.reduceNeg, Int.reduceToNat, encQ, List.map_nil]
  refine told [.int n, .agg (encPl (.mk 0 o 0 0 [])), .ptr (H.nxt + 4) 1 0 0] ?_ ?_
  · (try simp -implicitDefEqProofs only [push_cast, Nat.reduceAdd, Nat.reduceSub, Nat.reduceMul, Nat.reduceLT, Nat.reduceLeDiff, Nat.reduceEqDiff, Nat.reduceBEq, reduceCtorEq, reduceIte, Int.reduceLE, Int.reduceLT, Int.reduceNeg, Int.reduceToNat, List.map_nil])
  refine (putN_ok n (.mk 0 o 0 0 []) (H.nxt + 4) _ (by simp [plus_nxt]) (by rw [plus_obj]; rfl)).mono ?_
  rintro r H2 ⟨rfl, rfl⟩
  rw [plus_set _ _ 4 _ (by simp), plus_plus]
  simp -implicitDefEqProofs only [push_cast, Nat.reduceAdd, Nat.reduceSub, Nat.reduceMul, Nat.reduceLT, Nat.reduceLeDiff, Nat.reduceEqDiff, Nat.reduceBEq, reduceCtorEq, reduceIte, Int.reduceLE, Int.reduceLT, Int.reduceNeg, Int.reduceToNat, encQ, Nat.add_assoc, Int.reduceEq, if_false, if_true, or_true, or_false, true_or, false_or, List.map_cons, List.map_nil, List.length_cons, List.length_nil, Int.reduceAdd, List.set_cons_zero, List.set_cons_succ, List.cons_append, List.nil_append]
  refine fzk H 8 1 [.sl ([(n, Pl.mk 0 o 0 0 [])].map encCh), .clo (.func 126) [] []] (by rfl) (by omega) (by simp) ?_ ?_
  · (try simp -implicitDefEqProofs only [push_cast, Nat.reduceAdd, Nat.reduceSub, Nat.reduceMul, Nat.reduceLT, Nat.reduceLeDiff, Nat.reduceEqDiff, Nat.reduceBEq, reduceCtorEq, reduceIte, Int.reduceLE, Int.reduceLT, Int.reduceNeg, Int.reduceToNat, encCh, Int.reduceEq, if_false, if_true, or_true, or_false, true_or, false_or, List.map_cons, List.map_nil, List.length_cons, List.length_nil, Int.reduceAdd, List.set_cons_zero, List.set_cons_succ, List.cons_append, List.nil_append])
  refine callq hL ?_
  simp -implicitDefEqProofs only [push_cast, Nat.reduceAdd, Nat.reduceSub, Nat.reduceMul, Nat.reduceLT, Nat.reduceLeDiff, Nat.reduceEqDiff, Nat.reduceBEq, reduceCtorEq, reduceIte, Int.reduceLE, Int.reduceLT, Int.reduceNeg, Int.reduceToNat, encQ, Int.reduceEq, if_false, if_true, or_true, or_false, true_or, false_or, List.map_cons, List.map_nil, List.length_cons, List.length_nil, Int.reduceAdd, List.set_cons_zero, List.set_cons_succ, List.cons_append, List.nil_append, leastC, List.foldl_nil, encCh]
set_option maxHeartbeats 8000000 in
theorem bestLeafS_ok (c : List Df) (hcl : c.length ≤ 1000000) (q : Qy) (hq : q.Ok) (d : Nat) (o col : Int) (hcol : col ≠ -1) (hB : BestAt c q (d + 1) (.leaf o) (-1)) : BestAt c q (d + 1) (.leaf o) col := by
  have hto : (Tr.leaf o).Ok := .mk (by simp) (by simp)
  have hS := SetT_ok _ hto
  have hv : bestF c q (d + 1) (.leaf o) col = sortC c q (.leaf o) col (bestF c q (d + 1) (.leaf o) (-1)) := by
    rw [bestF, bestF, if_neg hcol, if_pos rfl]
    have e : candC c q (bestF c q d) (.leaf o) col = [] := by show (if col = -1 then _ else _) = _; rw [if_neg hcol]
    rw [e]; rfl
  have hL := least_ok [sortC c q (.leaf o) col (bestF c q (d + 1) (.leaf o) (-1))] (by simp)
  have hc1 : (col = -1) = False := by simp [hcol]
  unfold BestAt at hB ⊢
  rw [hv]
  generalize bestF c q (d + 1) (.leaf o) (-1) = x at hB hL ⊢
  obtain ⟨n, p⟩ := x
  have hSo := Sorted_ok c hcl q hq (Tr.leaf o).set n
  unfold sortC at hL ⊢
  generalize (Tr.leaf o).set = S at hS hSo hL ⊢
  generalize sortedC c q S n = m at hSo hL ⊢
  dsimp only at hL ⊢
  rw [Tr.leaf, encT_mk, List.map_nil] at hS hB ⊢
  refine quiet_of (rs := #[.cell 8 103]) Go.Proofs.Tryz.func66 rfl rfl rfl mixed rfl rfl fun H hs => ?_
  simp -implicitDefEqProofs only [push_cast, Nat.reduceAdd, Nat.reduceSub, Nat.reduceMul, Nat.reduceLT, Nat.reduceLeDiff, Nat.reduceEqDiff, Nat.reduceBEq, reduceCtorEq, reduceIte, Int.reduceLE, Int.reduceLT, Int.reduceNeg, Int.reduceToNat, encQ, hc1, Int.reduceEq, if_false, if_true, or_true, or_false, true_or, false_or, List.map_cons, List.map_nil, List.length_cons, List.length_nil, Int.reduceAdd, List.set_cons_zero, List.set_cons_succ, List.cons_append, List.nil_append]
  refine callq hB ?_
  simp -implicitDefEqProofs only [push_cast, Nat.reduceAdd, Nat.reduceSub, Nat.reduceMul, Nat.reduceLT, Nat.reduceLeDiff, Nat.reduceEqDiff, Nat.reduceBEq, reduceCtorEq, reduceIte, Int.reduceLE, Int.reduceLT, Int.reduceNeg, Int.reduceToNat, encQ, hc1, encCh, Int.reduceEq, if_false, if_true, or_true, or_false, true_or, false_or, List.map_cons, List.map_nil, List.length_cons, List.length_nil, Int.reduceAdd, List.set_cons_zero, List.set_cons_succ, List.cons_append, List.nil_append]
  refine areg_linkim [139] 14 (by kernel_rfl) (by kernel_rfl) ?_
  simp -implicitDefEqProofs only [push_cast, Nat.reduceAdd, Nat.reduceSub, Nat.reduceMul, Nat.reduceLT, Nat.reduceLeDiff, Nat.reduceEqDiff, Nat.reduceBEq, reduceCtorEq, reduceIte, Int.reduceLE, Int.reduceLT, Int.reduceNeg, Int.reduceToNat, encQ, Int.reduceEq, if_false, if_true, or_true, or_false, true_or, false_or, List.map_cons, List.map_nil, List.length_cons, List.length_nil, Int.reduceAdd, List.set_cons_zero, List.set_cons_succ, List.cons_append, List.nil_append]
  refine ahdq hS ?_
  simp -implicitDefEqProofs only [push_cast, Nat.reduceAdd, Nat.reduceSub, Nat.reduceMul, Nat.reduceLT, Nat.reduceLeDiff, Nat.reduceEqDiff, Nat.reduceBEq, reduceCtorEq, reduceIte, Int.reduceLE, Int.reduceLT, Int.reduceNeg, Int.reduceToNat, encQ, Int.reduceEq, if_false, if_true, or_true, or_false, true_or, false_or, List.map_cons, List.map_nil, List.length_cons, List.length_nil, Int.reduceAdd, List.set_cons_zero, List.set_cons_succ, List.cons_append, List.nil_append]
  refine ahdq hSo ?_
  simp -implicitDefEqProofs only [push_cast, Nat.reduceAdd, Nat.reduceSub, Nat.reduceMul, Nat.reduceLT, Nat.reduceLeDiff, Nat.reduceEqDiff, Nat.reduceBEq, reduceCtorEq, reduceIte, Int.reduceLE, Int.reduceLT, Int.reduceNeg, Int.reduceToNat, encQ, Int.reduceEq, if_false, if_true, or_true, or_false, true_or, false_or, List.map_cons, List.map_nil, List.length_cons, List.length_nil, Int.reduceAdd, List.set_cons_zero, List.set_cons_succ, List.cons_append, List.nil_append]
  refine told [.int m, .agg (encPl (.mk 4 0 col 0 [p])), .ptr (H.nxt + 4) 1 0 0] ?_ ?_
  · (try simp -implicitDefEqProofs only [push_cast, Nat.reduceAdd, Nat.reduceSub, Nat.reduceMul, Nat.reduceLT, Nat.reduceLeDiff, Nat.reduceEqDiff, Nat.reduceBEq, reduceCtorEq, reduceIte, Int.reduceLE, Int.reduceLT, Int.reduceNeg, Int.reduceToNat, Int.reduceEq, if_false, if_true, or_true, or_false, true_or, false_or, List.map_cons, List.map_nil, List.length_cons, List.length_nil, Int.reduceAdd, List.set_cons_zero, List.set_cons_succ, List.cons_append, List.nil_append])
  refine (putN_ok m (.mk 4 0 col 0 [p]) (H.nxt + 4) _ (by simp [plus_nxt]) (by rw [plus_obj]; rfl)).mono ?_
  rintro r H2 ⟨rfl, rfl⟩
  rw [plus_set _ _ 4 _ (by simp), plus_plus]
  simp -implicitDefEqProofs only [push_cast, Nat.reduceAdd, Nat.reduceSub, Nat.reduceMul, Nat.reduceLT, Nat.reduceLeDiff, Nat.reduceEqDiff, Nat.reduceBEq, reduceCtorEq, reduceIte, Int.reduceLE, Int.reduceLT, Int.reduceNeg, Int.reduceToNat, encQ, Nat.add_assoc, Int.reduceEq, if_false, if_true, or_true, or_false, true_or, false_or, List.map_cons, List.map_nil, List.length_cons, List.length_nil, Int.reduceAdd, List.set_cons_zero, List.set_cons_succ, List.cons_append, List.nil_append]
  refine fzk H 8 1 [.sl ([(m, Pl.mk 4 0 col 0 [p])].map encCh), .clo (.func 126) [] []] (by rfl) (by omega) (by simp) ?_ ?_
  · (try simp -implicitDefEqProofs only [push_cast, Nat.reduceAdd, Nat.reduceSub, Nat.reduceMul, Nat.reduceLT, Nat.reduceLeDiff, Nat.reduceEqDiff, Nat.reduceBEq, reduceCtorEq, reduceIte, Int.reduceLE, Int.reduceLT, Int.reduceNeg, Int.reduceToNat, encCh, Int.reduceEq, if_false, if_true, or_true, or_false, true_or, false_or, List.map_cons, List.map_nil, List.length_cons, List.length_nil, Int.reduceAdd, List.set_cons_zero, List.set_cons_succ, List.cons_append, List.nil_append])
  refine callq hL ?_
  simp -implicitDefEqProofs only [push_cast, Nat.reduceAdd, Nat.reduceSub, Nat.reduceMul, Nat.reduceLT, Nat.reduceLeDiff, Nat.reduceEqDiff, Nat.reduceBEq, reduceCtorEq, reduceIte, Int.reduceLE, Int.reduceLT, Int.reduceNeg, Int.reduceToNat, encQ, Int.reduceEq, if_false, if_true, or_true, or_false, true_or, false_or, List.map_cons, List.map_nil, List.length_cons, List.length_nil, Int.reduceAdd, List.set_cons_zero, List.set_cons_succ, List.cons_append, List.nil_append, leastC, List.foldl_nil, encCh]
end
section
attribute [local push_cast] encPl_mk encPl_take encPl_len encPl_one encPls_pure encPl_pure encT_pure encT_len encT_one encT_take encCh_take encCh_drop encCh_len encCh_one encCh_pure encChs_pure
theorem encPl_drop (x : Pl) : (encPl x).drop 5 = [] := List.drop_of_length_le (by rw [encPl_len]; exact Nat.le_refl _)
def accC (W : Pl → List Ch) (ws : List Pl) (k : Nat) : List Ch := (ws.take k).flatMap W
theorem accC_zero (W : Pl → List Ch) (ws : List Pl) : accC W ws 0 = [] := rfl
theorem accC_snoc (W : Pl → List Ch) (ws : List Pl) {k : Nat} (h : k < ws.length) : accC W ws (k + 1) = accC W ws k ++ W ws[k] := by
  rw [accC, accC, List.take_succ_eq_append_getElem h, List.flatMap_append]
  congr 1
  rw [List.flatMap_cons, List.flatMap_nil, List.append_nil]
theorem wayC_le (c : List Df) (q : Qy) (f g : Int → Ch) (a b col : Int) (w : Pl) : (wayC c q f g a b col w).length ≤ 1 := by
  unfold wayC; split <;> simp
theorem accC_len {W : Pl → List Ch} (hW : ∀ w, (W w).length ≤ 1) (ws : List Pl) (k : Nat) : (accC W ws k).length ≤ k := by
  induction k with
  | zero => rw [accC_zero]; simp
  | succ k ih =>
    by_cases h : k < ws.length
    · rw [accC_snoc W ws h, List.length_append]
      have := hW ws[k]
      omega
    · have : accC W ws (k + 1) = accC W ws k := by rw [accC, accC, List.take_of_length_le (by omega), List.take_of_length_le (by omega)]
      rw [this]
      omega
theorem ways_len (q : Qy) (hq : q.Ok) (a b col : Int) : (waysP q a b col).length ≤ 30 + 2 * (q.pairs a b).length := by
  have h2 := innerL_len 2 col (q.pairs a b)
  have h3 := innerL_len 3 col (q.pairs a b)
  unfold waysP
  rw [List.length_append, List.length_append, List.length_singleton]
  omega
set_option maxHeartbeats 16000000 in
theorem bestJoin_ok (c : List Df) (hcl : c.length ≤ 1000000) (q : Qy) (hq : q.Ok) (hp8 : q.p.length ≤ 8) (d : Nat) (a b : Tr) (hao : a.Ok) (hbo : b.Ok) (col : Int) (ha : ∀ x, BestAt c q d a x) (hb : ∀ x, BestAt c q d b x) (hn : col ≠ -1 → BestAt c q (d + 1) (.join a b) (-1)) : BestAt c q (d + 1) (.join a b) col := by
  have hto : (Tr.join a b).Ok := .mk (by simp) (by
    intro x hx
    simp only [List.mem_cons, List.not_mem_nil, or_false] at hx
    rcases hx with rfl | rfl
    · exact hao
    · exact hbo)
  have hSa := SetT_ok a hao
  have hSb := SetT_ok b hbo
  have hSt := SetT_ok _ hto
  have hWs := Ways_ok q hq a.set b.set col
  have hwl : (waysP q a.set b.set col).length ≤ 100 := by
    have h1 := ways_len q hq a.set b.set col
    have h2 := pairs_len q a.set b.set
    have h3 : (q.new a.set b.set).length ≤ q.p.length := idxF_lt _ _
    omega
  have hcand : candC c q (bestF c q d) (.join a b) col = accC (wayC c q (bestF c q d a) (bestF c q d b) a.set b.set col) (waysP q a.set b.set col) (waysP q a.set b.set col).length := by
    rw [accC, List.take_length]; rfl
  have hv : bestF c q (d + 1) (.join a b) col = leastC (candC c q (bestF c q d) (.join a b) col ++ (if col = -1 then [] else [sortC c q (.join a b) col (bestF c q (d + 1) (.join a b) (-1))])) := by
    rw [bestF]
    by_cases h : col = -1
    · subst h
      rw [if_pos rfl, if_pos rfl, List.append_nil]
    · rw [if_neg h, if_neg h, bestF, if_pos rfl]
  rw [hcand] at hv
  have hWl := wayC_le c q (bestF c q d a) (bestF c q d b) a.set b.set col
  have hCols := ColsQ_ok c hcl q hq a.set
  have hcl2 : (q.cols c a.set).length ≤ 1000000 := by
    unfold Qy.cols
    split
    · have := colsIn_le c q (bitI a.set); omega
    · simp
  have hOw := fun w => ownW_ok c hcl q hq w a.set b.set
  have hSo := fun n => Sorted_ok c hcl q hq (Tr.join a b).set n
  have hWdef : ∀ w, wayC c q (bestF c q d a) (bestF c q d b) a.set b.set col w = (if (mustP w col).1 ≠ -1 ∧ (q.cols c a.set).contains (mustP w col).1 = false then [] else [(addK [(bestF c q d a (mustP w col).1).1, (bestF c q d b (mustP w col).2).1, ownW c q w a.set b.set], .mk w.op w.occ w.a w.b [(bestF c q d a (mustP w col).1).2, (bestF c q d b (mustP w col).2).2])]) := fun w => rfl
  unfold BestAt at ha hb hn ⊢
  rw [hv]
  generalize wayC c q (bestF c q d a) (bestF c q d b) a.set b.set col = W at hWl hWdef hcand hv ⊢
  generalize waysP q a.set b.set col = ws at hWs hwl hcand hv ⊢
  have hSj : ∀ n, sortC c q (.join a b) col n = (sortedC c q (Tr.join a b).set n.1, .mk 4 0 col 0 [n.2]) := fun n => rfl
  generalize (Tr.join a b).set = sj at hSt hSo hSj
  generalize a.set = sa at hSa hWs hCols hcl2 hOw hWdef
  generalize b.set = sb at hSb hWs hOw hWdef
  clear hcand hv
  have hg0 : ∀ z : List AV, ([a, b].map encT).getD 0 z = encT a := fun _ => rfl
  have hg1 : ∀ z : List AV, ([a, b].map encT).getD 1 z = encT b := fun _ => rfl
  generalize bestF c q (d + 1) (a.join b) (-1) = xn at hn ⊢
  have hsj := hSj xn
  obtain ⟨n, p⟩ := xn
  dsimp only at hsj
  rw [hsj]
  have hSo' := hSo n
  generalize sortedC c q sj n = m at hSo' ⊢
  rw [Tr.join, encT_mk, List.map_cons, List.map_cons, List.map_nil] at hSt hn ⊢
  refine quiet_of (rs := #[.cell 8 103]) Go.Proofs.Tryz.func66 rfl rfl rfl mixed rfl rfl fun H hs => ?_
  simp -implicitDefEqProofs only [push_cast, Nat.reduceAdd, Nat.reduceSub, Nat.reduceMul, Nat.reduceLT, Nat.reduceLeDiff, Nat.reduceEqDiff, Nat.reduceBEq, reduceCtorEq, reduceIte, Int.reduceLE, Int.reduceLT, Int.reduceNeg, Int.reduceToNat, encQ, Int.reduceEq, if_false, if_true, or_true, or_false, true_or, false_or, List.map_cons, List.map_nil, List.length_cons, List.length_nil, Int.reduceAdd, List.set_cons_zero, List.set_cons_succ, List.cons_append, List.nil_append]
  refine areg_at 12 (by kernel_rfl) (by kernel_rfl) ?_
  simp -implicitDefEqProofs only [push_cast, Nat.reduceAdd, Nat.reduceSub, Nat.reduceMul, Nat.reduceLT, Nat.reduceLeDiff, Nat.reduceEqDiff, Nat.reduceBEq, reduceCtorEq, reduceIte, Int.reduceLE, Int.reduceLT, Int.reduceNeg, Int.reduceToNat, encQ, Int.reduceEq, if_false, if_true, or_true, or_false, true_or, false_or, List.map_cons, List.map_nil, List.length_cons, List.length_nil, Int.reduceAdd, List.set_cons_zero, List.set_cons_succ, List.cons_append, List.nil_append]
  refine ahdq hSa ?_
  simp -implicitDefEqProofs only [push_cast, Nat.reduceAdd, Nat.reduceSub, Nat.reduceMul, Nat.reduceLT, Nat.reduceLeDiff, Nat.reduceEqDiff, Nat.reduceBEq, reduceCtorEq, reduceIte, Int.reduceLE, Int.reduceLT, Int.reduceNeg, Int.reduceToNat, encQ, Int.reduceEq, if_false, if_true, or_true, or_false, true_or, false_or, List.map_cons, List.map_nil, List.length_cons, List.length_nil, Int.reduceAdd, List.set_cons_zero, List.set_cons_succ, List.cons_append, List.nil_append]
  refine ahdq hSb ?_
  simp -implicitDefEqProofs only [push_cast, Nat.reduceAdd, Nat.reduceSub, Nat.reduceMul, Nat.reduceLT, Nat.reduceLeDiff, Nat.reduceEqDiff, Nat.reduceBEq, reduceCtorEq, reduceIte, Int.reduceLE, Int.reduceLT, Int.reduceNeg, Int.reduceToNat, encQ, Int.reduceEq, if_false, if_true, or_true, or_false, true_or, false_or, List.map_cons, List.map_nil, List.length_cons, List.length_nil, Int.reduceAdd, List.set_cons_zero, List.set_cons_succ, List.cons_append, List.nil_append]
  refine callq hWs ?_
  simp -implicitDefEqProofs only [push_cast, Nat.reduceAdd, Nat.reduceSub, Nat.reduceMul, Nat.reduceLT, Nat.reduceLeDiff, Nat.reduceEqDiff, Nat.reduceBEq, reduceCtorEq, reduceIte, Int.reduceLE, Int.reduceLT, Int.reduceNeg, Int.reduceToNat, encQ, Int.reduceEq, if_false, if_true, or_true, or_false, true_or, false_or, List.map_cons, List.map_nil, List.length_cons, List.length_nil, Int.reduceAdd, List.set_cons_zero, List.set_cons_succ, List.cons_append, List.nil_append]
  refine loop_at hs (σ := Nat) (fun k => k ≤ ws.length) (fun k => ws.length - k)
    (fun k => [(62, .int k), (61, .int ws.length), (60, .sl (ws.map encPl)), (12, .int sa), (13, .int sb), (10, .clo (.func 120) [] [.ptr (H.nxt + 4) 1 0 0]), (9, .ptr (H.nxt + 4) 1 0 0), (3, .int col), (4, .ptr (H.nxt + 0) 1 0 0), (5, .ptr (H.nxt + 1) 6 0 0), (6, .ptr (H.nxt + 2) 2 0 0), (8, .ptr (H.nxt + 3) 6 0 0)])
    (fun k => [some (.cells 1 [[.sl (c.map encD)]] 0), some (.cells 6 [encQ q] 0), some (.cells 2 [[.int 0, .sl [encT a, encT b]]] 0), some (.cells 6 [encCh (0, plO)] 0), some (.cells 1 [[.rsl (H.nxt + 5) 6 0 (accC W ws k).length]] 0), some (.cells 6 ((accC W ws k).map encCh) 0)]) [some 0, some 1, some 2, some 3, some 4, none] 0 (by omega) rfl ?_ ?_ ?_
  · (try simp -implicitDefEqProofs only [push_cast, Nat.reduceAdd, Nat.reduceSub, Nat.reduceMul, Nat.reduceLT, Nat.reduceLeDiff, Nat.reduceEqDiff, Nat.reduceBEq, reduceCtorEq, reduceIte, Int.reduceLE, Int.reduceLT, Int.reduceNeg, Int.reduceToNat, encPls_pure, encQ, encDs_pure, encEs_pure, encIs_pure, Int.reduceEq, if_false, if_true, or_true, or_false, true_or, false_or, List.map_cons, List.map_nil, List.length_cons, List.length_nil, Int.reduceAdd, List.set_cons_zero, List.set_cons_succ, List.cons_append, List.nil_append])
  · (try simp -implicitDefEqProofs only [push_cast, Nat.reduceAdd, Nat.reduceSub, Nat.reduceMul, Nat.reduceLT, Nat.reduceLeDiff, Nat.reduceEqDiff, Nat.reduceBEq, reduceCtorEq, reduceIte, Int.reduceLE, Int.reduceLT, Int.reduceNeg, Int.reduceToNat, encPls_pure, encQ, encDs_pure, encEs_pure, encIs_pure, accC_zero, encCh, plO, Int.reduceEq, if_false, if_true, or_true, or_false, true_or, false_or, List.map_cons, List.map_nil, List.length_cons, List.length_nil, Int.reduceAdd, List.set_cons_zero, List.set_cons_succ, List.cons_append, List.nil_append])
  intro k hk
  have hal := accC_len hWl ws k
  by_cases hkl : k < ws.length
  · have hk' : ((k : Int) < (ws.length : Int)) = True := by simp; omega
    have hk0 : (0 ≤ (k : Int)) = True := by simp
    have hsn := accC_snoc W ws hkl
    have hwd := hWdef ws[k]
    have hget := encPls_get ws k hkl
    generalize ws[k] = w at hsn hwd hget
    have hMu := must_ok w col
    have hax := ha (mustP w col).1
    have hby := hb (mustP w col).2
    have hCo := containsI_ok _ hcl2 (mustP w col).1
    obtain ⟨x, y, hxy⟩ : ∃ x y, mustP w col = (x, y) := ⟨_, _, rfl⟩
    rw [hxy] at hwd hMu hax hby hCo
    dsimp only at hwd hMu hax hby hCo
    generalize bestF c q d a x = l at hwd hax
    generalize bestF c q d b y = r at hwd hby
    obtain ⟨ln, lp⟩ := l
    obtain ⟨rn, rp⟩ := r
    dsimp only at hwd
    have hOw' := hOw (.mk w.op w.occ w.a w.b [lp, rp])
    have hoe : ownW c q (.mk w.op w.occ w.a w.b [lp, rp]) sa sb = ownW c q w sa sb := rfl
    rw [hoe] at hOw'
    generalize ownW c q w sa sb = own at hwd hOw'
    generalize hrow : accC W ws k = row at hsn hal ⊢
    obtain ⟨op, occ, wa, wb, wl⟩ := w
    simp only [Pl.op, Pl.occ, Pl.a, Pl.b] at hwd hOw'
    rw [encPl_mk] at hMu hget
    by_cases hskip : x ≠ -1 ∧ (q.cols c sa).contains x = false
    · rw [if_pos hskip] at hwd
      rw [hwd, List.append_nil] at hsn
      have hx1 : (x = -1) = False := by simp [hskip.1]
      simp -implicitDefEqProofs only [push_cast, Nat.reduceAdd, Nat.reduceSub, Nat.reduceMul, Nat.reduceLT, Nat.reduceLeDiff, Nat.reduceEqDiff, Nat.reduceBEq, reduceCtorEq, reduceIte, Int.reduceLE, Int.reduceLT, Int.reduceNeg, Int.reduceToNat, encQ, hk', hk0, hget, Int.reduceEq, if_false, if_true, or_true, or_false, true_or, false_or, List.map_cons, List.map_nil, List.length_cons, List.length_nil, Int.reduceAdd, List.set_cons_zero, List.set_cons_succ, List.cons_append, List.nil_append]
      refine callq hMu ?_
      simp -implicitDefEqProofs only [push_cast, Nat.reduceAdd, Nat.reduceSub, Nat.reduceMul, Nat.reduceLT, Nat.reduceLeDiff, Nat.reduceEqDiff, Nat.reduceBEq, reduceCtorEq, reduceIte, Int.reduceLE, Int.reduceLT, Int.reduceNeg, Int.reduceToNat, encQ, hx1, Int.reduceEq, if_false, if_true, or_true, or_false, true_or, false_or, List.map_cons, List.map_nil, List.length_cons, List.length_nil, Int.reduceAdd, List.set_cons_zero, List.set_cons_succ, List.cons_append, List.nil_append]
      refine gcallq' (.sl ((q.cols c sa).map encI)) (fun h => by simp) (fun _ => hCols) ?_
      simp -implicitDefEqProofs only [push_cast, Nat.reduceAdd, Nat.reduceSub, Nat.reduceMul, Nat.reduceLT, Nat.reduceLeDiff, Nat.reduceEqDiff, Nat.reduceBEq, reduceCtorEq, reduceIte, Int.reduceLE, Int.reduceLT, Int.reduceNeg, Int.reduceToNat, encQ, hx1, Int.reduceEq, if_false, if_true, or_true, or_false, true_or, false_or, List.map_cons, List.map_nil, List.length_cons, List.length_nil, Int.reduceAdd, List.set_cons_zero, List.set_cons_succ, List.cons_append, List.nil_append]
      refine gcallq' (.bool false) (fun h => by simp) (fun _ => by rw [← hskip.2]; exact hCo) ?_
      simp -implicitDefEqProofs only [push_cast, Nat.reduceAdd, Nat.reduceSub, Nat.reduceMul, Nat.reduceLT, Nat.reduceLeDiff, Nat.reduceEqDiff, Nat.reduceBEq, reduceCtorEq, reduceIte, Int.reduceLE, Int.reduceLT, Int.reduceNeg, Int.reduceToNat, encQ, hx1, Int.reduceEq, if_false, if_true, or_true, or_false, true_or, false_or, List.map_cons, List.map_nil, List.length_cons, List.length_nil, Int.reduceAdd, List.set_cons_zero, List.set_cons_succ, List.cons_append, List.nil_append]
      rw [wrap64 (n := (k : Int) + 1) (by omega) (by omega)]
      refine next_at [some 0, some 1, some 2, some 3, some 4, some 5] (k + 1) (by omega) (by omega) rfl ?_ ?_
      · (try simp -implicitDefEqProofs only [push_cast, Nat.reduceAdd, Nat.reduceSub, Nat.reduceMul, Nat.reduceLT, Nat.reduceLeDiff, Nat.reduceEqDiff, Nat.reduceBEq, reduceCtorEq, reduceIte, Int.reduceLE, Int.reduceLT, Int.reduceNeg, Int.reduceToNat, hsn, encPls_pure, encQ, encDs_pure, encEs_pure, encIs_pure, Int.reduceEq, if_false, if_true, or_true, or_false, true_or, false_or, List.map_cons, List.map_nil, List.length_cons, List.length_nil, Int.reduceAdd, List.set_cons_zero, List.set_cons_succ, List.cons_append, List.nil_append])
      · (try simp -implicitDefEqProofs only [push_cast, Nat.reduceAdd, Nat.reduceSub, Nat.reduceMul, Nat.reduceLT, Nat.reduceLeDiff, Nat.reduceEqDiff, Nat.reduceBEq, reduceCtorEq, reduceIte, Int.reduceLE, Int.reduceLT, Int.reduceNeg, Int.reduceToNat, hsn, encPls_pure, encQ, encDs_pure, encEs_pure, encIs_pure, Int.reduceEq, if_false, if_true, or_true, or_false, true_or, false_or, List.map_cons, List.map_nil, List.length_cons, List.length_nil, Int.reduceAdd, List.set_cons_zero, List.set_cons_succ, List.cons_append, List.nil_append])
        exact encChs_all6 _
    · rw [if_neg hskip] at hwd
      rw [hwd] at hsn
      have hcnd : (!decide (x = -1) && !(q.cols c sa).contains x) = false := by
        by_cases h1 : x = -1
        · simp [h1]
        · have : (q.cols c sa).contains x = true := by
            rcases Bool.eq_false_or_eq_true ((q.cols c sa).contains x) with h2 | h2
            · exact h2
            · exact absurd ⟨h1, h2⟩ hskip
          rw [this]; simp
      simp -implicitDefEqProofs only [push_cast, Nat.reduceAdd, Nat.reduceSub, Nat.reduceMul, Nat.reduceLT, Nat.reduceLeDiff, Nat.reduceEqDiff, Nat.reduceBEq, reduceCtorEq, reduceIte, Int.reduceLE, Int.reduceLT, Int.reduceNeg, Int.reduceToNat, encQ, hk', hk0, hget, Int.reduceEq, if_false, if_true, or_true, or_false, true_or, false_or, List.map_cons, List.map_nil, List.length_cons, List.length_nil, Int.reduceAdd, List.set_cons_zero, List.set_cons_succ, List.cons_append, List.nil_append]
      refine callq hMu ?_
      simp -implicitDefEqProofs only [push_cast, Nat.reduceAdd, Nat.reduceSub, Nat.reduceMul, Nat.reduceLT, Nat.reduceLeDiff, Nat.reduceEqDiff, Nat.reduceBEq, reduceCtorEq, reduceIte, Int.reduceLE, Int.reduceLT, Int.reduceNeg, Int.reduceToNat, encQ, Int.reduceEq, if_false, if_true, or_true, or_false, true_or, false_or, List.map_cons, List.map_nil, List.length_cons, List.length_nil, Int.reduceAdd, List.set_cons_zero, List.set_cons_succ, List.cons_append, List.nil_append]
      refine gcallq' (.sl ((q.cols c sa).map encI)) (fun h => by simpa using h) (fun _ => hCols) ?_
      simp -implicitDefEqProofs only [push_cast, Nat.reduceAdd, Nat.reduceSub, Nat.reduceMul, Nat.reduceLT, Nat.reduceLeDiff, Nat.reduceEqDiff, Nat.reduceBEq, reduceCtorEq, reduceIte, Int.reduceLE, Int.reduceLT, Int.reduceNeg, Int.reduceToNat, encQ, Int.reduceEq, if_false, if_true, or_true, or_false, true_or, false_or, List.map_cons, List.map_nil, List.length_cons, List.length_nil, Int.reduceAdd, List.set_cons_zero, List.set_cons_succ, List.cons_append, List.nil_append]
      refine gcallq' (.bool ((q.cols c sa).contains x)) (fun h => by simpa using h) (fun _ => hCo) ?_
      simp -implicitDefEqProofs only [push_cast, Nat.reduceAdd, Nat.reduceSub, Nat.reduceMul, Nat.reduceLT, Nat.reduceLeDiff, Nat.reduceEqDiff, Nat.reduceBEq, reduceCtorEq, reduceIte, Int.reduceLE, Int.reduceLT, Int.reduceNeg, Int.reduceToNat, encQ, Int.reduceEq, if_false, if_true, or_true, or_false, true_or, false_or, List.map_cons, List.map_nil, List.length_cons, List.length_nil, Int.reduceAdd, List.set_cons_zero, List.set_cons_succ, List.cons_append, List.nil_append, hcnd]
      refine areg_at 20 (by kernel_rfl) (by kernel_rfl) ?_
      simp -implicitDefEqProofs only [push_cast, Nat.reduceAdd, Nat.reduceSub, Nat.reduceMul, Nat.reduceLT, Nat.reduceLeDiff, Nat.reduceEqDiff, Nat.reduceBEq, reduceCtorEq, reduceIte, Int.reduceLE, Int.reduceLT, Int.reduceNeg, Int.reduceToNat, encQ, Int.reduceEq, if_false, if_true, or_true, or_false, true_or, false_or, List.map_cons, List.map_nil, List.length_cons, List.length_nil, Int.reduceAdd, List.set_cons_zero, List.set_cons_succ, List.cons_append, List.nil_append]
      refine ahdq hax ?_
      simp -implicitDefEqProofs only [push_cast, Nat.reduceAdd, Nat.reduceSub, Nat.reduceMul, Nat.reduceLT, Nat.reduceLeDiff, Nat.reduceEqDiff, Nat.reduceBEq, reduceCtorEq, reduceIte, Int.reduceLE, Int.reduceLT, Int.reduceNeg, Int.reduceToNat, encQ, Int.reduceEq, if_false, if_true, or_true, or_false, true_or, false_or, List.map_cons, List.map_nil, List.length_cons, List.length_nil, Int.reduceAdd, List.set_cons_zero, List.set_cons_succ, List.cons_append, List.nil_append]
      refine ahdq hby ?_
      simp -implicitDefEqProofs only [push_cast, Nat.reduceAdd, Nat.reduceSub, Nat.reduceMul, Nat.reduceLT, Nat.reduceLeDiff, Nat.reduceEqDiff, Nat.reduceBEq, reduceCtorEq, reduceIte, Int.reduceLE, Int.reduceLT, Int.reduceNeg, Int.reduceToNat, encQ, encCh, Int.reduceEq, if_false, if_true, or_true, or_false, true_or, false_or, List.map_cons, List.map_nil, List.length_cons, List.length_nil, Int.reduceAdd, List.set_cons_zero, List.set_cons_succ, List.cons_append, List.nil_append]
      have hA := AddK_ok [ln, rn, own] (by simp)
      refine areg_wklink hs [116] 14 [(62, .int k), (61, .int ws.length), (60, .sl (ws.map encPl)), (12, .int sa), (13, .int sb), (10, .clo (.func 120) [] [.ptr (H.nxt + 4) 1 0 0]), (9, .ptr (H.nxt + 4) 1 0 0), (3, .int col), (4, .ptr (H.nxt + 0) 1 0 0), (5, .ptr (H.nxt + 1) 6 0 0), (6, .ptr (H.nxt + 2) 2 0 0), (8, .ptr (H.nxt + 3) 6 0 0), (15, .ptr (H.nxt + 6) 5 0 0), (18, .ptr (H.nxt + 7) 6 0 0), (19, .ptr (H.nxt + 8) 6 0 0)]
        [some (.cells 1 [[.sl (c.map encD)]] 0), some (.cells 6 [encQ q] 0), some (.cells 2 [[.int 0, .sl [encT a, encT b]]] 0), some (.cells 6 [encCh (0, plO)] 0), some (.cells 1 [[.rsl (H.nxt + 5) 6 0 row.length]] 0), some (.cells 6 (row.map encCh) 0), some (.cells 5 [encPl (.mk op occ wa wb [lp, rp])] 0), some (.cells 6 [encCh (ln, lp)] 0), some (.cells 6 [encCh (rn, rp)] 0)] (by kernel_rfl) (by kernel_rfl) ?_ ?_ ?_
      · (try simp -implicitDefEqProofs only [push_cast, Nat.reduceAdd, Nat.reduceSub, Nat.reduceMul, Nat.reduceLT, Nat.reduceLeDiff, Nat.reduceEqDiff, Nat.reduceBEq, reduceCtorEq, reduceIte, Int.reduceLE, Int.reduceLT, Int.reduceNeg, Int.reduceToNat, encPls_pure, encQ, encDs_pure, encEs_pure, encIs_pure, Int.reduceEq, if_false, if_true, or_true, or_false, true_or, false_or, List.map_cons, List.map_nil, List.length_cons, List.length_nil, Int.reduceAdd, List.set_cons_zero, List.set_cons_succ, List.cons_append, List.nil_append])
      · (try simp -implicitDefEqProofs only [push_cast, Nat.reduceAdd, Nat.reduceSub, Nat.reduceMul, Nat.reduceLT, Nat.reduceLeDiff, Nat.reduceEqDiff, Nat.reduceBEq, reduceCtorEq, reduceIte, Int.reduceLE, Int.reduceLT, Int.reduceNeg, Int.reduceToNat, encPls_pure, encQ, encDs_pure, encEs_pure, encIs_pure, encCh, Int.reduceEq, if_false, if_true, or_true, or_false, true_or, false_or, List.map_cons, List.map_nil, List.length_cons, List.length_nil, Int.reduceAdd, List.set_cons_zero, List.set_cons_succ, List.cons_append, List.nil_append])
        exact encChs_all6 _
      rw [encPl_mk, List.map_cons, List.map_cons, List.map_nil] at hOw'
      simp -implicitDefEqProofs only [push_cast, Nat.reduceAdd, Nat.reduceSub, Nat.reduceMul, Nat.reduceLT, Nat.reduceLeDiff, Nat.reduceEqDiff, Nat.reduceBEq, reduceCtorEq, reduceIte, Int.reduceLE, Int.reduceLT, Int.reduceNeg, Int.reduceToNat, encQ, encCh, Int.reduceEq, if_false, if_true, or_true, or_false, true_or, false_or, List.map_cons, List.map_nil, List.length_cons, List.length_nil, Int.reduceAdd, List.set_cons_zero, List.set_cons_succ, List.cons_append, List.nil_append]
      refine ahdq hOw' ?_
      simp -implicitDefEqProofs only [push_cast, Nat.reduceAdd, Nat.reduceSub, Nat.reduceMul, Nat.reduceLT, Nat.reduceLeDiff, Nat.reduceEqDiff, Nat.reduceBEq, reduceCtorEq, reduceIte, Int.reduceLE, Int.reduceLT, Int.reduceNeg, Int.reduceToNat, encQ, encCh, Int.reduceEq, if_false, if_true, or_true, or_false, true_or, false_or, List.map_cons, List.map_nil, List.length_cons, List.length_nil, Int.reduceAdd, List.set_cons_zero, List.set_cons_succ, List.cons_append, List.nil_append]
      refine ahdq hA ?_
      simp -implicitDefEqProofs only [push_cast, Nat.reduceAdd, Nat.reduceSub, Nat.reduceMul, Nat.reduceLT, Nat.reduceLeDiff, Nat.reduceEqDiff, Nat.reduceBEq, reduceCtorEq, reduceIte, Int.reduceLE, Int.reduceLT, Int.reduceNeg, Int.reduceToNat, encQ, encCh, Int.reduceEq, if_false, if_true, or_true, or_false, true_or, false_or, List.map_cons, List.map_nil, List.length_cons, List.length_nil, Int.reduceAdd, List.set_cons_zero, List.set_cons_succ, List.cons_append, List.nil_append]
      refine told [.int (addK [ln, rn, own]), .agg (encPl (.mk op occ wa wb [lp, rp])), .ptr (H.nxt + 4) 1 0 0] ?_ ?_
      · (try simp -implicitDefEqProofs only [push_cast, Nat.reduceAdd, Nat.reduceSub, Nat.reduceMul, Nat.reduceLT, Nat.reduceLeDiff, Nat.reduceEqDiff, Nat.reduceBEq, reduceCtorEq, reduceIte, Int.reduceLE, Int.reduceLT, Int.reduceNeg, Int.reduceToNat, Int.reduceEq, if_false, if_true, or_true, or_false, true_or, false_or, List.map_cons, List.map_nil, List.length_cons, List.length_nil, Int.reduceAdd, List.set_cons_zero, List.set_cons_succ, List.cons_append, List.nil_append])
      refine (put_ok row (by omega) (addK [ln, rn, own]) (.mk op occ wa wb [lp, rp]) (H.nxt + 4) (H.nxt + 5) _ (by omega) (by simp [plus_nxt]) (by simp [plus_nxt]) (by rw [plus_obj]; rfl) (by rw [plus_obj]; rfl)).mono ?_
      rintro r H2 ⟨rfl, rfl⟩
      rw [plus_del _ _ 5, plus_set _ _ 4 _ (by simp), plus_plus]
      simp -implicitDefEqProofs only [push_cast, Nat.reduceAdd, Nat.reduceSub, Nat.reduceMul, Nat.reduceLT, Nat.reduceLeDiff, Nat.reduceEqDiff, Nat.reduceBEq, reduceCtorEq, reduceIte, Int.reduceLE, Int.reduceLT, Int.reduceNeg, Int.reduceToNat, encQ, encCh, Nat.add_assoc, Int.reduceEq, if_false, if_true, or_true, or_false, true_or, false_or, List.map_cons, List.map_nil, List.length_cons, List.length_nil, Int.reduceAdd, List.set_cons_zero, List.set_cons_succ, List.cons_append, List.nil_append]
      have hln : (accC W ws (k + 1)).length = row.length + 1 := by rw [hsn, List.length_append]; rfl
      rw [wrap64 (n := (k : Int) + 1) (by omega) (by omega), ← hsn]
      refine next_at [some 0, some 1, some 2, some 3, some 4, some 11] (k + 1) (by omega) (by omega) rfl ?_ ?_
      · (try simp -implicitDefEqProofs only [push_cast, Nat.reduceAdd, Nat.reduceSub, Nat.reduceMul, Nat.reduceLT, Nat.reduceLeDiff, Nat.reduceEqDiff, Nat.reduceBEq, reduceCtorEq, reduceIte, Int.reduceLE, Int.reduceLT, Int.reduceNeg, Int.reduceToNat, hln, encPls_pure, encQ, encDs_pure, encEs_pure, encIs_pure, Int.reduceEq, if_false, if_true, or_true, or_false, true_or, false_or, List.map_cons, List.map_nil, List.length_cons, List.length_nil, Int.reduceAdd, List.set_cons_zero, List.set_cons_succ, List.cons_append, List.nil_append])
      · (try simp -implicitDefEqProofs only [push_cast, Nat.reduceAdd, Nat.reduceSub, Nat.reduceMul, Nat.reduceLT, Nat.reduceLeDiff, Nat.reduceEqDiff, Nat.reduceBEq, reduceCtorEq, reduceIte, Int.reduceLE, Int.reduceLT, Int.reduceNeg, Int.reduceToNat, hln, encPls_pure, encQ, encDs_pure, encEs_pure, encIs_pure, Int.reduceEq, if_false, if_true, or_true, or_false, true_or, false_or, List.map_cons, List.map_nil, List.length_cons, List.length_nil, Int.reduceAdd, List.set_cons_zero, List.set_cons_succ, List.cons_append, List.nil_append])
        exact encChs_all6 _
  · have hk' : ((k : Int) < (ws.length : Int)) = False := by simp; omega
    obtain rfl : k = ws.length := by omega
    generalize accC W ws ws.length = acc at hal ⊢
    by_cases hc : col = -1
    · subst hc
      rw [if_pos rfl, List.append_nil]
      have hL := least_ok acc (by omega)
      simp -implicitDefEqProofs only [push_cast, Nat.reduceAdd, Nat.reduceSub, Nat.reduceMul, Nat.reduceLT, Nat.reduceLeDiff, Nat.reduceEqDiff, Nat.reduceBEq, reduceCtorEq, reduceIte, Int.reduceLE, Int.reduceLT, Int.reduceNeg, Int.reduceToNat, encQ, hk', Int.reduceEq, if_false, if_true, or_true, or_false, true_or, false_or, List.map_cons, List.map_nil, List.length_cons, List.length_nil, Int.reduceAdd, List.set_cons_zero, List.set_cons_succ, List.cons_append, List.nil_append]
      have htk : List.take acc.length (acc.map encCh) = acc.map encCh := List.take_of_length_le (by simp)
      refine fzk H 5 acc.length [.sl (acc.map encCh), .clo (.func 126) [] []] (by rfl) (by omega) (by simp) ?_ ?_
      · (try simp -implicitDefEqProofs only [push_cast, Nat.reduceAdd, Nat.reduceSub, Nat.reduceMul, Nat.reduceLT, Nat.reduceLeDiff, Nat.reduceEqDiff, Nat.reduceBEq, reduceCtorEq, reduceIte, Int.reduceLE, Int.reduceLT, Int.reduceNeg, Int.reduceToNat, htk, encChs_pure, Int.reduceEq, if_false, if_true, or_true, or_false, true_or, false_or, List.map_cons, List.map_nil, List.length_cons, List.length_nil, Int.reduceAdd, List.set_cons_zero, List.set_cons_succ, List.cons_append, List.nil_append])
      refine callq hL ?_
      simp -implicitDefEqProofs only [push_cast, Nat.reduceAdd, Nat.reduceSub, Nat.reduceMul, Nat.reduceLT, Nat.reduceLeDiff, Nat.reduceEqDiff, Nat.reduceBEq, reduceCtorEq, reduceIte, Int.reduceLE, Int.reduceLT, Int.reduceNeg, Int.reduceToNat, encQ, Int.reduceEq, if_false, if_true, or_true, or_false, true_or, false_or, List.map_cons, List.map_nil, List.length_cons, List.length_nil, Int.reduceAdd, List.set_cons_zero, List.set_cons_succ, List.cons_append, List.nil_append]
    · rw [if_neg hc]
      have hc1 : (col = -1) = False := by simp [hc]
      have hB := hn hc
      have hL := least_ok (acc ++ [(m, Pl.mk 4 0 col 0 [p])]) (by simp; omega)
      simp -implicitDefEqProofs only [push_cast, Nat.reduceAdd, Nat.reduceSub, Nat.reduceMul, Nat.reduceLT, Nat.reduceLeDiff, Nat.reduceEqDiff, Nat.reduceBEq, reduceCtorEq, reduceIte, Int.reduceLE, Int.reduceLT, Int.reduceNeg, Int.reduceToNat, encQ, hk', hc1, Int.reduceEq, if_false, if_true, or_true, or_false, true_or, false_or, List.map_cons, List.map_nil, List.length_cons, List.length_nil, Int.reduceAdd, List.set_cons_zero, List.set_cons_succ, List.cons_append, List.nil_append]
      refine callq hB ?_
      simp -implicitDefEqProofs only [push_cast, Nat.reduceAdd, Nat.reduceSub, Nat.reduceMul, Nat.reduceLT, Nat.reduceLeDiff, Nat.reduceEqDiff, Nat.reduceBEq, reduceCtorEq, reduceIte, Int.reduceLE, Int.reduceLT, Int.reduceNeg, Int.reduceToNat, encQ, hc1, encCh, Int.reduceEq, if_false, if_true, or_true, or_false, true_or, false_or, List.map_cons, List.map_nil, List.length_cons, List.length_nil, Int.reduceAdd, List.set_cons_zero, List.set_cons_succ, List.cons_append, List.nil_append]
      refine areg_linkim [139] 14 (by kernel_rfl) (by kernel_rfl) ?_
      simp -implicitDefEqProofs only [push_cast, Nat.reduceAdd, Nat.reduceSub, Nat.reduceMul, Nat.reduceLT, Nat.reduceLeDiff, Nat.reduceEqDiff, Nat.reduceBEq, reduceCtorEq, reduceIte, Int.reduceLE, Int.reduceLT, Int.reduceNeg, Int.reduceToNat, encQ, Int.reduceEq, if_false, if_true, or_true, or_false, true_or, false_or, List.map_cons, List.map_nil, List.length_cons, List.length_nil, Int.reduceAdd, List.set_cons_zero, List.set_cons_succ, List.cons_append, List.nil_append]
      refine ahdq hSt ?_
      simp -implicitDefEqProofs only [push_cast, Nat.reduceAdd, Nat.reduceSub, Nat.reduceMul, Nat.reduceLT, Nat.reduceLeDiff, Nat.reduceEqDiff, Nat.reduceBEq, reduceCtorEq, reduceIte, Int.reduceLE, Int.reduceLT, Int.reduceNeg, Int.reduceToNat, encQ, Int.reduceEq, if_false, if_true, or_true, or_false, true_or, false_or, List.map_cons, List.map_nil, List.length_cons, List.length_nil, Int.reduceAdd, List.set_cons_zero, List.set_cons_succ, List.cons_append, List.nil_append]
      refine ahdq hSo' ?_
      simp -implicitDefEqProofs only [push_cast, Nat.reduceAdd, Nat.reduceSub, Nat.reduceMul, Nat.reduceLT, Nat.reduceLeDiff, Nat.reduceEqDiff, Nat.reduceBEq, reduceCtorEq, reduceIte, Int.reduceLE, Int.reduceLT, Int.reduceNeg, Int.reduceToNat, encQ, Int.reduceEq, if_false, if_true, or_true, or_false, true_or, false_or, List.map_cons, List.map_nil, List.length_cons, List.length_nil, Int.reduceAdd, List.set_cons_zero, List.set_cons_succ, List.cons_append, List.nil_append]
      refine told [.int m, .agg (encPl (.mk 4 0 col 0 [p])), .ptr (H.nxt + 4) 1 0 0] ?_ ?_
      · (try simp -implicitDefEqProofs only [push_cast, Nat.reduceAdd, Nat.reduceSub, Nat.reduceMul, Nat.reduceLT, Nat.reduceLeDiff, Nat.reduceEqDiff, Nat.reduceBEq, reduceCtorEq, reduceIte, Int.reduceLE, Int.reduceLT, Int.reduceNeg, Int.reduceToNat, Int.reduceEq, if_false, if_true, or_true, or_false, true_or, false_or, List.map_cons, List.map_nil, List.length_cons, List.length_nil, Int.reduceAdd, List.set_cons_zero, List.set_cons_succ, List.cons_append, List.nil_append])
      refine (put_ok acc (by omega) m (.mk 4 0 col 0 [p]) (H.nxt + 4) (H.nxt + 5) _ (by omega) (by simp [plus_nxt]) (by simp [plus_nxt]) (by rw [plus_obj]; rfl) (by rw [plus_obj]; rfl)).mono ?_
      rintro r H2 ⟨rfl, rfl⟩
      rw [plus_del _ _ 5, plus_set _ _ 4 _ (by simp), plus_plus]
      simp -implicitDefEqProofs only [push_cast, Nat.reduceAdd, Nat.reduceSub, Nat.reduceMul, Nat.reduceLT, Nat.reduceLeDiff, Nat.reduceEqDiff, Nat.reduceBEq, reduceCtorEq, reduceIte, Int.reduceLE, Int.reduceLT, Int.reduceNeg, Int.reduceToNat, encQ, Nat.add_assoc, Int.reduceEq, if_false, if_true, or_true, or_false, true_or, false_or, List.map_cons, List.map_nil, List.length_cons, List.length_nil, Int.reduceAdd, List.set_cons_zero, List.set_cons_succ, List.cons_append, List.nil_append]
      have hlen : (acc ++ [(m, Pl.mk 4 0 col 0 [p])]).length = acc.length + 1 := by rw [List.length_append]; rfl
      generalize acc ++ [(m, Pl.mk 4 0 col 0 [p])] = acc' at hL hlen ⊢
      have htk : List.take (acc.length + 1) (acc'.map encCh) = acc'.map encCh := List.take_of_length_le (by simp; omega)
      refine fzk H 9 (acc.length + 1) [.sl (acc'.map encCh), .clo (.func 126) [] []] (by rfl) (by omega) (by simp; omega) ?_ ?_
      · (try simp -implicitDefEqProofs only [push_cast, Nat.reduceAdd, Nat.reduceSub, Nat.reduceMul, Nat.reduceLT, Nat.reduceLeDiff, Nat.reduceEqDiff, Nat.reduceBEq, reduceCtorEq, reduceIte, Int.reduceLE, Int.reduceLT, Int.reduceNeg, Int.reduceToNat, htk, encChs_pure, Int.reduceEq, if_false, if_true, or_true, or_false, true_or, false_or, List.map_cons, List.map_nil, List.length_cons, List.length_nil, Int.reduceAdd, List.set_cons_zero, List.set_cons_succ, List.cons_append, List.nil_append])
        try omega
      refine callq hL ?_
      simp -implicitDefEqProofs only [push_cast, Nat.reduceAdd, Nat.reduceSub, Nat.reduceMul, Nat.reduceLT, Nat.reduceLeDiff, Nat.reduceEqDiff, Nat.reduceBEq, reduceCtorEq, reduceIte, Int.reduceLE, Int.reduceLT, Int.reduceNeg, Int.reduceToNat, encQ, encCh, encPl_drop, Int.reduceEq, if_false, if_true, or_true, or_false, true_or, false_or, List.map_cons, List.map_nil, List.length_cons, List.length_nil, Int.reduceAdd, List.set_cons_zero, List.set_cons_succ, List.cons_append, List.nil_append]
end
section
attribute [local push_cast] encPl_mk encPl_take encPl_len encPl_one encPls_pure encPl_pure encT_pure encT_len encT_one encT_take encCh_take encCh_drop encCh_len encCh_one encCh_pure encChs_pure
theorem best_ok (c : List Df) (hcl : c.length ≤ 1000000) (q : Qy) (hq : q.Ok) (hp8 : q.p.length ≤ 8) : ∀ (d : Nat) (t : Tr) (col : Int), t.Ok → (setT d t).2 = true → BestAt c q d t col := by
  intro d
  induction d with
  | zero => intro t col _ h; simp [setT] at h
  | succ d ih =>
  have none : ∀ t : Tr, t.Ok → (setT (d + 1) t).2 = true → BestAt c q (d + 1) t (-1) := by
    intro t hok hs
    rcases tr_form hs with ⟨o, rfl⟩ | ⟨a, b, rfl⟩
    · exact bestLeaf_ok c hcl q hq d o
    · obtain ⟨_, hlo⟩ := hok
      obtain ⟨sx, sy, _⟩ := setT_join hs
      exact bestJoin_ok c hcl q hq hp8 d a b (hlo a (by simp)) (hlo b (by simp)) (-1) (fun x => ih a x (hlo a (by simp)) sx) (fun x => ih b x (hlo b (by simp)) sy) (fun h => absurd rfl h)
  intro t col hok hs
  by_cases hc : col = -1
  · rw [hc]; exact none t hok hs
  · have hN := none t hok hs
    rcases tr_form hs with ⟨o, rfl⟩ | ⟨a, b, rfl⟩
    · exact bestLeafS_ok c hcl q hq d o col hc hN
    · obtain ⟨_, hlo⟩ := hok
      obtain ⟨sx, sy, _⟩ := setT_join hs
      exact bestJoin_ok c hcl q hq hp8 d a b (hlo a (by simp)) (hlo b (by simp)) col (fun x => ih a x (hlo a (by simp)) sx) (fun x => ih b x (hlo b (by simp)) sy) (fun _ => hN)
def validT (c : List Df) (q : Qy) (t : Tr) (col : Int) : Bool := q.may c && t.may && decide (t.set < 2 ^ q.occ.length) && (decide (col = -1) || (q.cols c t.set).contains col)
def bestR (c : List Df) (q : Qy) (t : Tr) (col : Int) : Int × Pl × Bool := if validT c q t col then ((bestF c q 4 t col).1, (bestF c q 4 t col).2, true) else (0, plO, false)
set_option maxHeartbeats 4000000 in
theorem Best_ok (c : List Df) (hcl : c.length ≤ 1000000) (q : Qy) (hq : q.Ok) (hp8 : q.p.length ≤ 8) (t : Tr) (hok : t.Ok) (col : Int) : Quiet Go.Proofs.Tryz.prog 24 [.agg [.sl (c.map encD)], .agg (encQ q), .agg (encT t), .int col] (.tup [.int (bestR c q t col).1, .agg (encPl (bestR c q t col).2.1), .bool (bestR c q t col).2.2]) := by
  have hM := MayQ_ok c hcl q hq
  have hT := MayT_ok t hok
  have hS := SetT_ok t hok
  have hC := ColsQ_ok c hcl q hq t.set
  have hcl2 : (q.cols c t.set).length ≤ 1000000 := by
    unfold Qy.cols
    split
    · have := colsIn_le c q (bitI t.set); omega
    · simp
  have hH := containsI_ok _ hcl2 col
  have hv : validT c q t col = !(!q.may c || !t.may || decide (0 < bshr .i64 t.set q.occ.length) || (!decide (col = -1) && !(q.cols c t.set).contains col)) := by
    unfold validT
    cases hm : q.may c
    · rfl
    have hn := may_len hm
    have e : decide (t.set < 2 ^ q.occ.length) = !decide (0 < bshr .i64 t.set q.occ.length) := by
      rw [← decide_not, decide_eq_decide]
      exact (shr_iff hn).symm
    rw [e]
    cases t.may <;> cases decide (0 < bshr .i64 t.set q.occ.length) <;> cases decide (col = -1) <;> simp
  have hB : validT c q t col = true → BestAt c q 4 t col := fun h => by
    unfold validT at h
    simp only [Bool.and_eq_true] at h
    exact best_ok c hcl q hq hp8 4 t col hok h.1.1.2
  unfold bestR
  unfold BestAt at hB
  generalize bestF c q 4 t col = x at hB ⊢
  obtain ⟨n, p⟩ := x
  generalize validT c q t col = v at hv hB ⊢
  generalize q.may c = m at hM hv
  generalize (q.cols c t.set).contains col = has at hH hv
  generalize q.cols c t.set = cols at hC hH
  generalize t.may = tm at hT hv
  refine quiet_of (rs := #[.tmp 8, .cell 9 32, .tmp 10]) Go.Proofs.Tryz.func24 rfl rfl rfl mixed rfl rfl fun H hs => ?_
  simp -implicitDefEqProofs only [push_cast, Nat.reduceAdd, Nat.reduceSub, Nat.reduceMul, Nat.reduceLT, Nat.reduceLeDiff, Nat.reduceEqDiff, Nat.reduceBEq, reduceCtorEq, reduceIte, Int.reduceLE, Int.reduceLT, Int.reduceNeg, Int.reduceToNat, encQ, encT_take, encT_len, encT_one]
  refine areg_at 32 (by kernel_rfl) (by kernel_rfl) ?_
  simp -implicitDefEqProofs only [push_cast, Nat.reduceAdd, Nat.reduceSub, Nat.reduceMul, Nat.reduceLT, Nat.reduceLeDiff, Nat.reduceEqDiff, Nat.reduceBEq, reduceCtorEq, reduceIte, Int.reduceLE, Int.reduceLT, Int.reduceNeg, Int.reduceToNat, encQ]
  refine ahdq hM ?_
  simp -implicitDefEqProofs only [push_cast, Nat.reduceAdd, Nat.reduceSub, Nat.reduceMul, Nat.reduceLT, Nat.reduceLeDiff, Nat.reduceEqDiff, Nat.reduceBEq, reduceCtorEq, reduceIte, Int.reduceLE, Int.reduceLT, Int.reduceNeg, Int.reduceToNat, encQ]
  refine gcallq (.bool tm) (fun _ => hT) ?_
  simp -implicitDefEqProofs only [push_cast, Nat.reduceAdd, Nat.reduceSub, Nat.reduceMul, Nat.reduceLT, Nat.reduceLeDiff, Nat.reduceEqDiff, Nat.reduceBEq, reduceCtorEq, reduceIte, Int.reduceLE, Int.reduceLT, Int.reduceNeg, Int.reduceToNat, encQ]
  refine gcallq (.int t.set) (fun _ => hS) ?_
  simp -implicitDefEqProofs only [push_cast, Nat.reduceAdd, Nat.reduceSub, Nat.reduceMul, Nat.reduceLT, Nat.reduceLeDiff, Nat.reduceEqDiff, Nat.reduceBEq, reduceCtorEq, reduceIte, Int.reduceLE, Int.reduceLT, Int.reduceNeg, Int.reduceToNat, encQ]
  refine ⟨fun _ => by omega, gcallq (.int t.set) (fun _ => hS) ?_⟩
  simp -implicitDefEqProofs only [push_cast, Nat.reduceAdd, Nat.reduceSub, Nat.reduceMul, Nat.reduceLT, Nat.reduceLeDiff, Nat.reduceEqDiff, Nat.reduceBEq, reduceCtorEq, reduceIte, Int.reduceLE, Int.reduceLT, Int.reduceNeg, Int.reduceToNat, encQ]
  refine gcallq (.sl (cols.map encI)) (fun _ => hC) ?_
  simp -implicitDefEqProofs only [push_cast, Nat.reduceAdd, Nat.reduceSub, Nat.reduceMul, Nat.reduceLT, Nat.reduceLeDiff, Nat.reduceEqDiff, Nat.reduceBEq, reduceCtorEq, reduceIte, Int.reduceLE, Int.reduceLT, Int.reduceNeg, Int.reduceToNat, encQ]
  refine gcallq (.bool has) (fun _ => hH) ?_
  simp -implicitDefEqProofs only [push_cast, Nat.reduceAdd, Nat.reduceSub, Nat.reduceMul, Nat.reduceLT, Nat.reduceLeDiff, Nat.reduceEqDiff, Nat.reduceBEq, reduceCtorEq, reduceIte, Int.reduceLE, Int.reduceLT, Int.reduceNeg, Int.reduceToNat, encQ]
  generalize bshr .i64 t.set q.occ.length = bs at hv ⊢
  refine ⟨?_, fun h => ?_, fun h => ?_⟩
  · exact fun h1 h2 => by rw [h1, decide_eq_false h2]; rfl
  · rw [h] at hv
    subst hv
    simp -implicitDefEqProofs only [push_cast, Nat.reduceAdd, Nat.reduceSub, Nat.reduceMul, Nat.reduceLT, Nat.reduceLeDiff, Nat.reduceEqDiff, Nat.reduceBEq, reduceCtorEq, reduceIte, Int.reduceLE, Int.reduceLT, Int.reduceNeg, Int.reduceToNat, encQ, plO, Bool.not_true, Bool.false_eq_true, if_false]
  · rw [h] at hv
    subst hv
    simp -implicitDefEqProofs only [push_cast, Nat.reduceAdd, Nat.reduceSub, Nat.reduceMul, Nat.reduceLT, Nat.reduceLeDiff, Nat.reduceEqDiff, Nat.reduceBEq, reduceCtorEq, reduceIte, Int.reduceLE, Int.reduceLT, Int.reduceNeg, Int.reduceToNat, encQ, Bool.not_false, if_true]
    refine callq (hB rfl) ?_
    simp -implicitDefEqProofs only [push_cast, Nat.reduceAdd, Nat.reduceSub, Nat.reduceMul, Nat.reduceLT, Nat.reduceLeDiff, Nat.reduceEqDiff, Nat.reduceBEq, reduceCtorEq, reduceIte, Int.reduceLE, Int.reduceLT, Int.reduceNeg, Int.reduceToNat, encQ, encCh]
    refine areg_at 5 (by kernel_rfl) (by kernel_rfl) ?_
    simp -implicitDefEqProofs only [push_cast, Nat.reduceAdd, Nat.reduceSub, Nat.reduceMul, Nat.reduceLT, Nat.reduceLeDiff, Nat.reduceEqDiff, Nat.reduceBEq, reduceCtorEq, reduceIte, Int.reduceLE, Int.reduceLT, Int.reduceNeg, Int.reduceToNat, encQ]
end
section
attribute [local push_cast] encE_mk encE_take encE_len encV encE_one encEs_pure encE_pure
def catTwo : List Df := [⟨2, 100⟩, ⟨1, 10⟩]
def rowsTwo : AV := .sl [[.sl [[.sl [[.int 0, .int 1], [.int 0, .int 2]]], [.sl [[.int 0, .int 3], [.int 0, .int 4]]]]], [.sl [[.sl [[.int 0, .int 4]]]]]]
theorem Two_ok : Quiet Go.Proofs.Tryz.prog 39 [] (.tup [.agg [.sl (catTwo.map encD)], .agg [rowsTwo]]) := by
  refine quiet_of (rs := #[.cell 0 24, .cell 1 75]) Go.Proofs.Tryz.func39 rfl rfl rfl mixed rfl rfl fun H hs => ?_
  simp -implicitDefEqProofs only [push_cast, Nat.reduceAdd, Nat.reduceSub, Nat.reduceMul, Nat.reduceLT, Nat.reduceLeDiff, Nat.reduceEqDiff, Nat.reduceBEq, reduceCtorEq, reduceIte, Int.reduceLE, Int.reduceLT, Int.reduceNeg, Int.reduceToNat]
  (try simp -implicitDefEqProofs only [push_cast, Nat.reduceAdd, Nat.reduceSub, Nat.reduceMul, Nat.reduceLT, Nat.reduceLeDiff, Nat.reduceEqDiff, Nat.reduceBEq, reduceCtorEq, reduceIte, Int.reduceLE, Int.reduceLT, Int.reduceNeg, Int.reduceToNat, catTwo, rowsTwo, List.map_cons, List.map_nil, encD])
def fewQ (c : List Df) (q : Qy) : Bool := decide (c.length ≤ 10) && decide (q.occ.length ≤ 20) && decide (q.p.length ≤ 8) && decide (q.sums.length ≤ 20) && decide (q.out.length ≤ 20) && q.p.all fun e => decide (sz e 60 ≤ 60)
def Qy.Raw (q : Qy) (c : List Df) : Prop := c.length ≤ 140737488355328 ∧ q.occ.length ≤ 140737488355328 ∧ q.p.length ≤ 140737488355328 ∧ q.sums.length ≤ 140737488355328 ∧ q.out.length ≤ 140737488355328 ∧ ∀ e ∈ q.p, e.Ok
theorem few5_ok (c : List Df) (q : Qy) (hr : q.Raw c) : Quiet Go.Proofs.Tryz.prog 41 [.agg [.sl (c.map encD)], .agg (encQ q)] (.bool (fewQ c q)) := by
  obtain ⟨h1, h2, h3, h4, h5, hok⟩ := hr
  refine quiet_of (rs := #[.tmp 4]) Go.Proofs.Tryz.func41 rfl rfl rfl mixed rfl rfl fun H hs => ?_
  simp -implicitDefEqProofs only [push_cast, Nat.reduceAdd, Nat.reduceSub, Nat.reduceMul, Nat.reduceLT, Nat.reduceLeDiff, Nat.reduceEqDiff, Nat.reduceBEq, reduceCtorEq, reduceIte, Int.reduceLE, Int.reduceLT, Int.reduceNeg, Int.reduceToNat, encQ]
  obtain ⟨hd, hhd⟩ : ∃ hd : Bool, hd = (decide ((c.length : Int) ≤ 10) && decide ((q.occ.length : Int) ≤ 20) && decide ((q.p.length : Int) ≤ 8) && decide ((q.sums.length : Int) ≤ 20) && decide ((q.out.length : Int) ≤ 20)) := ⟨_, rfl⟩
  rw [← hhd]
  have hf : fewQ c q = (hd && q.p.all fun e => decide (sz e 60 ≤ 60)) := by
    have ic : ∀ m n : Nat, decide ((m : Int) ≤ (n : Int)) = decide (m ≤ n) := fun m n => by rw [decide_eq_decide]; omega
    have i1 := ic c.length 10
    have i2 := ic q.occ.length 20
    have i3 := ic q.p.length 8
    have i4 := ic q.sums.length 20
    have i5 := ic q.out.length 20
    simp only [Int.cast_ofNat_Int] at i1 i2 i3 i4 i5
    rw [hhd, i1, i2, i3, i4, i5]
    rfl
  rw [hf]
  clear hf hhd
  have htk : ∀ i, (h : i < q.p.length) → (q.p.take (i + 1)).all (fun e => decide (sz e 60 ≤ 60)) = ((q.p.take i).all (fun e => decide (sz e 60 ≤ 60)) && decide (sz q.p[i] 60 ≤ 60)) := fun i h => by
    rw [List.take_succ_eq_append_getElem h, List.all_append, List.all_cons, List.all_nil, Bool.and_true]
  refine loop_at hs (σ := Nat) (fun i => i ≤ q.p.length) (fun i => q.p.length - i)
    (fun i => [(6, .int i), (5, .bool (hd && (q.p.take i).all fun e => decide (sz e 60 ≤ 60))), (3, .ptr (H.nxt + 1) 6 0 0)]) (fun i => [none, some (.cells 6 [encQ q] 0)]) [some 0, some 1] 0 (by omega) rfl ?_ ?_ ?_
  · (try simp -implicitDefEqProofs only [push_cast, Nat.reduceAdd, Nat.reduceSub, Nat.reduceMul, Nat.reduceLT, Nat.reduceLeDiff, Nat.reduceEqDiff, Nat.reduceBEq, reduceCtorEq, reduceIte, Int.reduceLE, Int.reduceLT, Int.reduceNeg, Int.reduceToNat, List.take_zero, List.all_nil, encEs_pure, encIs_pure, encQ])
  · (try simp -implicitDefEqProofs only [push_cast, Nat.reduceAdd, Nat.reduceSub, Nat.reduceMul, Nat.reduceLT, Nat.reduceLeDiff, Nat.reduceEqDiff, Nat.reduceBEq, reduceCtorEq, reduceIte, Int.reduceLE, Int.reduceLT, Int.reduceNeg, Int.reduceToNat, encEs_pure, encIs_pure, encQ])
  intro i hi2
  by_cases hi : i < q.p.length
  · have hi' : ((i : Int) < (q.p.length : Int)) = True := by simp; omega
    have hi0 : (0 ≤ (i : Int)) = True := by simp
    cases hfi : (hd && (q.p.take i).all fun e => decide (sz e 60 ≤ 60))
    · simp -implicitDefEqProofs only [push_cast, Nat.reduceAdd, Nat.reduceSub, Nat.reduceMul, Nat.reduceLT, Nat.reduceLeDiff, Nat.reduceEqDiff, Nat.reduceBEq, reduceCtorEq, reduceIte, Int.reduceLE, Int.reduceLT, Int.reduceNeg, Int.reduceToNat, hi', encQ]
      rcases Bool.and_eq_false_iff.1 hfi with h | h
      · rw [h]; rfl
      · have : q.p.all (fun e => decide (sz e 60 ≤ 60)) = false := by
          rw [List.all_eq_false] at h ⊢
          obtain ⟨x, hx, h⟩ := h
          exact ⟨x, List.mem_of_mem_take hx, h⟩
        rw [this, Bool.and_false]
    · simp -implicitDefEqProofs only [push_cast, Nat.reduceAdd, Nat.reduceSub, Nat.reduceMul, Nat.reduceLT, Nat.reduceLeDiff, Nat.reduceEqDiff, Nat.reduceBEq, reduceCtorEq, reduceIte, Int.reduceLE, Int.reduceLT, Int.reduceNeg, Int.reduceToNat, hi', hi0, encEs_get q.p i hi, encQ]
      refine callq (few_ok _ (hok _ (List.getElem_mem hi)) 60 (by omega) (by omega)) ?_
      simp -implicitDefEqProofs only [push_cast, Nat.reduceAdd, Nat.reduceSub, Nat.reduceMul, Nat.reduceLT, Nat.reduceLeDiff, Nat.reduceEqDiff, Nat.reduceBEq, reduceCtorEq, reduceIte, Int.reduceLE, Int.reduceLT, Int.reduceNeg, Int.reduceToNat, encQ]
      rw [wrap64 (n := (i : Int) + 1) (by omega) (by omega)]
      have hnx : (hd && (q.p.take (i + 1)).all fun e => decide (sz e 60 ≤ 60)) = decide (sz q.p[i] 60 ≤ 60) := by
        rw [htk i hi, ← Bool.and_assoc, hfi, Bool.true_and]
      refine next_at [none, some 1] (i + 1) (by omega) (by omega) rfl ?_ ?_
      · (try simp -implicitDefEqProofs only [push_cast, Nat.reduceAdd, Nat.reduceSub, Nat.reduceMul, Nat.reduceLT, Nat.reduceLeDiff, Nat.reduceEqDiff, Nat.reduceBEq, reduceCtorEq, reduceIte, Int.reduceLE, Int.reduceLT, Int.reduceNeg, Int.reduceToNat, hnx, encEs_pure, encIs_pure, encQ])
      · (try simp -implicitDefEqProofs only [push_cast, Nat.reduceAdd, Nat.reduceSub, Nat.reduceMul, Nat.reduceLT, Nat.reduceLeDiff, Nat.reduceEqDiff, Nat.reduceBEq, reduceCtorEq, reduceIte, Int.reduceLE, Int.reduceLT, Int.reduceNeg, Int.reduceToNat, encEs_pure, encIs_pure, encQ])
  · have hi' : ((i : Int) < (q.p.length : Int)) = False := by simp; omega
    obtain rfl : i = q.p.length := by omega
    simp -implicitDefEqProofs only [push_cast, Nat.reduceAdd, Nat.reduceSub, Nat.reduceMul, Nat.reduceLT, Nat.reduceLeDiff, Nat.reduceEqDiff, Nat.reduceBEq, reduceCtorEq, reduceIte, Int.reduceLE, Int.reduceLT, Int.reduceNeg, Int.reduceToNat, hi', encQ, List.take_length]
theorem Far_ok (c : List Df) (q : Qy) (hr : q.Raw c) : Quiet Go.Proofs.Tryz.prog 11 [.agg [.sl (c.map encD)], .agg (encQ q)] (.int (if fewQ c q then 0 else 1)) := by
  have hf := few5_ok c q hr
  refine quiet_of (rs := #[.tmp 4]) Go.Proofs.Tryz.func11 rfl rfl rfl mixed rfl rfl fun H hs => ?_
  simp only [encQ] at hf
  simp -implicitDefEqProofs only [push_cast, Nat.reduceAdd, Nat.reduceSub, Nat.reduceMul, Nat.reduceLT, Nat.reduceLeDiff, Nat.reduceEqDiff, Nat.reduceBEq, reduceCtorEq, reduceIte, Int.reduceLE, Int.reduceLT, Int.reduceNeg, Int.reduceToNat, encQ]
  refine callq hf ?_
  simp -implicitDefEqProofs only [push_cast, Nat.reduceAdd, Nat.reduceSub, Nat.reduceMul, Nat.reduceLT, Nat.reduceLeDiff, Nat.reduceEqDiff, Nat.reduceBEq, reduceCtorEq, reduceIte, Int.reduceLE, Int.reduceLT, Int.reduceNeg, Int.reduceToNat, encQ]
  refine ⟨fun h => by rw [h]; rfl, fun h => by rw [h]; rfl⟩
theorem szL_ge : ∀ (l : List Ex) (m n : Int), 0 ≤ m → n ≤ szL l m n
  | [], _, n, _ => by rw [szL]; exact Int.le_refl _
  | x :: l, m, n, h0 => by
    rw [szL]
    split
    · have := sz_bound x (m - n) (by omega)
      have := szL_ge l m (n + sz x (m - n)) h0
      omega
    · exact Int.le_refl _
mutual
theorem sz_cnt : ∀ (e : Ex) (m : Int), 0 ≤ m → sz e m ≤ m → sz e m = cnt e
  | .mk _ _ _ _ l, m, h0, h => by
    have h1 := szL_ge l m 1 h0
    rw [sz] at h ⊢
    rw [cnt, szL_cnt l m 1 h0 (by omega) h]
    omega
theorem szL_cnt : ∀ (l : List Ex) (m n : Int), 0 ≤ m → n ≤ m → szL l m n ≤ m → szL l m n = n + cntL l
  | [], m, n, _, h0, h => by rw [szL, cntL]; omega
  | x :: l, m, n, h1, h0, h => by
    rw [szL, if_pos h0] at h ⊢
    have h2 := szL_ge l m (n + sz x (m - n)) h1
    have h3 := sz_cnt x (m - n) (by omega) (by omega)
    rw [szL_cnt l m _ h1 (by omega) h, cntL]
    omega
end
theorem fewQ_split {c : List Df} {q : Qy} (h : fewQ c q = true) : c.length ≤ 10 ∧ q.occ.length ≤ 20 ∧ q.p.length ≤ 8 ∧ q.sums.length ≤ 20 ∧ q.out.length ≤ 20 ∧ ∀ e ∈ q.p, cnt e ≤ 60 := by
  unfold fewQ at h
  simp only [Bool.and_eq_true, decide_eq_true_eq, List.all_eq_true] at h
  obtain ⟨⟨⟨⟨⟨h1, h2⟩, h3⟩, h4⟩, h5⟩, h6⟩ := h
  refine ⟨h1, h2, h3, h4, h5, fun e he => ?_⟩
  have := sz_cnt e 60 (by omega) (h6 e he)
  have := h6 e he
  omega
theorem ok_of_few {c : List Df} {q : Qy} (hr : q.Raw c) (h : fewQ c q = true) : q.Ok := by
  obtain ⟨h1, h2, h3, h4, h5, h6⟩ := fewQ_split h
  exact ⟨by omega, fun e he => ⟨hr.2.2.2.2.2 e he, Nat.le_trans (h6 e he) (by omega)⟩, by omega, by omega, by omega⟩
theorem cols_of {e : Ex} {l : List Int} (hm : e.may = true) (hl : l.Pairwise (· < ·)) (h : e.colsAll = l) : e.cols = l := by
  rw [Ex.cols, if_pos hm, h]
  exact pw_ext (uniq_pw l) hl fun x => uniq_mem l x
theorem exOk2 {op col k n : Int} {a b : Ex} (ha : a.Ok) (hb : b.Ok) : Ex.Ok (.mk op col k n [a, b]) := .mk (by simp) (by
  intro x hx
  simp only [List.mem_cons, List.not_mem_nil, or_false] at hx
  rcases hx with rfl | rfl
  · exact ha
  · exact hb)
theorem exOk0 {op col k n : Int} : Ex.Ok (.mk op col k n []) := .mk (by decide) (by simp)
end
section
theorem shp_V2 {n : Nat} {vs : List AV} (h : Shp Go.Proofs.Tryz.prog n 60 vs) : ∃ v : Vl, vs = encV v ∧ In64 v.n := by
  obtain ⟨m, parts, _, rfl, hl, hp⟩ := shp_struct Go.Proofs.Tryz.underlying60 h
  match parts, hl with
  | [p0, p1], _ =>
    obtain ⟨k, rfl, _⟩ := shp_int Go.Proofs.Tryz.underlying3 (hp 0 _ p0 rfl rfl).2
    obtain ⟨n, rfl, hn⟩ := shp_int Go.Proofs.Tryz.underlying3 (hp 1 _ p1 rfl rfl).2
    exact ⟨⟨k, n⟩, rfl, wf64 hn⟩
theorem shp_E2 : ∀ (n : Nat) {vs : List AV}, Shp Go.Proofs.Tryz.prog n 62 vs → ∃ e : Ex, vs = encE e ∧ (e.Ok ∧ e.In) := by
  intro n
  induction n using Nat.strongRecOn with
  | ind n ih =>
  intro vs h
  obtain ⟨m, parts, hn, rfl, hl, hp⟩ := shp_struct Go.Proofs.Tryz.underlying62 h
  match parts, hl with
  | [p0, p1, p2, p3], _ =>
    obtain ⟨op, rfl, _⟩ := shp_int Go.Proofs.Tryz.underlying3 (hp 0 _ p0 rfl rfl).2
    obtain ⟨col, rfl, _⟩ := shp_int Go.Proofs.Tryz.underlying3 (hp 1 _ p1 rfl rfl).2
    obtain ⟨⟨k, n'⟩, rfl, hv⟩ := shp_V2 (hp 2 _ p2 rfl rfl).2
    obtain ⟨m', es, hm, rfl, hle, hpe⟩ := shp_slice Go.Proofs.Tryz.underlying26 (hp 3 _ p3 rfl rfl).2
    rw [bytesE] at hle
    obtain ⟨l, rfl, hq⟩ := map_of (f := encE) (q := fun e => e.Ok ∧ e.In) fun x hx => ih m' (by omega) (hpe x hx).2
    refine ⟨.mk op col k n' l, by rw [encE_mk]; rfl, .mk ?_ fun x hx => (hq x hx).1, .mk hv fun x hx => (hq x hx).2⟩
    simp [reachBytes] at hle
    omega
end
section
theorem bytesD : Program.bytesOf Go.Proofs.Tryz.prog 58 = 16 := by kernel_rfl
theorem shp_D {n : Nat} {vs : List AV} (h : Shp Go.Proofs.Tryz.prog n 58 vs) : ∃ d : Df, vs = encD d ∧ (In64 d.cols ∧ In64 d.rows) := by
  obtain ⟨m, parts, _, rfl, hl, hp⟩ := shp_struct Go.Proofs.Tryz.underlying58 h
  match parts, hl with
  | [p0, p1], _ =>
    obtain ⟨k, rfl, hk⟩ := shp_int Go.Proofs.Tryz.underlying3 (hp 0 _ p0 rfl rfl).2
    obtain ⟨n, rfl, hn⟩ := shp_int Go.Proofs.Tryz.underlying3 (hp 1 _ p1 rfl rfl).2
    exact ⟨⟨k, n⟩, rfl, wf64 hk, wf64 hn⟩
theorem shp_Ds {n : Nat} {vs : List AV} (h : Shp Go.Proofs.Tryz.prog n 22 vs) : ∃ l : List Df, vs = [.sl (l.map encD)] ∧ l.length ≤ 140737488355328 ∧ ∀ d ∈ l, In64 d.cols ∧ In64 d.rows := by
  obtain ⟨m, es, _, rfl, hl, hp⟩ := shp_slice Go.Proofs.Tryz.underlying22 h
  rw [bytesD] at hl
  obtain ⟨l, rfl, hq⟩ := map_of (f := encD) (q := fun d => In64 d.cols ∧ In64 d.rows) fun x hx => shp_D (hp x hx).2
  exact ⟨l, rfl, by simp [reachBytes] at hl; omega, hq⟩
theorem shp_C {n : Nat} {vs : List AV} (h : Shp Go.Proofs.Tryz.prog n 24 vs) : ∃ l : List Df, vs = [.sl (l.map encD)] ∧ l.length ≤ 140737488355328 ∧ ∀ d ∈ l, In64 d.cols ∧ In64 d.rows := by
  obtain ⟨m, parts, _, rfl, hl, hp⟩ := shp_struct Go.Proofs.Tryz.underlying24 h
  match parts, hl with
  | [p0], _ =>
    obtain ⟨l, rfl, h1, h2⟩ := shp_Ds (hp 0 _ p0 rfl rfl).2
    exact ⟨l, rfl, h1, h2⟩
theorem shp_Is2 {n : Nat} {vs : List AV} (h : Shp Go.Proofs.Tryz.prog n 25 vs) : ∃ l : List Int, vs = [.sl (l.map encI)] ∧ l.length ≤ 140737488355328 ∧ ∀ x ∈ l, In64 x := by
  obtain ⟨m, es, _, rfl, hl, hp⟩ := shp_slice Go.Proofs.Tryz.underlying25 h
  rw [bytesI] at hl
  obtain ⟨l, rfl, hq⟩ := map_of (f := encI) (q := fun x => In64 x) fun x hx => let ⟨v, hv, hw⟩ := shp_int Go.Proofs.Tryz.underlying3 (hp x hx).2; ⟨v, hv, wf64 hw⟩
  exact ⟨l, rfl, by simp [reachBytes] at hl; omega, hq⟩
theorem shp_Es {n : Nat} {vs : List AV} (h : Shp Go.Proofs.Tryz.prog n 26 vs) : ∃ l : List Ex, vs = [.sl (l.map encE)] ∧ l.length ≤ 140737488355328 ∧ ∀ e ∈ l, e.Ok ∧ e.In := by
  obtain ⟨m, es, _, rfl, hl, hp⟩ := shp_slice Go.Proofs.Tryz.underlying26 h
  rw [bytesE] at hl
  obtain ⟨l, rfl, hq⟩ := map_of (f := encE) (q := fun e => e.Ok ∧ e.In) fun x hx => shp_E2 m (hp x hx).2
  exact ⟨l, rfl, by simp [reachBytes] at hl; omega, hq⟩
def Qy.In2 (q : Qy) : Prop := q.In ∧ (∀ x ∈ q.occ, In64 x) ∧ In64 q.ord
theorem shp_Q {n : Nat} {vs : List AV} (h : Shp Go.Proofs.Tryz.prog n 28 vs) (c : List Df) (hc : c.length ≤ 140737488355328) : ∃ q : Qy, vs = encQ q ∧ q.Raw c ∧ q.In2 := by
  obtain ⟨m, parts, _, rfl, hl, hp⟩ := shp_struct Go.Proofs.Tryz.underlying28 h
  match parts, hl with
  | [p0, p1, p2, p3, p4, p5], _ =>
    obtain ⟨occ, rfl, h0, i0⟩ := shp_Is2 (hp 0 _ p0 rfl rfl).2
    obtain ⟨p, rfl, h1, i1⟩ := shp_Es (hp 1 _ p1 rfl rfl).2
    obtain ⟨by_, rfl, i2⟩ := shp_int Go.Proofs.Tryz.underlying3 (hp 2 _ p2 rfl rfl).2
    obtain ⟨sums, rfl, h3, i3⟩ := shp_Is2 (hp 3 _ p3 rfl rfl).2
    obtain ⟨out, rfl, h4, i4⟩ := shp_Is2 (hp 4 _ p4 rfl rfl).2
    obtain ⟨ord, rfl, i5⟩ := shp_int Go.Proofs.Tryz.underlying3 (hp 5 _ p5 rfl rfl).2
    exact ⟨⟨occ, p, by_, sums, out, ord⟩, rfl, ⟨hc, h0, h1, h3, h4, fun e he => (i1 e he).1⟩, ⟨i4, i3, wf64 i2⟩, i0, wf64 i5⟩
theorem asV_C (vs : List AV) : asV Go.Proofs.Tryz.prog 24 vs = .agg vs := by simp only [asV, Go.Proofs.Tryz.underlying24]
theorem asV_Q (vs : List AV) : asV Go.Proofs.Tryz.prog 28 vs = .agg vs := by simp only [asV, Go.Proofs.Tryz.underlying28]
theorem told_CQ {ts : List TypeId} {us : List AV} (h : ToldAll Go.Proofs.Tryz.prog (24 :: 28 :: ts) us) :
    ∃ (c : List Df) (q : Qy) (us' : List AV), us = .agg [.sl (c.map encD)] :: .agg (encQ q) :: us' ∧ (c.length ≤ 140737488355328 ∧ ∀ d ∈ c, In64 d.cols ∧ In64 d.rows) ∧ q.Raw c ∧ q.In2 ∧ ToldAll Go.Proofs.Tryz.prog ts us' := by
  simp only [ToldAll] at h
  obtain ⟨n, vs, us1, rfl, h1, n2, vs2, us2, rfl, h2, h3⟩ := h
  obtain ⟨c, rfl, hc, hc2⟩ := shp_C h1
  obtain ⟨q, rfl, hq, hq2⟩ := shp_Q h2 c hc
  exact ⟨c, q, us2, by rw [asV_C, asV_Q], ⟨hc, hc2⟩, hq, hq2, h3⟩
theorem told_I {ts : List TypeId} {us : List AV} (h : ToldAll Go.Proofs.Tryz.prog (3 :: ts) us) : ∃ (n : Int) (us' : List AV), us = .int n :: us' ∧ In64 n ∧ ToldAll Go.Proofs.Tryz.prog ts us' := by
  simp only [ToldAll] at h
  obtain ⟨n, vs, us1, rfl, h1, h3⟩ := h
  obtain ⟨k, rfl, hk⟩ := shp_int Go.Proofs.Tryz.underlying3 h1
  exact ⟨k, us1, by rw [asV_I]; rfl, wf64 hk, h3⟩
theorem told_nil {us : List AV} (h : ToldAll Go.Proofs.Tryz.prog [] us) : us = [] := by simpa only [ToldAll] using h
end
section
attribute [local push_cast] encE_mk encE_take encE_len encV encE_one encEs_pure encE_pure
def pair9 : Ex := .mk 6 0 0 0 [.mk 1 0 0 0 [], .mk 1 4 0 0 []]
def oneQ9 : Qy := ⟨[0, 1], [pair9], -1, [], [0], -1⟩
theorem pair9_cols : pair9.cols = [0, 4] := cols_of (by decide) (by decide) (by decide)
theorem pair9_set : setE pair9 = 3 := by unfold setE hasOcc; rw [pair9_cols]; decide +kernel
theorem oneQ9_p : oneQ9.p = [pair9] := rfl
theorem oneQ9_may : oneQ9.may catTwo = true := by
  unfold Qy.may
  rw [oneQ9_p]
  simp only [List.all_cons, List.all_nil, exIn, pair9_cols]
  decide +kernel
theorem oneQ9_idx (f : Ex → Bool) : idxF f oneQ9.p = (if f pair9 then [0] else []) := by
  rw [oneQ9_p]
  cases h1 : f pair9 <;> simp [idxF, upto, List.range_succ, h1]
theorem oneQ9_own (s : Int) : oneQ9.own s = (if holdsI s 3 then [0] else []) := by
  rw [Qy.own, oneQ9_idx]
  simp only [ownT, pair9_set]
theorem oneQ9_rows (s : Int) : rowsQ catTwo oneQ9 s = max 1 (times (rowsL catTwo oneQ9 s) / prodI ((if holdsI s 3 then [0] else []).map fun i : Int => wE (oneQ9.p.getD i.toNat exO))) := by
  rw [rowsQ, if_pos oneQ9_may, Qy.fewer, oneQ9_own]
theorem oneQ9_1 : rowsQ catTwo oneQ9 1 = 100 := by rw [oneQ9_rows]; decide +kernel
theorem oneQ9_b : baseR catTwo oneQ9 1 = 10 := by
  rw [baseR, if_pos ⟨oneQ9_may, by decide, by decide⟩]
  decide +kernel
theorem pair9_ok : pair9.Ok := exOk2 exOk0 exOk0
theorem oneQ9_raw (c : List Df) (hc : c.length ≤ 140737488355328) : oneQ9.Raw c := by
  refine ⟨hc, by decide, by decide, by decide, by decide, ?_⟩
  rw [oneQ9_p]
  intro e he
  simp only [List.mem_cons, List.not_mem_nil, or_false] at he
  subst he
  exact pair9_ok
theorem oneQ9_few : fewQ catTwo oneQ9 = true := by decide
theorem oneQ9_ok : oneQ9.Ok := ok_of_few (oneQ9_raw catTwo (by decide)) oneQ9_few
end
section
attribute [local push_cast] encPl_mk encPl_take encPl_len encPl_one encPls_pure encPl_pure encT_pure encT_len encT_one encT_take
def q11 : Qy := ⟨[0, 1], [], -1, [], [0], -1⟩
def p11 : Pl := .mk 1 0 0 0 [.mk 0 0 0 0 [], .mk 0 1 0 0 []]
theorem bytesPl : Program.bytesOf Go.Proofs.Tryz.prog 32 = 56 := by kernel_rfl
theorem shp_I2 {n : Nat} {vs : List AV} (h : Shp Go.Proofs.Tryz.prog n 29 vs) : ∃ a b : Int, vs = [.int a, .int b] := by
  obtain ⟨m, parts, _, rfl, hl, hp⟩ := shp_array Go.Proofs.Tryz.underlying29 h
  match parts, hl with
  | [p0, p1], _ =>
    obtain ⟨a, rfl, _⟩ := shp_int Go.Proofs.Tryz.underlying3 (hp p0 (by simp)).2
    obtain ⟨b, rfl, _⟩ := shp_int Go.Proofs.Tryz.underlying3 (hp p1 (by simp)).2
    exact ⟨a, b, rfl⟩
theorem shp_Pl : ∀ (n : Nat) {vs : List AV}, Shp Go.Proofs.Tryz.prog n 32 vs → ∃ p : Pl, vs = encPl p ∧ p.Ok := by
  intro n
  induction n using Nat.strongRecOn with
  | ind n ih =>
  intro vs h
  obtain ⟨m, parts, hn, rfl, hl, hp⟩ := shp_struct Go.Proofs.Tryz.underlying32 h
  match parts, hl with
  | [p0, p1, p2, p3], _ =>
    obtain ⟨op, rfl, _⟩ := shp_int Go.Proofs.Tryz.underlying3 (hp 0 _ p0 rfl rfl).2
    obtain ⟨occ, rfl, _⟩ := shp_int Go.Proofs.Tryz.underlying3 (hp 1 _ p1 rfl rfl).2
    obtain ⟨a, b, rfl⟩ := shp_I2 (hp 2 _ p2 rfl rfl).2
    obtain ⟨m', es, hm, rfl, hle, hpe⟩ := shp_slice Go.Proofs.Tryz.underlying30 (hp 3 _ p3 rfl rfl).2
    rw [bytesPl] at hle
    obtain ⟨l, rfl, hq⟩ := map_of (f := encPl) (q := fun e => e.Ok) fun x hx => ih m' (by omega) (hpe x hx).2
    refine ⟨.mk op occ a b l, by rw [encPl_mk]; rfl, .mk ?_ fun x hx => hq x hx⟩
    simp [reachBytes] at hle
    omega
theorem shp_W {n : Nat} {vs : List AV} (h : Shp Go.Proofs.Tryz.prog n 34 vs) : ∃ (p : Pl) (e : Int) (s : Bool), vs = encW p e s ∧ p.Ok := by
  obtain ⟨m, parts, hn, rfl, hl, hp⟩ := shp_struct Go.Proofs.Tryz.underlying34 h
  match parts, hl with
  | [p0, p1, p2], _ =>
    obtain ⟨p, rfl, hok⟩ := shp_Pl _ (hp 0 _ p0 rfl rfl).2
    obtain ⟨e, rfl, _⟩ := shp_int Go.Proofs.Tryz.underlying3 (hp 1 _ p1 rfl rfl).2
    obtain ⟨s, rfl⟩ := shp_bool Go.Proofs.Tryz.underlying4 (hp 2 _ p2 rfl rfl).2
    exact ⟨p, e, s, by simp [encW], hok⟩
theorem asV_Pl (vs : List AV) : asV Go.Proofs.Tryz.prog 32 vs = .agg vs := by simp only [asV, Go.Proofs.Tryz.underlying32]
theorem asV_W (vs : List AV) : asV Go.Proofs.Tryz.prog 34 vs = .agg vs := by simp only [asV, Go.Proofs.Tryz.underlying34]
theorem told_Pl {ts : List TypeId} {us : List AV} (h : ToldAll Go.Proofs.Tryz.prog (32 :: ts) us) : ∃ (p : Pl) (us' : List AV), us = .agg (encPl p) :: us' ∧ p.Ok ∧ ToldAll Go.Proofs.Tryz.prog ts us' := by
  simp only [ToldAll] at h
  obtain ⟨n, vs, us1, rfl, h1, h3⟩ := h
  obtain ⟨p, rfl, hk⟩ := shp_Pl n h1
  exact ⟨p, us1, by rw [asV_Pl], hk, h3⟩
theorem told_W {ts : List TypeId} {us : List AV} (h : ToldAll Go.Proofs.Tryz.prog (34 :: ts) us) : ∃ (p : Pl) (e : Int) (s : Bool) (us' : List AV), us = .agg (encW p e s) :: us' ∧ p.Ok ∧ ToldAll Go.Proofs.Tryz.prog ts us' := by
  simp only [ToldAll] at h
  obtain ⟨n, vs, us1, rfl, h1, h3⟩ := h
  obtain ⟨p, e, s, rfl, hk⟩ := shp_W h1
  exact ⟨p, e, s, us1, by rw [asV_W], hk, h3⟩
end
section
attribute [local push_cast] encPl_mk encPl_take encPl_len encPl_one encPls_pure encPl_pure encT_pure encT_len encT_one encT_take
section size
attribute [local push_cast] encT_mk encTs_pure
end size
theorem Two13_ok : Quiet Go.Proofs.Tryz.prog 40 [] (.agg (encQ oneQ9)) := by
  refine quiet_of (rs := #[.cell 0 28]) Go.Proofs.Tryz.func40 rfl rfl rfl mixed rfl rfl fun H hs => ?_
  simp -implicitDefEqProofs only [push_cast, Nat.reduceAdd, Nat.reduceSub, Nat.reduceMul, Nat.reduceLT, Nat.reduceLeDiff, Nat.reduceEqDiff, Nat.reduceBEq, reduceCtorEq, reduceIte, Int.reduceLE, Int.reduceLT, Int.reduceNeg, Int.reduceToNat]
  (try simp -implicitDefEqProofs only [push_cast, Nat.reduceAdd, Nat.reduceSub, Nat.reduceMul, Nat.reduceLT, Nat.reduceLeDiff, Nat.reduceEqDiff, Nat.reduceBEq, reduceCtorEq, reduceIte, Int.reduceLE, Int.reduceLT, Int.reduceNeg, Int.reduceToNat, oneQ9, pair9, encQ, encI, encE_mk, List.map_cons, List.map_nil])
theorem leafV (c : List Df) (q : Qy) (d : Nat) (o : Int) : bestF c q (d + 1) (.leaf o) (-1) = (costP c q (.mk 0 o 0 0 []), .mk 0 o 0 0 []) := by rw [bestF, if_pos rfl]; rfl
theorem leafS (c : List Df) (q : Qy) (d : Nat) (o col : Int) (hcol : col ≠ -1) : bestF c q (d + 1) (.leaf o) col = sortC c q (.leaf o) col (bestF c q (d + 1) (.leaf o) (-1)) := by
  rw [bestF, bestF, if_neg hcol, if_pos rfl]
  have e : candC c q (bestF c q d) (.leaf o) col = [] := by show (if col = -1 then _ else _) = _; rw [if_neg hcol]
  rw [e]; rfl
theorem joinV (c : List Df) (q : Qy) (d : Nat) (a b : Tr) (col : Int) : bestF c q (d + 1) (.join a b) col = leastC ((waysP q a.set b.set col).flatMap (wayC c q (bestF c q d a) (bestF c q d b) a.set b.set col) ++ (if col = -1 then [] else [sortC c q (.join a b) col (bestF c q (d + 1) (.join a b) (-1))])) := by
  rw [bestF]
  by_cases h : col = -1
  · subst h
    rw [if_pos rfl, if_pos rfl, List.append_nil]; rfl
  · rw [if_neg h, if_neg h, bestF, if_pos rfl]; rfl
theorem set0 : (Tr.leaf 0).set = 1 := by decide +kernel
theorem set1 : (Tr.leaf 1).set = 2 := by decide +kernel
theorem oneQ9_2 : rowsQ catTwo oneQ9 2 = 10 := by rw [oneQ9_rows]; decide +kernel
theorem oneQ9_b0 : baseR catTwo oneQ9 0 = 100 := by
  rw [baseR, if_pos ⟨oneQ9_may, by decide, by decide⟩]
  decide +kernel
theorem leaf9_may {o : Int} (h : o = 0 ∨ o = 1) : mayP catTwo oneQ9 (.mk 0 o 0 0 []) = true := by
  rcases h with rfl | rfl
  · exact mayP_iff.2 ⟨oneQ9_may, rfl, by decide +kernel, by decide +kernel, rfl⟩
  · exact mayP_iff.2 ⟨oneQ9_may, rfl, by decide +kernel, by decide +kernel, rfl⟩
theorem leaf9_0 : costP catTwo oneQ9 (.mk 0 0 0 0 []) = 100 := by
  rw [costP_tree (leaf9_may (.inl rfl))]
  show scanK (baseR catTwo oneQ9 0) = 100
  rw [oneQ9_b0]; decide
theorem leaf9_1 : costP catTwo oneQ9 (.mk 0 1 0 0 []) = 10 := by
  rw [costP_tree (leaf9_may (.inr rfl))]
  show scanK (baseR catTwo oneQ9 1) = 10
  rw [oneQ9_b]; decide
theorem oneQ9_new (a b : Int) : oneQ9.new a b = (if holdsI (bor .i64 a b) 3 && !holdsI a 3 && !holdsI b 3 then [0] else []) := by
  rw [Qy.new, oneQ9_idx]
  simp only [newT, ownT, pair9_set]
theorem oneQ9_pairs : oneQ9.pairs 1 2 = [(0, 4)] := by
  rw [Qy.pairs, oneQ9_new]
  decide +kernel
theorem oneQ9_cols0 : (oneQ9.cols catTwo 1).contains 0 = true := by rw [Qy.cols, if_pos oneQ9_may]; decide +kernel
theorem ways9 : waysP oneQ9 1 2 (-1) = [nestW, .mk 2 0 0 4 [], .mk 3 0 0 4 []] := by unfold waysP; rw [oneQ9_pairs]; rfl
theorem b9_0 : bestF catTwo oneQ9 3 (.leaf 0) (-1) = (100, .mk 0 0 0 0 []) := by rw [leafV, leaf9_0]
theorem b9_1 : bestF catTwo oneQ9 3 (.leaf 1) (-1) = (10, .mk 0 1 0 0 []) := by rw [leafV, leaf9_1]
theorem b9_0s : bestF catTwo oneQ9 3 (.leaf 0) 0 = (800, .mk 4 0 0 0 [.mk 0 0 0 0 []]) := by
  rw [leafS _ _ _ _ _ (by decide), b9_0, sortC, set0, sortedC, oneQ9_1]
  exact congrArg (fun n : Int => (n, Pl.mk 4 0 0 0 [Pl.mk 0 0 0 0 []])) (by decide +kernel : addK [100, sortK 100] = 800)
theorem b9_1s : bestF catTwo oneQ9 3 (.leaf 1) 4 = (50, .mk 4 0 4 0 [.mk 0 1 0 0 []]) := by
  rw [leafS _ _ _ _ _ (by decide), b9_1, sortC, set1, sortedC, oneQ9_2]
  exact congrArg (fun n : Int => (n, Pl.mk 4 0 4 0 [Pl.mk 0 1 0 0 []])) (by decide +kernel : addK [10, sortK 10] = 50)
theorem w9_n (col : Int) : wayC catTwo oneQ9 (bestF catTwo oneQ9 3 (.leaf 0)) (bestF catTwo oneQ9 3 (.leaf 1)) 1 2 col nestW = if col ≠ -1 ∧ (oneQ9.cols catTwo 1).contains col = false then [] else [(addK [(bestF catTwo oneQ9 3 (.leaf 0) col).1, (bestF catTwo oneQ9 3 (.leaf 1) (-1)).1, nestK (rowsQ catTwo oneQ9 1) (rowsQ catTwo oneQ9 2)], .mk 1 0 0 0 [(bestF catTwo oneQ9 3 (.leaf 0) col).2, (bestF catTwo oneQ9 3 (.leaf 1) (-1)).2])] := rfl
theorem w9_h (col : Int) : wayC catTwo oneQ9 (bestF catTwo oneQ9 3 (.leaf 0)) (bestF catTwo oneQ9 3 (.leaf 1)) 1 2 col (.mk 2 0 0 4 []) = [(addK [(bestF catTwo oneQ9 3 (.leaf 0) (-1)).1, (bestF catTwo oneQ9 3 (.leaf 1) (-1)).1, hashK (rowsQ catTwo oneQ9 1) (rowsQ catTwo oneQ9 2)], .mk 2 0 0 4 [(bestF catTwo oneQ9 3 (.leaf 0) (-1)).2, (bestF catTwo oneQ9 3 (.leaf 1) (-1)).2])] := by
  unfold wayC
  rw [if_neg (fun h => h.1 rfl)]; rfl
theorem w9_m (col : Int) : wayC catTwo oneQ9 (bestF catTwo oneQ9 3 (.leaf 0)) (bestF catTwo oneQ9 3 (.leaf 1)) 1 2 col (.mk 3 0 0 4 []) = [(addK [(bestF catTwo oneQ9 3 (.leaf 0) 0).1, (bestF catTwo oneQ9 3 (.leaf 1) 4).1, mergeK (rowsQ catTwo oneQ9 1) (rowsQ catTwo oneQ9 2)], .mk 3 0 0 4 [(bestF catTwo oneQ9 3 (.leaf 0) 0).2, (bestF catTwo oneQ9 3 (.leaf 1) 4).2])] := by
  unfold wayC
  rw [if_neg (fun h => by have h2 : (oneQ9.cols catTwo 1).contains 0 = false := h.2; rw [oneQ9_cols0] at h2; cases h2)]; rfl
theorem b9_j : bestF catTwo oneQ9 4 (.join (.leaf 0) (.leaf 1)) (-1) = (230, .mk 2 0 0 4 [.mk 0 0 0 0 [], .mk 0 1 0 0 []]) := by
  rw [joinV, set0, set1, ways9, List.flatMap_cons, List.flatMap_cons, List.flatMap_cons, List.flatMap_nil, w9_n, w9_h, w9_m, if_neg (fun h => h.1 rfl), b9_0, b9_1, b9_0s, b9_1s, oneQ9_1, oneQ9_2, if_pos rfl]
  rfl
theorem few_ok' (p : Pl) : p.few = true → p.Ok := by
  induction p using Pl.ind with
  | h op occ a b l ih =>
  intro h
  have hl := form_len (few_own h)
  exact .mk (by simp only [Pl.l] at hl; omega) fun x hx => ih x hx (few_part h hx)
theorem valid_split {c : List Df} {q : Qy} {t : Tr} {col : Int} (h : validT c q t col = true) : q.may c = true ∧ t.may = true ∧ t.set < 2 ^ q.occ.length ∧ (col = -1 ∨ (q.cols c t.set).contains col = true) := by
  unfold validT at h
  simp only [Bool.and_eq_true, Bool.or_eq_true, decide_eq_true_eq] at h
  exact ⟨h.1.1.1, h.1.1.2, h.1.2, h.2⟩
theorem valid_good {c : List Df} {q : Qy} {t : Tr} {col : Int} (h : validT c q t col = true) : Good c q 4 t col (bestF c q 4 t col) := by
  obtain ⟨h1, h2, h3, h4⟩ := valid_split h
  exact best_good h1 4 t col (Nat.le_refl _) h2 h3 h4
end
end Go.Sim.Tryz
