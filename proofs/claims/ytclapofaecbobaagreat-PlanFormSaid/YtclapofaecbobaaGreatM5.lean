/- What the row rests on, part 5. Conditions: none. -/
import Derived.Test.YtclapofaecbobaaGreatM4
set_option linter.unusedSimpArgs false
set_option linter.unusedVariables false
set_option maxRecDepth 100000
namespace Go.Sim.Tryz
open Go Go.Sim
attribute [local push_cast] aops_cons aops_nil aopG_none aopG_some aopP_eq aopE_eq aopC_eq aopE?_eq aopC?_eq aopB_eq aopB?_eq abr anilq gopP_eq gopL_eq ahead_cons ahead_nil ahdG_none ahdG_some ahdP_eq ahdN_eq ahdC_eq ahdN?_eq ahdS_eq ahdS?_eq astoreN ahdC?_eq ghdP_eq ghdC_eq ghdC?_eq ghdZ_f ghdZ_t ahdI_eq ahdI?_eq ghdN?_eq aim_nil aim_cons isIn_nil isIn_none isIn_cons aimm aheP_eq aheA_eq aheC_eq aheC?_eq aheI?_eq aheA?_eq gheP_eq gheC_eq gheC?_eq gheZ_eq aheG_none aheG_some aheff_cons aheff_nil aapp gro_rsl gro_lit gro_esl opt_some opt_none no_eq acondT_true acondT_false acondT_lit aw_skip aw_region aw_regionD aw_seq aw_cond aw_block aw_loop aw_exit aw_label aw_ret thn_normal thn_exit thn_ret inb_normal inb_exit inb_ret qret_ret qret_normal gcond apure aeff anew acallee ares aresT aresL aresC ares1 qfin_eq ev ofV evL gokL tget tput_some tput_none initT abin aint aun aload afaddr aiaddr afield aindex aextract apick pickv_lit Bool.or_false Bool.false_or Bool.or_true Bool.true_or imp_self aslice chunk roomB abound aconv abuild afill splice alen aminmax abuiltin anil apart Value.oneCell' astore aappend srcEs abuildSlice amakeSlice amapPut alookup aput afind mget keyV sameV_int Option.isSome_some Option.isSome_none cond_true cond_false asets isEq plus_obj plus_nxt plus_add plus_set plus_del IntKind.bits Option.map_some Option.map_none Option.bind_some Option.bind_none Option.join_some Option.getD_some Option.getD_none Option.toList List.getElem?_toArray List.getElem?_cons_zero List.getElem?_cons_succ List.getElem?_nil List.length_cons List.length_nil List.length_map List.head?_cons List.cons_append List.nil_append List.append_nil List.map_cons List.map_nil List.getD_cons_zero List.getD_cons_succ List.replicate_succ List.replicate_zero List.set_cons_zero List.set_cons_succ List.take_succ_cons List.take_zero List.drop_succ_cons List.drop_zero List.all_cons List.all_nil Nat.zero_add if_true if_false true_and and_true false_and and_false true_implies implies_true forall_const Bool.and_true Bool.true_and Bool.false_and Bool.and_false Bool.true_beq Bool.false_beq Bool.not_not beq_tt beq_ff Int.toNat_natCast decide_true decide_false Bool.not_true Bool.not_false Bool.true_eq_false Bool.false_eq_true false_implies exists_prop eq_self bne_self_eq_false beq_self_eq_true decide_eq_true_eq decide_eq_false_iff_not Bool.not_eq_true' Bool.not_eq_false' AV.int AV.bool AV.nilS ne_eq not_false_eq_true not_true_eq_false exists_eq_left exists_eq_left' Nat.lt_irrefl core_lit grd_lit acells_lit one_lit core_agg grd_agg acells_agg one_agg core_tup grd_tup acells_tup one_tup core_sl grd_sl acells_sl one_sl core_esl grd_esl acells_esl one_esl core_rsl grd_rsl acells_rsl one_rsl core_ptr grd_ptr acells_ptr one_ptr core_iptr grd_iptr acells_iptr one_iptr core_clo grd_clo acells_clo one_clo core_mp grd_mp acells_mp one_mp core_any grd_any acells_any one_any core_gv grd_gv fit_agg fit_lit fit_sl fit_esl fit_rsl fit_ptr fit_iptr fit_clo fit_mp retq_ret retq_normal set_nxt set_set plus_obj_set plus_set_set app_get0 app_get app_set0 app_set List.append_assoc List.length_append List.length_set Nat.lt_add_one Nat.add_lt_add_iff_right Nat.lt_add_right_iff_pos Nat.add_lt_add_iff_left List.mem_cons List.not_mem_nil or_false forall_eq forall_eq_or_imp lt_s0 lt_s1 lt_s2 lt_s3 lt_s4 lt_s5 lt_s6 lt_s7 lt_s8 pickv_t pickv_f or_nand or_nand2 imp_and_l SealT SealOs sealO_cells sl_lit sl_any sl_agg sl_tup sl_sl sl_rsl slO sl_esl sl_nil sl_eslesl sl_eslnil sl_rslrsl sl_eslrsl sl_nilrsl sl_ptr sl_iptr sl_ptri slP sl_clo sl_mp sl_gv sll_nil sll_cons slll_nil slll_cons shut_eq shutO Option.join_none Fn.func.injEq and_self sealL_self sealLL_self seal_self PureL PureLL Pure Nat.le_refl Nat.zero_le AV.lit.injEq Value.int.injEq Value.bool.injEq false_or or_true true_or Int.natCast_zero Int.ofNat_zero Int.cast_ofNat_Int Int.natCast_add Int.natCast_one Option.some.injEq piL_is sop_nil sop_cons sop_none sop_some sopO_some sop_new shut_pi shutL_nil shutL_cons exQ_exit exQ_ret exQ_normal Go.Sim.Tryz.ty_load1 Go.Sim.Tryz.ty_zero1 Go.Sim.Tryz.ty_load2 Go.Sim.Tryz.ty_zero2 Go.Sim.Tryz.ty_und2 Go.Sim.Tryz.ty_load3 Go.Sim.Tryz.ty_zero3 Go.Sim.Tryz.ty_und3 Go.Sim.Tryz.ty_load4 Go.Sim.Tryz.ty_zero4 Go.Sim.Tryz.ty_und4 Go.Sim.Tryz.ty_load5 Go.Sim.Tryz.ty_zero5 Go.Sim.Tryz.ty_und5 Go.Sim.Tryz.ty_load9 Go.Sim.Tryz.ty_zero9 Go.Sim.Tryz.ty_und9 Go.Sim.Tryz.ty_load21 Go.Sim.Tryz.ty_zero21 Go.Sim.Tryz.ty_und21 Go.Sim.Tryz.ty_load22 Go.Sim.Tryz.ty_zero22 Go.Sim.Tryz.ty_el22 Go.Sim.Tryz.ty_zeroE22 Go.Sim.Tryz.ty_load24 Go.Sim.Tryz.ty_zero24 Go.Sim.Tryz.ty_fld24_0 Go.Sim.Tryz.ty_part24_0 Go.Sim.Tryz.ty_struct24 Go.Sim.Tryz.ty_load25 Go.Sim.Tryz.ty_zero25 Go.Sim.Tryz.ty_el25 Go.Sim.Tryz.ty_zeroE25 Go.Sim.Tryz.ty_load26 Go.Sim.Tryz.ty_zero26 Go.Sim.Tryz.ty_el26 Go.Sim.Tryz.ty_zeroE26 Go.Sim.Tryz.ty_load28 Go.Sim.Tryz.ty_zero28 Go.Sim.Tryz.ty_fld28_0 Go.Sim.Tryz.ty_part28_0 Go.Sim.Tryz.ty_fld28_1 Go.Sim.Tryz.ty_part28_1 Go.Sim.Tryz.ty_fld28_2 Go.Sim.Tryz.ty_part28_2 Go.Sim.Tryz.ty_fld28_3 Go.Sim.Tryz.ty_part28_3 Go.Sim.Tryz.ty_fld28_4 Go.Sim.Tryz.ty_part28_4 Go.Sim.Tryz.ty_fld28_5 Go.Sim.Tryz.ty_part28_5 Go.Sim.Tryz.ty_struct28 Go.Sim.Tryz.ty_load29 Go.Sim.Tryz.ty_zero29 Go.Sim.Tryz.ty_arr29 Go.Sim.Tryz.ty_part29_0 Go.Sim.Tryz.ty_part29_1 Go.Sim.Tryz.ty_struct29 Go.Sim.Tryz.ty_load30 Go.Sim.Tryz.ty_zero30 Go.Sim.Tryz.ty_el30 Go.Sim.Tryz.ty_zeroE30 Go.Sim.Tryz.ty_load32 Go.Sim.Tryz.ty_zero32 Go.Sim.Tryz.ty_fld32_0 Go.Sim.Tryz.ty_part32_0 Go.Sim.Tryz.ty_fld32_1 Go.Sim.Tryz.ty_part32_1 Go.Sim.Tryz.ty_fld32_2 Go.Sim.Tryz.ty_part32_2 Go.Sim.Tryz.ty_fld32_3 Go.Sim.Tryz.ty_part32_3 Go.Sim.Tryz.ty_struct32 Go.Sim.Tryz.ty_load37 Go.Sim.Tryz.ty_zero37 Go.Sim.Tryz.ty_el37 Go.Sim.Tryz.ty_zeroE37 Go.Sim.Tryz.ty_load39 Go.Sim.Tryz.ty_zero39 Go.Sim.Tryz.ty_fld39_0 Go.Sim.Tryz.ty_part39_0 Go.Sim.Tryz.ty_fld39_1 Go.Sim.Tryz.ty_part39_1 Go.Sim.Tryz.ty_struct39 Go.Sim.Tryz.ty_load52 Go.Sim.Tryz.ty_zero52 Go.Sim.Tryz.ty_fld52_0 Go.Sim.Tryz.ty_part52_0 Go.Sim.Tryz.ty_fld52_1 Go.Sim.Tryz.ty_part52_1 Go.Sim.Tryz.ty_fld52_2 Go.Sim.Tryz.ty_part52_2 Go.Sim.Tryz.ty_struct52 Go.Sim.Tryz.ty_load55 Go.Sim.Tryz.ty_zero55 Go.Sim.Tryz.ty_load56 Go.Sim.Tryz.ty_zero56 Go.Sim.Tryz.ty_load70 Go.Sim.Tryz.ty_zero70 Go.Sim.Tryz.ty_el70 Go.Sim.Tryz.ty_zeroE70 Go.Sim.Tryz.ty_load76 Go.Sim.Tryz.ty_zero76 Go.Sim.Tryz.ty_el76 Go.Sim.Tryz.ty_zeroE76 Go.Sim.Tryz.ty_load78 Go.Sim.Tryz.ty_zero78 Go.Sim.Tryz.ty_fld78_0 Go.Sim.Tryz.ty_part78_0 Go.Sim.Tryz.ty_struct78 Go.Sim.Tryz.ty_load84 Go.Sim.Tryz.ty_zero84 Go.Sim.Tryz.ty_fld84_0 Go.Sim.Tryz.ty_part84_0 Go.Sim.Tryz.ty_struct84 Go.Sim.Tryz.ty_load85 Go.Sim.Tryz.ty_zero85 Go.Sim.Tryz.ty_load92 Go.Sim.Tryz.ty_zero92 Go.Sim.Tryz.ty_load93 Go.Sim.Tryz.ty_zero93 Go.Sim.Tryz.ty_und93 Go.Sim.Tryz.ty_load95 Go.Sim.Tryz.ty_zero95 Go.Sim.Tryz.ty_und95 Go.Sim.Tryz.ty_load104 Go.Sim.Tryz.ty_zero104 Go.Sim.Tryz.ty_fld104_0 Go.Sim.Tryz.ty_part104_0 Go.Sim.Tryz.ty_fld104_1 Go.Sim.Tryz.ty_part104_1 Go.Sim.Tryz.ty_struct104 Go.Sim.Tryz.ty_load110 Go.Sim.Tryz.ty_zero110 Go.Sim.Tryz.ty_fld110_0 Go.Sim.Tryz.ty_part110_0 Go.Sim.Tryz.ty_fld110_1 Go.Sim.Tryz.ty_part110_1 Go.Sim.Tryz.ty_struct110 Go.Sim.Tryz.ty_load112 Go.Sim.Tryz.ty_zero112 Go.Sim.Tryz.ty_fld112_0 Go.Sim.Tryz.ty_part112_0 Go.Sim.Tryz.ty_fld112_1 Go.Sim.Tryz.ty_part112_1 Go.Sim.Tryz.ty_fld112_2 Go.Sim.Tryz.ty_part112_2 Go.Sim.Tryz.ty_fld112_3 Go.Sim.Tryz.ty_part112_3 Go.Sim.Tryz.ty_struct112 Go.Sim.Tryz.ty_load119 Go.Sim.Tryz.ty_zero119 Go.Sim.Tryz.ty_load123 Go.Sim.Tryz.ty_zero123 Go.Sim.Tryz.ty_fld123_0 Go.Sim.Tryz.ty_part123_0 Go.Sim.Tryz.ty_fld123_1 Go.Sim.Tryz.ty_part123_1 Go.Sim.Tryz.ty_struct123 Go.Sim.Tryz.ty_load124 Go.Sim.Tryz.ty_zero124 Go.Sim.Tryz.ty_el124 Go.Sim.Tryz.ty_zeroE124 Go.Sim.Tryz.ty_load125 Go.Sim.Tryz.ty_zero125 Go.Sim.Tryz.ty_el125 Go.Sim.Tryz.ty_zeroE125 Go.Sim.Tryz.ty_load128 Go.Sim.Tryz.ty_zero128 Go.Sim.Tryz.ty_fld128_0 Go.Sim.Tryz.ty_part128_0 Go.Sim.Tryz.ty_struct128 Go.Sim.Tryz.ty_load135 Go.Sim.Tryz.ty_zero135 Go.Sim.Tryz.ty_und135 Go.Sim.Tryz.ty_load140 Go.Sim.Tryz.ty_zero140 Go.Sim.Tryz.ty_load141 Go.Sim.Tryz.ty_zero141 Go.Sim.Tryz.ty_el141 Go.Sim.Tryz.ty_zeroE141 Go.Sim.Tryz.ty_load148 Go.Sim.Tryz.ty_zero148 Go.Sim.Tryz.ty_load151 Go.Sim.Tryz.ty_zero151 Go.Sim.Tryz.ty_load159 Go.Sim.Tryz.ty_zero159 Go.Sim.Tryz.ty_und159 Go.Sim.Tryz.ty_vzero128 Go.Sim.Tryz.ty_load168 Go.Sim.Tryz.ty_zero168 Go.Sim.Tryz.ty_fld168_0 Go.Sim.Tryz.ty_part168_0 Go.Sim.Tryz.ty_fld168_1 Go.Sim.Tryz.ty_part168_1 Go.Sim.Tryz.ty_fld168_2 Go.Sim.Tryz.ty_part168_2 Go.Sim.Tryz.ty_struct168 Go.Sim.Tryz.ty_load170 Go.Sim.Tryz.ty_zero170 Go.Sim.Tryz.ty_load172 Go.Sim.Tryz.ty_zero172 Go.Sim.Tryz.ty_und172 Go.Sim.Tryz.ty_load179 Go.Sim.Tryz.ty_zero179 Go.Sim.Tryz.ty_und179 Go.Sim.Tryz.ty_load181 Go.Sim.Tryz.ty_zero181 Go.Sim.Tryz.ty_load184 Go.Sim.Tryz.ty_zero184 Go.Sim.Tryz.ty_und184 Go.Sim.Tryz.ty_load188 Go.Sim.Tryz.ty_zero188 Go.Sim.Tryz.ty_load191 Go.Sim.Tryz.ty_zero191
section
attribute [local push_cast] encPl_mk encPl_take encPl_len encPl_one encPls_pure encPl_pure encT_pure encT_len encT_one encT_take
theorem indexP_ok (l : List (Int × Int)) (hl : l.length ≤ 140737488355328) (a b : Int) : Quiet Go.Proofs.Tryz.prog 166 [.sl (l.map encP), .agg [.int a, .int b]] (.int (idx (fun p => decide (a = p.1) && decide (b = p.2)) l)) := by
  refine quiet_of (rs := #[.tmp 4]) Go.Proofs.Tryz.func166 rfl rfl rfl mixed rfl rfl fun H hs => ?_
  simp -implicitDefEqProofs only [push_cast, Nat.reduceAdd, Nat.reduceSub, Nat.reduceMul, Nat.reduceLT, Nat.reduceLeDiff, Nat.reduceEqDiff, Nat.reduceBEq, reduceCtorEq, reduceIte, Int.reduceLE, Int.reduceLT, Int.reduceNeg, Int.reduceToNat]
  refine loop_at hs (σ := Nat) (fun i => i ≤ l.length ∧ ∀ (j : Nat) (h : j < l.length), j < i → (decide (a = l[j].1) && decide (b = l[j].2)) = false) (fun i => l.length - i)
    (fun i => [(0, .sl (l.map encP)), (3, .ptr (H.nxt + 0) 2 0 0), (7, .int l.length), (8, .int i)]) (fun i => [some (.cells 2 [[.int a, .int b]] 0)]) [some 0] 0 ⟨by omega, fun j _ h => by omega⟩ rfl ?_ ?_ ?_
  · (try simp -implicitDefEqProofs only [push_cast, Nat.reduceAdd, Nat.reduceSub, Nat.reduceMul, Nat.reduceLT, Nat.reduceLeDiff, Nat.reduceEqDiff, Nat.reduceBEq, reduceCtorEq, reduceIte, Int.reduceLE, Int.reduceLT, Int.reduceNeg, Int.reduceToNat, rowP_pure])
  · (try simp -implicitDefEqProofs only [push_cast, Nat.reduceAdd, Nat.reduceSub, Nat.reduceMul, Nat.reduceLT, Nat.reduceLeDiff, Nat.reduceEqDiff, Nat.reduceBEq, reduceCtorEq, reduceIte, Int.reduceLE, Int.reduceLT, Int.reduceNeg, Int.reduceToNat])
  rintro i ⟨h2, h3⟩
  by_cases hi : i < l.length
  · have hi' : ((i : Int) < (l.length : Int)) = True := by simp; omega
    have hi0 : (0 ≤ (i : Int)) = True := by simp
    have hps := encPs_get l i hi
    rw [encP] at hps
    simp -implicitDefEqProofs only [push_cast, Nat.reduceAdd, Nat.reduceSub, Nat.reduceMul, Nat.reduceLT, Nat.reduceLeDiff, Nat.reduceEqDiff, Nat.reduceBEq, reduceCtorEq, reduceIte, Int.reduceLE, Int.reduceLT, Int.reduceNeg, Int.reduceToNat, hi', hi0]
    refine areg_at 6 (by kernel_rfl) (by kernel_rfl) ?_
    simp -implicitDefEqProofs only [push_cast, Nat.reduceAdd, Nat.reduceSub, Nat.reduceMul, Nat.reduceLT, Nat.reduceLeDiff, Nat.reduceEqDiff, Nat.reduceBEq, reduceCtorEq, reduceIte, Int.reduceLE, Int.reduceLT, Int.reduceNeg, Int.reduceToNat, hi', hi0, hps, lits, cellsEq, cellEq, cmpPl]
    refine ⟨fun h => ?_, fun h => ?_⟩
    · exact (idx_hit (p := fun p : Int × Int => decide (a = p.1) && decide (b = p.2)) hi h3 h).symm
    · rw [wrap64 (n := (i : Int) + 1) (by omega) (by omega)]
      refine next_at [some 0] (i + 1) ⟨by omega, fun j hj hji => ?_⟩ (by omega) rfl ?_ ?_
      · rcases Nat.lt_or_ge j i with h4 | h4
        · exact h3 j hj h4
        · obtain rfl : j = i := by omega
          exact h
      · (try simp -implicitDefEqProofs only [push_cast, Nat.reduceAdd, Nat.reduceSub, Nat.reduceMul, Nat.reduceLT, Nat.reduceLeDiff, Nat.reduceEqDiff, Nat.reduceBEq, reduceCtorEq, reduceIte, Int.reduceLE, Int.reduceLT, Int.reduceNeg, Int.reduceToNat, rowP_pure])
      · (try simp -implicitDefEqProofs only [push_cast, Nat.reduceAdd, Nat.reduceSub, Nat.reduceMul, Nat.reduceLT, Nat.reduceLeDiff, Nat.reduceEqDiff, Nat.reduceBEq, reduceCtorEq, reduceIte, Int.reduceLE, Int.reduceLT, Int.reduceNeg, Int.reduceToNat])
  · have hi' : ((i : Int) < (l.length : Int)) = False := by simp; omega
    simp -implicitDefEqProofs only [push_cast, Nat.reduceAdd, Nat.reduceSub, Nat.reduceMul, Nat.reduceLT, Nat.reduceLeDiff, Nat.reduceEqDiff, Nat.reduceBEq, reduceCtorEq, reduceIte, Int.reduceLE, Int.reduceLT, Int.reduceNeg, Int.reduceToNat, hi']
    exact (idx_miss (p := fun p : Int × Int => decide (a = p.1) && decide (b = p.2)) fun j hj => h3 j hj (by omega)).symm
theorem any_pair (l : List (Int × Int)) (a b : Int) : l.any (fun p => decide (a = p.1) && decide (b = p.2)) = l.contains (a, b) := by
  induction l with
  | nil => rfl
  | cons p l ih =>
    rw [List.any_cons, List.contains_cons, ih]
    congr 1
theorem containsP_ok (l : List (Int × Int)) (hl : l.length ≤ 1000000) (a b : Int) : Quiet Go.Proofs.Tryz.prog 122 [.sl (l.map encP), .agg [.int a, .int b]] (.bool (l.contains (a, b))) := by
  rw [← any_pair]
  refine quiet_of (rs := #[.tmp 4]) Go.Proofs.Tryz.func122 rfl rfl rfl mixed rfl rfl fun H hs => ?_
  simp -implicitDefEqProofs only [push_cast, Nat.reduceAdd, Nat.reduceSub, Nat.reduceMul, Nat.reduceLT, Nat.reduceLeDiff, Nat.reduceEqDiff, Nat.reduceBEq, reduceCtorEq, reduceIte, Int.reduceLE, Int.reduceLT, Int.reduceNeg, Int.reduceToNat]
  refine callq (indexP_ok l (by omega) a b) ?_
  simp -implicitDefEqProofs only [push_cast, Nat.reduceAdd, Nat.reduceSub, Nat.reduceMul, Nat.reduceLT, Nat.reduceLeDiff, Nat.reduceEqDiff, Nat.reduceBEq, reduceCtorEq, reduceIte, Int.reduceLE, Int.reduceLT, Int.reduceNeg, Int.reduceToNat, idx_nonneg]
def Pl.good (p : Pl) : Prop := p.Ok ∧ p.few = true ∧ (treeP p).may = true
theorem good_part {op occ a b : Int} {l : List Pl} (h : Pl.good (.mk op occ a b l)) : ∀ x ∈ l, Pl.good x := by
  obtain ⟨⟨hl, hlo⟩, hf, hm⟩ := h
  exact fun x hx => ⟨hlo x hx, few_part hf hx, part_may (few_own hf) hm x hx⟩
set_option maxHeartbeats 4000000 in
theorem fits_ok (c : List Df) (hcl : c.length ≤ 1000000) (q : Qy) (hq : q.Ok) (p : Pl) (hp : Pl.good p) : Quiet Go.Proofs.Tryz.prog 64 [.agg (encPl p), .agg [.sl (c.map encD)], .agg (encQ q)] (.bool (fitP c q p)) := by
  obtain ⟨op, occ, a, b, l⟩ := p
  have hsub := good_part hp
  have hSp := partSet_ok _ (few_forms hp.2.1)
  rcases form_split (few_own hp.2.1) with ⟨rfl, rfl⟩ | ⟨rfl, x, rfl⟩ | ⟨hop, x, y, rfl⟩
  · refine quiet_of (rs := #[.tmp 6]) Go.Proofs.Tryz.func64 rfl rfl rfl mixed rfl rfl fun H hs => ?_
    simp -implicitDefEqProofs only [push_cast, Nat.reduceAdd, Nat.reduceSub, Nat.reduceMul, Nat.reduceLT, Nat.reduceLeDiff, Nat.reduceEqDiff, Nat.reduceBEq, reduceCtorEq, reduceIte, Int.reduceLE, Int.reduceLT, Int.reduceNeg, Int.reduceToNat, encQ, Int.reduceEq, if_false, if_true, or_true, or_false, true_or, false_or, List.map_cons, List.map_nil, List.length_cons, List.length_nil, Int.reduceAdd]
    try rfl
  · have hv : fitP c q (.mk 4 occ a b [x]) = (q.cols c (treeP (.mk 4 occ a b [x])).set).contains a := by rw [treeP]; rfl
    have hcl2 : (q.cols c (treeP (.mk 4 occ a b [x])).set).length ≤ 1000000 := by
      unfold Qy.cols
      split
      · have := colsIn_le c q (bitI (treeP (.mk 4 occ a b [x])).set); omega
      · simp
    rw [hv]
    refine quiet_of (rs := #[.tmp 6]) Go.Proofs.Tryz.func64 rfl rfl rfl mixed rfl rfl fun H hs => ?_
    rw [encPl_mk] at hSp
    simp -implicitDefEqProofs only [push_cast, Nat.reduceAdd, Nat.reduceSub, Nat.reduceMul, Nat.reduceLT, Nat.reduceLeDiff, Nat.reduceEqDiff, Nat.reduceBEq, reduceCtorEq, reduceIte, Int.reduceLE, Int.reduceLT, Int.reduceNeg, Int.reduceToNat, encQ, Int.reduceEq, if_false, if_true, or_true, or_false, true_or, false_or, List.map_cons, List.map_nil, List.length_cons, List.length_nil, Int.reduceAdd]
    refine areg_at 11 (by kernel_rfl) (by kernel_rfl) ?_
    simp -implicitDefEqProofs only [push_cast, Nat.reduceAdd, Nat.reduceSub, Nat.reduceMul, Nat.reduceLT, Nat.reduceLeDiff, Nat.reduceEqDiff, Nat.reduceBEq, reduceCtorEq, reduceIte, Int.reduceLE, Int.reduceLT, Int.reduceNeg, Int.reduceToNat, encQ, Int.reduceEq, if_false, if_true, or_true, or_false, true_or, false_or, List.map_cons, List.map_nil, List.length_cons, List.length_nil, Int.reduceAdd]
    refine ahdq hSp ?_
    simp -implicitDefEqProofs only [push_cast, Nat.reduceAdd, Nat.reduceSub, Nat.reduceMul, Nat.reduceLT, Nat.reduceLeDiff, Nat.reduceEqDiff, Nat.reduceBEq, reduceCtorEq, reduceIte, Int.reduceLE, Int.reduceLT, Int.reduceNeg, Int.reduceToNat, encQ, Int.reduceEq, if_false, if_true, or_true, or_false, true_or, false_or, List.map_cons, List.map_nil, List.length_cons, List.length_nil, Int.reduceAdd]
    refine ahdq (ColsQ_ok c hcl q hq _) ?_
    simp -implicitDefEqProofs only [push_cast, Nat.reduceAdd, Nat.reduceSub, Nat.reduceMul, Nat.reduceLT, Nat.reduceLeDiff, Nat.reduceEqDiff, Nat.reduceBEq, reduceCtorEq, reduceIte, Int.reduceLE, Int.reduceLT, Int.reduceNeg, Int.reduceToNat, encQ, Int.reduceEq, if_false, if_true, or_true, or_false, true_or, false_or, List.map_cons, List.map_nil, List.length_cons, List.length_nil, Int.reduceAdd]
    refine ahdq (containsI_ok _ hcl2 a) ?_
    simp -implicitDefEqProofs only [push_cast, Nat.reduceAdd, Nat.reduceSub, Nat.reduceMul, Nat.reduceLT, Nat.reduceLeDiff, Nat.reduceEqDiff, Nat.reduceBEq, reduceCtorEq, reduceIte, Int.reduceLE, Int.reduceLT, Int.reduceNeg, Int.reduceToNat, encQ, Int.reduceEq, if_false, if_true, or_true, or_false, true_or, false_or, List.map_cons, List.map_nil, List.length_cons, List.length_nil, Int.reduceAdd]
  · have hx := hsub x (by simp)
    have hy := hsub y (by simp)
    have hSx := partSet_ok x (few_forms hx.2.1)
    have hSy := partSet_ok y (few_forms hy.2.1)
    have hOx := Order_ok x hx.1
    have hOy := Order_ok y hy.1
    have hg0 : ∀ z : List AV, ([x, y].map encPl).getD 0 z = encPl x := fun _ => rfl
    have hg1 : ∀ z : List AV, ([x, y].map encPl).getD 1 z = encPl y := fun _ => rfl
    have hv : fitP c q (.mk op occ a b [x, y]) = (if op = 1 then true else (q.pairs (treeP x).set (treeP y).set).contains (a, b) && (decide (op = 2) || (decide (x.order = a) && decide (y.order = b)))) := rfl
    rw [hv]
    have hple := pairs_le q hq (treeP x).set (treeP y).set
    have hP := Pairs_ok q hq (treeP x).set (treeP y).set
    generalize q.pairs (treeP x).set (treeP y).set = ps at hple hP ⊢
    refine quiet_of (rs := #[.tmp 6]) Go.Proofs.Tryz.func64 rfl rfl rfl mixed rfl rfl fun H hs => ?_
    rcases hop with rfl | rfl | rfl
    · simp -implicitDefEqProofs only [push_cast, Nat.reduceAdd, Nat.reduceSub, Nat.reduceMul, Nat.reduceLT, Nat.reduceLeDiff, Nat.reduceEqDiff, Nat.reduceBEq, reduceCtorEq, reduceIte, Int.reduceLE, Int.reduceLT, Int.reduceNeg, Int.reduceToNat, encQ, Int.reduceEq, if_false, if_true, or_true, or_false, true_or, false_or, List.map_cons, List.map_nil, List.length_cons, List.length_nil, Int.reduceAdd]
    · simp -implicitDefEqProofs only [push_cast, Nat.reduceAdd, Nat.reduceSub, Nat.reduceMul, Nat.reduceLT, Nat.reduceLeDiff, Nat.reduceEqDiff, Nat.reduceBEq, reduceCtorEq, reduceIte, Int.reduceLE, Int.reduceLT, Int.reduceNeg, Int.reduceToNat, encQ, Int.reduceEq, if_false, if_true, or_true, or_false, true_or, false_or, List.map_cons, List.map_nil, List.length_cons, List.length_nil, Int.reduceAdd]
      refine areg_at 16 (by kernel_rfl) (by kernel_rfl) ?_
      simp -implicitDefEqProofs only [push_cast, Nat.reduceAdd, Nat.reduceSub, Nat.reduceMul, Nat.reduceLT, Nat.reduceLeDiff, Nat.reduceEqDiff, Nat.reduceBEq, reduceCtorEq, reduceIte, Int.reduceLE, Int.reduceLT, Int.reduceNeg, Int.reduceToNat, encQ, Int.reduceEq, if_false, if_true, or_true, or_false, true_or, false_or, List.map_cons, List.map_nil, List.length_cons, List.length_nil, Int.reduceAdd]
      refine areg_at 11 (by kernel_rfl) (by kernel_rfl) ?_
      simp -implicitDefEqProofs only [push_cast, Nat.reduceAdd, Nat.reduceSub, Nat.reduceMul, Nat.reduceLT, Nat.reduceLeDiff, Nat.reduceEqDiff, Nat.reduceBEq, reduceCtorEq, reduceIte, Int.reduceLE, Int.reduceLT, Int.reduceNeg, Int.reduceToNat, encQ, Int.reduceEq, if_false, if_true, or_true, or_false, true_or, false_or, List.map_cons, List.map_nil, List.length_cons, List.length_nil, Int.reduceAdd]
      refine ahdq hSx ?_
      simp -implicitDefEqProofs only [push_cast, Nat.reduceAdd, Nat.reduceSub, Nat.reduceMul, Nat.reduceLT, Nat.reduceLeDiff, Nat.reduceEqDiff, Nat.reduceBEq, reduceCtorEq, reduceIte, Int.reduceLE, Int.reduceLT, Int.reduceNeg, Int.reduceToNat, encQ, Int.reduceEq, if_false, if_true, or_true, or_false, true_or, false_or, List.map_cons, List.map_nil, List.length_cons, List.length_nil, Int.reduceAdd]
      refine ahdq hSy ?_
      simp -implicitDefEqProofs only [push_cast, Nat.reduceAdd, Nat.reduceSub, Nat.reduceMul, Nat.reduceLT, Nat.reduceLeDiff, Nat.reduceEqDiff, Nat.reduceBEq, reduceCtorEq, reduceIte, Int.reduceLE, Int.reduceLT, Int.reduceNeg, Int.reduceToNat, encQ, Int.reduceEq, if_false, if_true, or_true, or_false, true_or, false_or, List.map_cons, List.map_nil, List.length_cons, List.length_nil, Int.reduceAdd]
      refine ahdq hP ?_
      simp -implicitDefEqProofs only [push_cast, Nat.reduceAdd, Nat.reduceSub, Nat.reduceMul, Nat.reduceLT, Nat.reduceLeDiff, Nat.reduceEqDiff, Nat.reduceBEq, reduceCtorEq, reduceIte, Int.reduceLE, Int.reduceLT, Int.reduceNeg, Int.reduceToNat, encQ, Int.reduceEq, if_false, if_true, or_true, or_false, true_or, false_or, List.map_cons, List.map_nil, List.length_cons, List.length_nil, Int.reduceAdd]
      refine ahdq (containsP_ok ps hple a b) ?_
      simp -implicitDefEqProofs only [push_cast, Nat.reduceAdd, Nat.reduceSub, Nat.reduceMul, Nat.reduceLT, Nat.reduceLeDiff, Nat.reduceEqDiff, Nat.reduceBEq, reduceCtorEq, reduceIte, Int.reduceLE, Int.reduceLT, Int.reduceNeg, Int.reduceToNat, encQ, Int.reduceEq, if_false, if_true, or_true, or_false, true_or, false_or, List.map_cons, List.map_nil, List.length_cons, List.length_nil, Int.reduceAdd]
      refine areg_at 28 (by kernel_rfl) (by kernel_rfl) ?_
      simp -implicitDefEqProofs only [push_cast, Nat.reduceAdd, Nat.reduceSub, Nat.reduceMul, Nat.reduceLT, Nat.reduceLeDiff, Nat.reduceEqDiff, Nat.reduceBEq, reduceCtorEq, reduceIte, Int.reduceLE, Int.reduceLT, Int.reduceNeg, Int.reduceToNat, encQ, Int.reduceEq, if_false, if_true, or_true, or_false, true_or, false_or, List.map_cons, List.map_nil, List.length_cons, List.length_nil, Int.reduceAdd]
      refine gcallq (.int x.order) (fun _ => hOx) ?_
      simp -implicitDefEqProofs only [push_cast, Nat.reduceAdd, Nat.reduceSub, Nat.reduceMul, Nat.reduceLT, Nat.reduceLeDiff, Nat.reduceEqDiff, Nat.reduceBEq, reduceCtorEq, reduceIte, Int.reduceLE, Int.reduceLT, Int.reduceNeg, Int.reduceToNat, encQ, Int.reduceEq, if_false, if_true, or_true, or_false, true_or, false_or, List.map_cons, List.map_nil, List.length_cons, List.length_nil, Int.reduceAdd]
      refine gcallq (.int y.order) (fun _ => hOy) ?_
      simp -implicitDefEqProofs only [push_cast, Nat.reduceAdd, Nat.reduceSub, Nat.reduceMul, Nat.reduceLT, Nat.reduceLeDiff, Nat.reduceEqDiff, Nat.reduceBEq, reduceCtorEq, reduceIte, Int.reduceLE, Int.reduceLT, Int.reduceNeg, Int.reduceToNat, encQ, Int.reduceEq, if_false, if_true, or_true, or_false, true_or, false_or, List.map_cons, List.map_nil, List.length_cons, List.length_nil, Int.reduceAdd]
    · simp -implicitDefEqProofs only [push_cast, Nat.reduceAdd, Nat.reduceSub, Nat.reduceMul, Nat.reduceLT, Nat.reduceLeDiff, Nat.reduceEqDiff, Nat.reduceBEq, reduceCtorEq, reduceIte, Int.reduceLE, Int.reduceLT, Int.reduceNeg, Int.reduceToNat, encQ, Int.reduceEq, if_false, if_true, or_true, or_false, true_or, false_or, List.map_cons, List.map_nil, List.length_cons, List.length_nil, Int.reduceAdd]
      refine areg_at 16 (by kernel_rfl) (by kernel_rfl) ?_
      simp -implicitDefEqProofs only [push_cast, Nat.reduceAdd, Nat.reduceSub, Nat.reduceMul, Nat.reduceLT, Nat.reduceLeDiff, Nat.reduceEqDiff, Nat.reduceBEq, reduceCtorEq, reduceIte, Int.reduceLE, Int.reduceLT, Int.reduceNeg, Int.reduceToNat, encQ, Int.reduceEq, if_false, if_true, or_true, or_false, true_or, false_or, List.map_cons, List.map_nil, List.length_cons, List.length_nil, Int.reduceAdd]
      refine areg_at 11 (by kernel_rfl) (by kernel_rfl) ?_
      simp -implicitDefEqProofs only [push_cast, Nat.reduceAdd, Nat.reduceSub, Nat.reduceMul, Nat.reduceLT, Nat.reduceLeDiff, Nat.reduceEqDiff, Nat.reduceBEq, reduceCtorEq, reduceIte, Int.reduceLE, Int.reduceLT, Int.reduceNeg, Int.reduceToNat, encQ, Int.reduceEq, if_false, if_true, or_true, or_false, true_or, false_or, List.map_cons, List.map_nil, List.length_cons, List.length_nil, Int.reduceAdd]
      refine ahdq hSx ?_
      simp -implicitDefEqProofs only [push_cast, Nat.reduceAdd, Nat.reduceSub, Nat.reduceMul, Nat.reduceLT, Nat.reduceLeDiff, Nat.reduceEqDiff, Nat.reduceBEq, reduceCtorEq, reduceIte, Int.reduceLE, Int.reduceLT, Int.reduceNeg, Int.reduceToNat, encQ, Int.reduceEq, if_false, if_true, or_true, or_false, true_or, false_or, List.map_cons, List.map_nil, List.length_cons, List.length_nil, Int.reduceAdd]
      refine ahdq hSy ?_
      simp -implicitDefEqProofs only [push_cast, Nat.reduceAdd, Nat.reduceSub, Nat.reduceMul, Nat.reduceLT, Nat.reduceLeDiff, Nat.reduceEqDiff, Nat.reduceBEq, reduceCtorEq, reduceIte, Int.reduceLE, Int.reduceLT, Int.reduceNeg, Int.reduceToNat, encQ, Int.reduceEq, if_false, if_true, or_true, or_false, true_or, false_or, List.map_cons, List.map_nil, List.length_cons, List.length_nil, Int.reduceAdd]
      refine ahdq hP ?_
      simp -implicitDefEqProofs only [push_cast, Nat.reduceAdd, Nat.reduceSub, Nat.reduceMul, Nat.reduceLT, Nat.reduceLeDiff, Nat.reduceEqDiff, Nat.reduceBEq, reduceCtorEq, reduceIte, Int.reduceLE, Int.reduceLT, Int.reduceNeg, Int.reduceToNat, encQ, Int.reduceEq, if_false, if_true, or_true, or_false, true_or, false_or, List.map_cons, List.map_nil, List.length_cons, List.length_nil, Int.reduceAdd]
      refine ahdq (containsP_ok ps hple a b) ?_
      simp -implicitDefEqProofs only [push_cast, Nat.reduceAdd, Nat.reduceSub, Nat.reduceMul, Nat.reduceLT, Nat.reduceLeDiff, Nat.reduceEqDiff, Nat.reduceBEq, reduceCtorEq, reduceIte, Int.reduceLE, Int.reduceLT, Int.reduceNeg, Int.reduceToNat, encQ, Int.reduceEq, if_false, if_true, or_true, or_false, true_or, false_or, List.map_cons, List.map_nil, List.length_cons, List.length_nil, Int.reduceAdd]
      refine areg_at 28 (by kernel_rfl) (by kernel_rfl) ?_
      simp -implicitDefEqProofs only [push_cast, Nat.reduceAdd, Nat.reduceSub, Nat.reduceMul, Nat.reduceLT, Nat.reduceLeDiff, Nat.reduceEqDiff, Nat.reduceBEq, reduceCtorEq, reduceIte, Int.reduceLE, Int.reduceLT, Int.reduceNeg, Int.reduceToNat, encQ, Int.reduceEq, if_false, if_true, or_true, or_false, true_or, false_or, List.map_cons, List.map_nil, List.length_cons, List.length_nil, Int.reduceAdd]
      refine gcallq (.int x.order) (fun _ => hOx) ?_
      simp -implicitDefEqProofs only [push_cast, Nat.reduceAdd, Nat.reduceSub, Nat.reduceMul, Nat.reduceLT, Nat.reduceLeDiff, Nat.reduceEqDiff, Nat.reduceBEq, reduceCtorEq, reduceIte, Int.reduceLE, Int.reduceLT, Int.reduceNeg, Int.reduceToNat, encQ, Int.reduceEq, if_false, if_true, or_true, or_false, true_or, false_or, List.map_cons, List.map_nil, List.length_cons, List.length_nil, Int.reduceAdd]
      refine gcallq (.int y.order) (fun _ => hOy) ?_
      simp -implicitDefEqProofs only [push_cast, Nat.reduceAdd, Nat.reduceSub, Nat.reduceMul, Nat.reduceLT, Nat.reduceLeDiff, Nat.reduceEqDiff, Nat.reduceBEq, reduceCtorEq, reduceIte, Int.reduceLE, Int.reduceLT, Int.reduceNeg, Int.reduceToNat, encQ, Int.reduceEq, if_false, if_true, or_true, or_false, true_or, false_or, List.map_cons, List.map_nil, List.length_cons, List.length_nil, Int.reduceAdd]
      exact fun h1 h2 => by rw [h1, decide_eq_true h2]; rfl
end
section
attribute [local push_cast] encPl_mk encPl_take encPl_len encPl_one encPls_pure encPl_pure encT_pure encT_len encT_one encT_take
def stNone : St Unit where
  inv _ _ B := B = fun _ => False
  stable := by rintro s H H' B rfl _ _; rfl
  low := by rintro s H B rfl q hq; exact hq.elim
def allStep (f : Pl → Bool) (s : Unit) (p : Pl) : Unit × Bool := ((), f p)
mutual
theorem eachP_all (f : Pl → Bool) : ∀ (p : Pl) (s : Unit), (eachP (allStep f) p s).2 = (parts p).all f
  | .mk op occ a b l, s => by
    rw [eachP, parts_mk, List.all_cons]
    have h := eachPL_all f l ()
    by_cases hf : f (.mk op occ a b l) = true
    · simp only [allStep, hf, if_true, Bool.true_and]; exact h
    · rw [Bool.not_eq_true] at hf
      simp [allStep, hf]
theorem eachPL_all (f : Pl → Bool) : ∀ (l : List Pl) (s : Unit), (eachPL (allStep f) l s).2 = (partsPl l).all f
  | [], s => by rw [eachPL, partsPl]; rfl
  | x :: l, s => by
    rw [eachPL, partsPl_cons, List.all_append, ← eachP_all f x s]
    cases hx : (eachP (allStep f) x s).2
    · simp
    · rw [if_pos rfl, Bool.true_and]; exact eachPL_all f l _
end
def addStep (f : Pl → Int) (s : List Int) (p : Pl) : List Int × Bool := (s ++ [f p], true)
mutual
theorem eachP_add (f : Pl → Int) : ∀ (p : Pl) (s : List Int), eachP (addStep f) p s = (s ++ (parts p).map f, true)
  | .mk op occ a b l, s => by
    rw [eachP, parts_mk, List.map_cons]
    simp only [addStep, if_true]
    have h := eachPL_add f l (s ++ [f (.mk op occ a b l)])
    rw [h, List.append_assoc]
    rfl
theorem eachPL_add (f : Pl → Int) : ∀ (l : List Pl) (s : List Int), eachPL (addStep f) l s = (s ++ (partsPl l).map f, true)
  | [], s => by rw [eachPL, partsPl, List.map_nil, List.append_nil]
  | x :: l, s => by
    rw [eachPL, partsPl_cons, List.map_append, eachP_add f x s]
    simp only [if_true]
    rw [eachPL_add f l, List.append_assoc]
end
mutual
theorem cntP_parts : ∀ p : Pl, cntP p = (parts p).length
  | .mk op occ a b l => by rw [cntP, parts_mk, List.length_cons, cntPL_parts l]; omega
theorem cntPL_parts : ∀ l : List Pl, cntPL l = (partsPl l).length
  | [] => by rw [cntPL, partsPl]; rfl
  | x :: l => by rw [cntPL, partsPl_cons, List.length_append, cntP_parts x, cntPL_parts l]
end
theorem mayPl1_ok (c : List Df) (hcl : c.length ≤ 1000000) (q : Qy) (hq : q.Ok) (p : Pl) (hp : Pl.good p) (s : Unit) (H : AH) (B : Nat → Prop) (hI : stNone.inv s H B) :
    ACalls Go.Proofs.Tryz.prog 63 [.agg (encPl p), .iptr [.sl (c.map encD)], .iptr (encQ q)] H (fun r H' => r = .bool (allStep (fitP c q) s p).2 ∧ Moves stNone (allStep (fitP c q) s p).1 H B H') := by
  have hF := fits_ok c hcl q hq p hp
  obtain ⟨op, occ, a, b, l⟩ := p
  rw [encPl_mk] at hF
  refine acalls_sc (rs := #[.tmp 4]) Go.Proofs.Tryz.func63 rfl rfl rfl mixed rfl (Nat.le_of_ble_eq_true rfl) fun hs _ => ?_
  simp -implicitDefEqProofs only [push_cast, Nat.reduceAdd, Nat.reduceSub, Nat.reduceMul, Nat.reduceLT, Nat.reduceLeDiff, Nat.reduceEqDiff, Nat.reduceBEq, reduceCtorEq, reduceIte, Int.reduceLE, Int.reduceLT, Int.reduceNeg, Int.reduceToNat, encQ]
  refine callq hF ?_
  simp -implicitDefEqProofs only [push_cast, Nat.reduceAdd, Nat.reduceSub, Nat.reduceMul, Nat.reduceLT, Nat.reduceLeDiff, Nat.reduceEqDiff, Nat.reduceBEq, reduceCtorEq, reduceIte, Int.reduceLE, Int.reduceLT, Int.reduceNeg, Int.reduceToNat, encQ]
  exact retk trivial ⟨rfl, Moves.new hI _⟩
theorem mayP_split {c : List Df} {q : Qy} {p : Pl} (h : mayP c q p = true) : q.may c = true ∧ p.tree.2 = true ∧ (p.few = true ∧ (treeP p).may = true) ∧ (treeP p).set < 2 ^ q.occ.length := by
  unfold mayP at h
  simp only [Bool.and_eq_true, decide_eq_true_eq] at h
  obtain ⟨⟨⟨h1, h2⟩, h3⟩, h4⟩ := h
  refine ⟨h2, h1, ?_, h3⟩
  rw [tree_iff, Bool.and_eq_true] at h1
  exact h1
theorem shr_iff {t : Tr} {n : Nat} (hn : n ≤ 4) : ¬ 0 < bshr .i64 t.set n ↔ t.set < 2 ^ n := by
  have hs := t.set_range
  generalize t.set = s at hs ⊢
  obtain ⟨i, rfl⟩ : ∃ i : Fin 16, s = (i.val : Int) := ⟨⟨s.toNat, by omega⟩, by simp; omega⟩
  obtain ⟨j, rfl⟩ : ∃ j : Fin 5, n = j.val := ⟨⟨n, by omega⟩, rfl⟩
  clear hs hn
  revert i j
  decide +kernel
theorem shr_below {t : Tr} {n : Nat} (h : t.set < 2 ^ n) (hn : n ≤ 4) : ¬ 0 < bshr .i64 t.set n := (shr_iff hn).2 h
theorem below_shr {t : Tr} {n : Nat} (h : ¬ 0 < bshr .i64 t.set n) (hn : n ≤ 4) : t.set < 2 ^ n := (shr_iff hn).1 h
theorem MayPl_ok (c : List Df) (hcl : c.length ≤ 1000000) (q : Qy) (hq : q.Ok) (p : Pl) (hok : p.Ok) : Quiet Go.Proofs.Tryz.prog 18 [.agg [.sl (c.map encD)], .agg (encQ q), .agg (encPl p)] (.bool (mayP c q p)) := by
  have hT := Tree_ok p hok
  have hM := MayQ_ok c hcl q hq
  refine quiet_of (rs := #[.tmp 6]) Go.Proofs.Tryz.func18 rfl rfl rfl mixed rfl rfl fun H hs => ?_
  simp -implicitDefEqProofs only [push_cast, Nat.reduceAdd, Nat.reduceSub, Nat.reduceMul, Nat.reduceLT, Nat.reduceLeDiff, Nat.reduceEqDiff, Nat.reduceBEq, reduceCtorEq, reduceIte, Int.reduceLE, Int.reduceLT, Int.reduceNeg, Int.reduceToNat, encQ]
  refine callq hT ?_
  simp -implicitDefEqProofs only [push_cast, Nat.reduceAdd, Nat.reduceSub, Nat.reduceMul, Nat.reduceLT, Nat.reduceLeDiff, Nat.reduceEqDiff, Nat.reduceBEq, reduceCtorEq, reduceIte, Int.reduceLE, Int.reduceLT, Int.reduceNeg, Int.reduceToNat, encQ]
  refine areg_at 17 (by kernel_rfl) (by kernel_rfl) ?_
  simp -implicitDefEqProofs only [push_cast, Nat.reduceAdd, Nat.reduceSub, Nat.reduceMul, Nat.reduceLT, Nat.reduceLeDiff, Nat.reduceEqDiff, Nat.reduceBEq, reduceCtorEq, reduceIte, Int.reduceLE, Int.reduceLT, Int.reduceNeg, Int.reduceToNat, encQ]
  refine gcallq (.bool (q.may c)) (fun _ => hM) ?_
  simp -implicitDefEqProofs only [push_cast, Nat.reduceAdd, Nat.reduceSub, Nat.reduceMul, Nat.reduceLT, Nat.reduceLeDiff, Nat.reduceEqDiff, Nat.reduceBEq, reduceCtorEq, reduceIte, Int.reduceLE, Int.reduceLT, Int.reduceNeg, Int.reduceToNat, encQ]
  refine gcallq (.int p.tree.1.set) (fun _ => SetT_ok _ (tree_ok p)) ?_
  simp -implicitDefEqProofs only [push_cast, Nat.reduceAdd, Nat.reduceSub, Nat.reduceMul, Nat.reduceLT, Nat.reduceLeDiff, Nat.reduceEqDiff, Nat.reduceBEq, reduceCtorEq, reduceIte, Int.reduceLE, Int.reduceLT, Int.reduceNeg, Int.reduceToNat, encQ]
  refine ⟨fun _ => by omega, fun h => ?_, fun h => ?_⟩
  · cases hm : mayP c q p
    · rfl
    have h1 := mayP_split hm
    rw [tree_1 h1.2.1, h1.2.1, h1.1] at h
    have := shr_below h1.2.2.2 (may_split h1.1).2.2.1
    simp only [Bool.not_true, Bool.false_or, decide_eq_true_eq] at h
    exact absurd h this
  simp only [Bool.or_eq_false_iff, Bool.not_eq_false', decide_eq_false_iff_not] at h
  obtain ⟨⟨ht, hm⟩, hb⟩ := h
  have hfm : p.few = true ∧ (treeP p).may = true := by rw [tree_iff, Bool.and_eq_true] at ht; exact ht
  rw [tree_1 ht] at hb
  have hv : mayP c q p = (parts p).all (fitP c q) := by
    rw [mayP, ht, hm, decide_eq_true (below_shr hb (may_split hm).2.2.1)]
    rfl
  rw [hv, ← eachP_all (fitP c q) p ()]
  refine fzk H 0 1 [.agg (encPl p), .clo (.func 63) [] [.iptr [.sl (c.map encD)], .ptr (H.nxt + 1) 6 0 0]] (by rfl) (by omega) (by simp) ?_ ?_
  · (try simp -implicitDefEqProofs only [push_cast, Nat.reduceAdd, Nat.reduceSub, Nat.reduceMul, Nat.reduceLT, Nat.reduceLeDiff, Nat.reduceEqDiff, Nat.reduceBEq, reduceCtorEq, reduceIte, Int.reduceLE, Int.reduceLT, Int.reduceNeg, Int.reduceToNat, encDs_pure])
  refine fzk H 1 1 [.agg (encPl p), .clo (.func 63) [] [.iptr [.sl (c.map encD)], .iptr (encQ q)]] (by rfl) (by omega) (by simp) ?_ ?_
  · (try simp -implicitDefEqProofs only [push_cast, Nat.reduceAdd, Nat.reduceSub, Nat.reduceMul, Nat.reduceLT, Nat.reduceLeDiff, Nat.reduceEqDiff, Nat.reduceBEq, reduceCtorEq, reduceIte, Int.reduceLE, Int.reduceLT, Int.reduceNeg, Int.reduceToNat, encDs_pure, encIs_pure, encEs_pure, encQ])
  refine ((eachQ_ok Pl.good (fun e h => h.1) (fun _ _ _ _ _ h => good_part h) stNone (allStep (fitP c q)) _ [.iptr [.sl (c.map encD)], .iptr (encQ q)] (fun _ => 0) (fun _ _ => by omega) (cntP p) (fun s e H B he _ hI => mayPl1_ok c hcl q hq e he s H B hI) p () _ (fun _ => False) ⟨hok, hfm⟩ (by omega) rfl).hsc).mono ?_
  rintro r H2 ⟨⟨rfl, hm⟩, hsc2, hle2, -⟩
  obtain ⟨l', rfl⟩ := hm.is_plus (fun q hq => hq.elim) hsc2
  simp -implicitDefEqProofs only [push_cast, Nat.reduceAdd, Nat.reduceSub, Nat.reduceMul, Nat.reduceLT, Nat.reduceLeDiff, Nat.reduceEqDiff, Nat.reduceBEq, reduceCtorEq, reduceIte, Int.reduceLE, Int.reduceLT, Int.reduceNeg, Int.reduceToNat]
set_option maxHeartbeats 4000000 in
theorem partCost_ok (c : List Df) (hcl : c.length ≤ 1000000) (q : Qy) (hq : q.Ok) (p : Pl) (hp : Pl.good p) : Quiet Go.Proofs.Tryz.prog 62 [.agg (encPl p), .agg [.sl (c.map encD)], .agg (encQ q)] (.int (ownC c q p)) := by
  obtain ⟨op, occ, a, b, l⟩ := p
  have hsub := good_part hp
  have hSp := partSet_ok _ (few_forms hp.2.1)
  rcases form_split (few_own hp.2.1) with ⟨rfl, rfl⟩ | ⟨rfl, x, rfl⟩ | ⟨hop, x, y, rfl⟩
  · have hlf := leaf_in hp.2.2
    refine quiet_of (rs := #[.tmp 6]) Go.Proofs.Tryz.func62 rfl rfl rfl mixed rfl rfl fun H hs => ?_
    simp -implicitDefEqProofs only [push_cast, Nat.reduceAdd, Nat.reduceSub, Nat.reduceMul, Nat.reduceLT, Nat.reduceLeDiff, Nat.reduceEqDiff, Nat.reduceBEq, reduceCtorEq, reduceIte, Int.reduceLE, Int.reduceLT, Int.reduceNeg, Int.reduceToNat, encQ, Int.reduceEq, if_false, if_true, or_true, or_false, true_or, false_or, List.map_cons, List.map_nil, List.length_cons, List.length_nil, Int.reduceAdd]
    refine callq (Base_ok c hcl q hq occ (by unfold In64; omega)) ?_
    simp -implicitDefEqProofs only [push_cast, Nat.reduceAdd, Nat.reduceSub, Nat.reduceMul, Nat.reduceLT, Nat.reduceLeDiff, Nat.reduceEqDiff, Nat.reduceBEq, reduceCtorEq, reduceIte, Int.reduceLE, Int.reduceLT, Int.reduceNeg, Int.reduceToNat, encQ, Int.reduceEq, if_false, if_true, or_true, or_false, true_or, false_or, List.map_cons, List.map_nil, List.length_cons, List.length_nil, Int.reduceAdd]
    refine callq (ScanK_ok _) ?_
    simp -implicitDefEqProofs only [push_cast, Nat.reduceAdd, Nat.reduceSub, Nat.reduceMul, Nat.reduceLT, Nat.reduceLeDiff, Nat.reduceEqDiff, Nat.reduceBEq, reduceCtorEq, reduceIte, Int.reduceLE, Int.reduceLT, Int.reduceNeg, Int.reduceToNat, encQ, Int.reduceEq, if_false, if_true, or_true, or_false, true_or, false_or, List.map_cons, List.map_nil, List.length_cons, List.length_nil, Int.reduceAdd, ownC]
  · have hv : ownC c q (.mk 4 occ a b [x]) = sortK (rowsQ c q (treeP (.mk 4 occ a b [x])).set) := by rw [treeP]; rfl
    rw [hv]
    rw [encPl_mk] at hSp
    refine quiet_of (rs := #[.tmp 6]) Go.Proofs.Tryz.func62 rfl rfl rfl mixed rfl rfl fun H hs => ?_
    simp -implicitDefEqProofs only [push_cast, Nat.reduceAdd, Nat.reduceSub, Nat.reduceMul, Nat.reduceLT, Nat.reduceLeDiff, Nat.reduceEqDiff, Nat.reduceBEq, reduceCtorEq, reduceIte, Int.reduceLE, Int.reduceLT, Int.reduceNeg, Int.reduceToNat, encQ, Int.reduceEq, if_false, if_true, or_true, or_false, true_or, false_or, List.map_cons, List.map_nil, List.length_cons, List.length_nil, Int.reduceAdd]
    refine areg_at 7 (by kernel_rfl) (by kernel_rfl) ?_
    simp -implicitDefEqProofs only [push_cast, Nat.reduceAdd, Nat.reduceSub, Nat.reduceMul, Nat.reduceLT, Nat.reduceLeDiff, Nat.reduceEqDiff, Nat.reduceBEq, reduceCtorEq, reduceIte, Int.reduceLE, Int.reduceLT, Int.reduceNeg, Int.reduceToNat, encQ, Int.reduceEq, if_false, if_true, or_true, or_false, true_or, false_or, List.map_cons, List.map_nil, List.length_cons, List.length_nil, Int.reduceAdd]
    refine ahdq hSp ?_
    simp -implicitDefEqProofs only [push_cast, Nat.reduceAdd, Nat.reduceSub, Nat.reduceMul, Nat.reduceLT, Nat.reduceLeDiff, Nat.reduceEqDiff, Nat.reduceBEq, reduceCtorEq, reduceIte, Int.reduceLE, Int.reduceLT, Int.reduceNeg, Int.reduceToNat, encQ, Int.reduceEq, if_false, if_true, or_true, or_false, true_or, false_or, List.map_cons, List.map_nil, List.length_cons, List.length_nil, Int.reduceAdd]
    refine ahdq (Rows_ok c hcl q hq _) ?_
    simp -implicitDefEqProofs only [push_cast, Nat.reduceAdd, Nat.reduceSub, Nat.reduceMul, Nat.reduceLT, Nat.reduceLeDiff, Nat.reduceEqDiff, Nat.reduceBEq, reduceCtorEq, reduceIte, Int.reduceLE, Int.reduceLT, Int.reduceNeg, Int.reduceToNat, encQ, Int.reduceEq, if_false, if_true, or_true, or_false, true_or, false_or, List.map_cons, List.map_nil, List.length_cons, List.length_nil, Int.reduceAdd]
    refine ahdq (SortK_ok _) ?_
    simp -implicitDefEqProofs only [push_cast, Nat.reduceAdd, Nat.reduceSub, Nat.reduceMul, Nat.reduceLT, Nat.reduceLeDiff, Nat.reduceEqDiff, Nat.reduceBEq, reduceCtorEq, reduceIte, Int.reduceLE, Int.reduceLT, Int.reduceNeg, Int.reduceToNat, encQ, Int.reduceEq, if_false, if_true, or_true, or_false, true_or, false_or, List.map_cons, List.map_nil, List.length_cons, List.length_nil, Int.reduceAdd]
  · have hx := hsub x (by simp)
    have hy := hsub y (by simp)
    have hSx := partSet_ok x (few_forms hx.2.1)
    have hSy := partSet_ok y (few_forms hy.2.1)
    have hg0 : ∀ z : List AV, ([x, y].map encPl).getD 0 z = encPl x := fun _ => rfl
    have hg1 : ∀ z : List AV, ([x, y].map encPl).getD 1 z = encPl y := fun _ => rfl
    have hPr := prices_ok op
    refine quiet_of (rs := #[.tmp 6]) Go.Proofs.Tryz.func62 rfl rfl rfl mixed rfl rfl fun H hs => ?_
    rcases hop with rfl | rfl | rfl
    · simp -implicitDefEqProofs only [push_cast, Nat.reduceAdd, Nat.reduceSub, Nat.reduceMul, Nat.reduceLT, Nat.reduceLeDiff, Nat.reduceEqDiff, Nat.reduceBEq, reduceCtorEq, reduceIte, Int.reduceLE, Int.reduceLT, Int.reduceNeg, Int.reduceToNat, encQ, Int.reduceEq, if_false, if_true, or_true, or_false, true_or, false_or, List.map_cons, List.map_nil, List.length_cons, List.length_nil, Int.reduceAdd]
      refine areg_at 16 (by kernel_rfl) (by kernel_rfl) ?_
      simp -implicitDefEqProofs only [push_cast, Nat.reduceAdd, Nat.reduceSub, Nat.reduceMul, Nat.reduceLT, Nat.reduceLeDiff, Nat.reduceEqDiff, Nat.reduceBEq, reduceCtorEq, reduceIte, Int.reduceLE, Int.reduceLT, Int.reduceNeg, Int.reduceToNat, encQ, Int.reduceEq, if_false, if_true, or_true, or_false, true_or, false_or, List.map_cons, List.map_nil, List.length_cons, List.length_nil, Int.reduceAdd]
      refine areg_at 17 (by kernel_rfl) (by kernel_rfl) ?_
      simp -implicitDefEqProofs only [push_cast, Nat.reduceAdd, Nat.reduceSub, Nat.reduceMul, Nat.reduceLT, Nat.reduceLeDiff, Nat.reduceEqDiff, Nat.reduceBEq, reduceCtorEq, reduceIte, Int.reduceLE, Int.reduceLT, Int.reduceNeg, Int.reduceToNat, encQ, Int.reduceEq, if_false, if_true, or_true, or_false, true_or, false_or, List.map_cons, List.map_nil, List.length_cons, List.length_nil, Int.reduceAdd]
      refine ahdq hPr ?_
      simp -implicitDefEqProofs only [push_cast, Nat.reduceAdd, Nat.reduceSub, Nat.reduceMul, Nat.reduceLT, Nat.reduceLeDiff, Nat.reduceEqDiff, Nat.reduceBEq, reduceCtorEq, reduceIte, Int.reduceLE, Int.reduceLT, Int.reduceNeg, Int.reduceToNat, encQ, Int.reduceEq, if_false, if_true, or_true, or_false, true_or, false_or, List.map_cons, List.map_nil, List.length_cons, List.length_nil, Int.reduceAdd]
      refine ahdq hSx ?_
      simp -implicitDefEqProofs only [push_cast, Nat.reduceAdd, Nat.reduceSub, Nat.reduceMul, Nat.reduceLT, Nat.reduceLeDiff, Nat.reduceEqDiff, Nat.reduceBEq, reduceCtorEq, reduceIte, Int.reduceLE, Int.reduceLT, Int.reduceNeg, Int.reduceToNat, encQ, Int.reduceEq, if_false, if_true, or_true, or_false, true_or, false_or, List.map_cons, List.map_nil, List.length_cons, List.length_nil, Int.reduceAdd]
      refine ahdq (Rows_ok c hcl q hq _) ?_
      simp -implicitDefEqProofs only [push_cast, Nat.reduceAdd, Nat.reduceSub, Nat.reduceMul, Nat.reduceLT, Nat.reduceLeDiff, Nat.reduceEqDiff, Nat.reduceBEq, reduceCtorEq, reduceIte, Int.reduceLE, Int.reduceLT, Int.reduceNeg, Int.reduceToNat, encQ, Int.reduceEq, if_false, if_true, or_true, or_false, true_or, false_or, List.map_cons, List.map_nil, List.length_cons, List.length_nil, Int.reduceAdd]
      refine ahdq hSy ?_
      simp -implicitDefEqProofs only [push_cast, Nat.reduceAdd, Nat.reduceSub, Nat.reduceMul, Nat.reduceLT, Nat.reduceLeDiff, Nat.reduceEqDiff, Nat.reduceBEq, reduceCtorEq, reduceIte, Int.reduceLE, Int.reduceLT, Int.reduceNeg, Int.reduceToNat, encQ, Int.reduceEq, if_false, if_true, or_true, or_false, true_or, false_or, List.map_cons, List.map_nil, List.length_cons, List.length_nil, Int.reduceAdd]
      refine ahdq (Rows_ok c hcl q hq _) ?_
      simp -implicitDefEqProofs only [push_cast, Nat.reduceAdd, Nat.reduceSub, Nat.reduceMul, Nat.reduceLT, Nat.reduceLeDiff, Nat.reduceEqDiff, Nat.reduceBEq, reduceCtorEq, reduceIte, Int.reduceLE, Int.reduceLT, Int.reduceNeg, Int.reduceToNat, encQ, Int.reduceEq, if_false, if_true, or_true, or_false, true_or, false_or, List.map_cons, List.map_nil, List.length_cons, List.length_nil, Int.reduceAdd]
      refine ahdq (NestK_ok _ _) ?_
      simp -implicitDefEqProofs only [push_cast, Nat.reduceAdd, Nat.reduceSub, Nat.reduceMul, Nat.reduceLT, Nat.reduceLeDiff, Nat.reduceEqDiff, Nat.reduceBEq, reduceCtorEq, reduceIte, Int.reduceLE, Int.reduceLT, Int.reduceNeg, Int.reduceToNat, encQ, Int.reduceEq, if_false, if_true, or_true, or_false, true_or, false_or, List.map_cons, List.map_nil, List.length_cons, List.length_nil, Int.reduceAdd, ownC]
    · simp -implicitDefEqProofs only [push_cast, Nat.reduceAdd, Nat.reduceSub, Nat.reduceMul, Nat.reduceLT, Nat.reduceLeDiff, Nat.reduceEqDiff, Nat.reduceBEq, reduceCtorEq, reduceIte, Int.reduceLE, Int.reduceLT, Int.reduceNeg, Int.reduceToNat, encQ, Int.reduceEq, if_false, if_true, or_true, or_false, true_or, false_or, List.map_cons, List.map_nil, List.length_cons, List.length_nil, Int.reduceAdd]
      refine areg_at 16 (by kernel_rfl) (by kernel_rfl) ?_
      simp -implicitDefEqProofs only [push_cast, Nat.reduceAdd, Nat.reduceSub, Nat.reduceMul, Nat.reduceLT, Nat.reduceLeDiff, Nat.reduceEqDiff, Nat.reduceBEq, reduceCtorEq, reduceIte, Int.reduceLE, Int.reduceLT, Int.reduceNeg, Int.reduceToNat, encQ, Int.reduceEq, if_false, if_true, or_true, or_false, true_or, false_or, List.map_cons, List.map_nil, List.length_cons, List.length_nil, Int.reduceAdd]
      refine areg_at 17 (by kernel_rfl) (by kernel_rfl) ?_
      simp -implicitDefEqProofs only [push_cast, Nat.reduceAdd, Nat.reduceSub, Nat.reduceMul, Nat.reduceLT, Nat.reduceLeDiff, Nat.reduceEqDiff, Nat.reduceBEq, reduceCtorEq, reduceIte, Int.reduceLE, Int.reduceLT, Int.reduceNeg, Int.reduceToNat, encQ, Int.reduceEq, if_false, if_true, or_true, or_false, true_or, false_or, List.map_cons, List.map_nil, List.length_cons, List.length_nil, Int.reduceAdd]
      refine ahdq hPr ?_
      simp -implicitDefEqProofs only [push_cast, Nat.reduceAdd, Nat.reduceSub, Nat.reduceMul, Nat.reduceLT, Nat.reduceLeDiff, Nat.reduceEqDiff, Nat.reduceBEq, reduceCtorEq, reduceIte, Int.reduceLE, Int.reduceLT, Int.reduceNeg, Int.reduceToNat, encQ, Int.reduceEq, if_false, if_true, or_true, or_false, true_or, false_or, List.map_cons, List.map_nil, List.length_cons, List.length_nil, Int.reduceAdd]
      refine ahdq hSx ?_
      simp -implicitDefEqProofs only [push_cast, Nat.reduceAdd, Nat.reduceSub, Nat.reduceMul, Nat.reduceLT, Nat.reduceLeDiff, Nat.reduceEqDiff, Nat.reduceBEq, reduceCtorEq, reduceIte, Int.reduceLE, Int.reduceLT, Int.reduceNeg, Int.reduceToNat, encQ, Int.reduceEq, if_false, if_true, or_true, or_false, true_or, false_or, List.map_cons, List.map_nil, List.length_cons, List.length_nil, Int.reduceAdd]
      refine ahdq (Rows_ok c hcl q hq _) ?_
      simp -implicitDefEqProofs only [push_cast, Nat.reduceAdd, Nat.reduceSub, Nat.reduceMul, Nat.reduceLT, Nat.reduceLeDiff, Nat.reduceEqDiff, Nat.reduceBEq, reduceCtorEq, reduceIte, Int.reduceLE, Int.reduceLT, Int.reduceNeg, Int.reduceToNat, encQ, Int.reduceEq, if_false, if_true, or_true, or_false, true_or, false_or, List.map_cons, List.map_nil, List.length_cons, List.length_nil, Int.reduceAdd]
      refine ahdq hSy ?_
      simp -implicitDefEqProofs only [push_cast, Nat.reduceAdd, Nat.reduceSub, Nat.reduceMul, Nat.reduceLT, Nat.reduceLeDiff, Nat.reduceEqDiff, Nat.reduceBEq, reduceCtorEq, reduceIte, Int.reduceLE, Int.reduceLT, Int.reduceNeg, Int.reduceToNat, encQ, Int.reduceEq, if_false, if_true, or_true, or_false, true_or, false_or, List.map_cons, List.map_nil, List.length_cons, List.length_nil, Int.reduceAdd]
      refine ahdq (Rows_ok c hcl q hq _) ?_
      simp -implicitDefEqProofs only [push_cast, Nat.reduceAdd, Nat.reduceSub, Nat.reduceMul, Nat.reduceLT, Nat.reduceLeDiff, Nat.reduceEqDiff, Nat.reduceBEq, reduceCtorEq, reduceIte, Int.reduceLE, Int.reduceLT, Int.reduceNeg, Int.reduceToNat, encQ, Int.reduceEq, if_false, if_true, or_true, or_false, true_or, false_or, List.map_cons, List.map_nil, List.length_cons, List.length_nil, Int.reduceAdd]
      refine ahdq (HashK_ok _ _) ?_
      simp -implicitDefEqProofs only [push_cast, Nat.reduceAdd, Nat.reduceSub, Nat.reduceMul, Nat.reduceLT, Nat.reduceLeDiff, Nat.reduceEqDiff, Nat.reduceBEq, reduceCtorEq, reduceIte, Int.reduceLE, Int.reduceLT, Int.reduceNeg, Int.reduceToNat, encQ, Int.reduceEq, if_false, if_true, or_true, or_false, true_or, false_or, List.map_cons, List.map_nil, List.length_cons, List.length_nil, Int.reduceAdd, ownC]
    · simp -implicitDefEqProofs only [push_cast, Nat.reduceAdd, Nat.reduceSub, Nat.reduceMul, Nat.reduceLT, Nat.reduceLeDiff, Nat.reduceEqDiff, Nat.reduceBEq, reduceCtorEq, reduceIte, Int.reduceLE, Int.reduceLT, Int.reduceNeg, Int.reduceToNat, encQ, Int.reduceEq, if_false, if_true, or_true, or_false, true_or, false_or, List.map_cons, List.map_nil, List.length_cons, List.length_nil, Int.reduceAdd]
      refine areg_at 16 (by kernel_rfl) (by kernel_rfl) ?_
      simp -implicitDefEqProofs only [push_cast, Nat.reduceAdd, Nat.reduceSub, Nat.reduceMul, Nat.reduceLT, Nat.reduceLeDiff, Nat.reduceEqDiff, Nat.reduceBEq, reduceCtorEq, reduceIte, Int.reduceLE, Int.reduceLT, Int.reduceNeg, Int.reduceToNat, encQ, Int.reduceEq, if_false, if_true, or_true, or_false, true_or, false_or, List.map_cons, List.map_nil, List.length_cons, List.length_nil, Int.reduceAdd]
      refine areg_at 17 (by kernel_rfl) (by kernel_rfl) ?_
      simp -implicitDefEqProofs only [push_cast, Nat.reduceAdd, Nat.reduceSub, Nat.reduceMul, Nat.reduceLT, Nat.reduceLeDiff, Nat.reduceEqDiff, Nat.reduceBEq, reduceCtorEq, reduceIte, Int.reduceLE, Int.reduceLT, Int.reduceNeg, Int.reduceToNat, encQ, Int.reduceEq, if_false, if_true, or_true, or_false, true_or, false_or, List.map_cons, List.map_nil, List.length_cons, List.length_nil, Int.reduceAdd]
      refine ahdq hPr ?_
      simp -implicitDefEqProofs only [push_cast, Nat.reduceAdd, Nat.reduceSub, Nat.reduceMul, Nat.reduceLT, Nat.reduceLeDiff, Nat.reduceEqDiff, Nat.reduceBEq, reduceCtorEq, reduceIte, Int.reduceLE, Int.reduceLT, Int.reduceNeg, Int.reduceToNat, encQ, Int.reduceEq, if_false, if_true, or_true, or_false, true_or, false_or, List.map_cons, List.map_nil, List.length_cons, List.length_nil, Int.reduceAdd]
      refine ahdq hSx ?_
      simp -implicitDefEqProofs only [push_cast, Nat.reduceAdd, Nat.reduceSub, Nat.reduceMul, Nat.reduceLT, Nat.reduceLeDiff, Nat.reduceEqDiff, Nat.reduceBEq, reduceCtorEq, reduceIte, Int.reduceLE, Int.reduceLT, Int.reduceNeg, Int.reduceToNat, encQ, Int.reduceEq, if_false, if_true, or_true, or_false, true_or, false_or, List.map_cons, List.map_nil, List.length_cons, List.length_nil, Int.reduceAdd]
      refine ahdq (Rows_ok c hcl q hq _) ?_
      simp -implicitDefEqProofs only [push_cast, Nat.reduceAdd, Nat.reduceSub, Nat.reduceMul, Nat.reduceLT, Nat.reduceLeDiff, Nat.reduceEqDiff, Nat.reduceBEq, reduceCtorEq, reduceIte, Int.reduceLE, Int.reduceLT, Int.reduceNeg, Int.reduceToNat, encQ, Int.reduceEq, if_false, if_true, or_true, or_false, true_or, false_or, List.map_cons, List.map_nil, List.length_cons, List.length_nil, Int.reduceAdd]
      refine ahdq hSy ?_
      simp -implicitDefEqProofs only [push_cast, Nat.reduceAdd, Nat.reduceSub, Nat.reduceMul, Nat.reduceLT, Nat.reduceLeDiff, Nat.reduceEqDiff, Nat.reduceBEq, reduceCtorEq, reduceIte, Int.reduceLE, Int.reduceLT, Int.reduceNeg, Int.reduceToNat, encQ, Int.reduceEq, if_false, if_true, or_true, or_false, true_or, false_or, List.map_cons, List.map_nil, List.length_cons, List.length_nil, Int.reduceAdd]
      refine ahdq (Rows_ok c hcl q hq _) ?_
      simp -implicitDefEqProofs only [push_cast, Nat.reduceAdd, Nat.reduceSub, Nat.reduceMul, Nat.reduceLT, Nat.reduceLeDiff, Nat.reduceEqDiff, Nat.reduceBEq, reduceCtorEq, reduceIte, Int.reduceLE, Int.reduceLT, Int.reduceNeg, Int.reduceToNat, encQ, Int.reduceEq, if_false, if_true, or_true, or_false, true_or, false_or, List.map_cons, List.map_nil, List.length_cons, List.length_nil, Int.reduceAdd]
      refine ahdq (MergeK_ok _ _) ?_
      simp -implicitDefEqProofs only [push_cast, Nat.reduceAdd, Nat.reduceSub, Nat.reduceMul, Nat.reduceLT, Nat.reduceLeDiff, Nat.reduceEqDiff, Nat.reduceBEq, reduceCtorEq, reduceIte, Int.reduceLE, Int.reduceLT, Int.reduceNeg, Int.reduceToNat, encQ, Int.reduceEq, if_false, if_true, or_true, or_false, true_or, false_or, List.map_cons, List.map_nil, List.length_cons, List.length_nil, Int.reduceAdd, ownC]
end
section
attribute [local push_cast] encPl_mk encPl_take encPl_len encPl_one encPls_pure encPl_pure encT_pure encT_len encT_one encT_take
theorem cost1_ok (c : List Df) (hcl : c.length ≤ 1000000) (q : Qy) (hq : q.Ok) (i : Nat) (p : Pl) (hp : Pl.good p) (s : List Int) (H : AH) (B : Nat → Prop) (hs1 : s.length < 1000000) (hI : (stRow i).inv s H B) :
    ACalls Go.Proofs.Tryz.prog 61 [.agg (encPl p), .ptr i 1 0 0, .iptr [.sl (c.map encD)], .iptr (encQ q)] H (fun r H' => r = .bool (addStep (ownC c q) s p).2 ∧ Moves (stRow i) (addStep (ownC c q) s p).1 H B H') := by
  have hC := partCost_ok c hcl q hq p hp
  have hpl := encPl_len p
  refine acalls_sc (rs := #[.tmp 5]) Go.Proofs.Tryz.func61 rfl rfl rfl mixed rfl (Nat.le_of_ble_eq_true rfl) fun hs _ => ?_
  have hIc := hI
  rcases hI with ⟨rfl, h2, h3, rfl⟩ | ⟨j, h1, h2, h3, h4, h5, rfl⟩
  · have hob : ∀ l, (H.plus l).obj i = some (.cells 1 [[.nilS]] 0) := fun l => by rw [plus_low H l h2]; exact h3
    have hset : ∀ l o, (H.plus l).set i o = (H.set i o).plus l := fun l o => plus_setlow H l h2 o
    simp -implicitDefEqProofs only [push_cast, Nat.reduceAdd, Nat.reduceSub, Nat.reduceMul, Nat.reduceLT, Nat.reduceLeDiff, Nat.reduceEqDiff, Nat.reduceBEq, reduceCtorEq, reduceIte, Int.reduceLE, Int.reduceLT, Int.reduceNeg, Int.reduceToNat, hob, hset, encQ]
    refine areg_grow [some (.cells 5 [encPl p] 0)] 7 ?_ (by kernel_rfl) (by kernel_rfl) (by kernel_rfl) ?_
    · intro j o hj
      exact hj
    simp -implicitDefEqProofs only [push_cast, Nat.reduceAdd, Nat.reduceSub, Nat.reduceMul, Nat.reduceLT, Nat.reduceLeDiff, Nat.reduceEqDiff, Nat.reduceBEq, reduceCtorEq, reduceIte, Int.reduceLE, Int.reduceLT, Int.reduceNeg, Int.reduceToNat, hob, hset, encQ]
    refine ⟨_, hC, ?_⟩
    simp -implicitDefEqProofs only [push_cast, Nat.reduceAdd, Nat.reduceSub, Nat.reduceMul, Nat.reduceLT, Nat.reduceLeDiff, Nat.reduceEqDiff, Nat.reduceBEq, reduceCtorEq, reduceIte, Int.reduceLE, Int.reduceLT, Int.reduceNeg, Int.reduceToNat, hob, hset, encQ]
    refine retk trivial ⟨rfl, ?_⟩
    simp only [addStep, List.nil_append]
    refine stRow_push rfl rfl (fun q hq hb => ?_) h2 1 rfl ?_
    · show (if q = i then _ else H.obj q) = _
      rw [if_neg hb]
    · show (if i = i then _ else H.obj i) = _
      rw [if_pos rfl]
      rfl
  · have hob : ∀ l, (H.plus l).obj i = some (.cells 1 [[.rsl j 1 0 s.length]] 0) := fun l => by rw [plus_low H l h2]; exact h4
    have hoj : ∀ l, (H.plus l).obj j = some (.cells 1 (rowI s) 0) := fun l => by rw [plus_low H l h3]; exact h5
    have hdel : ∀ l, (H.plus l).del j = (H.del j).plus l := fun l => plus_dellow H l h3
    have hob2 : ∀ l, ((H.del j).plus l).obj i = some (.cells 1 [[.rsl j 1 0 s.length]] 0) := fun l => by
      rw [plus_low (H.del j) l h2]
      show (if i = j then none else H.obj i) = _
      rw [if_neg (Ne.symm h1), h4]
    have hoj2 : ∀ l, ((H.del j).plus l).obj j = none := fun l => by
      rw [plus_low (H.del j) l h3]
      show (if j = j then none else H.obj j) = _
      rw [if_pos rfl]
    have hpo : ∀ l k, ((H.del j).plus l).obj (H.nxt + k) = (l[k]?).join := fun l k => plus_obj (H.del j) l k
    have hset2 : ∀ l o, ((H.del j).plus l).set i o = ((H.del j).set i o).plus l := fun l o => plus_setlow (H.del j) l h2 o
    simp -implicitDefEqProofs only [push_cast, Nat.reduceAdd, Nat.reduceSub, Nat.reduceMul, Nat.reduceLT, Nat.reduceLeDiff, Nat.reduceEqDiff, Nat.reduceBEq, reduceCtorEq, reduceIte, Int.reduceLE, Int.reduceLT, Int.reduceNeg, Int.reduceToNat, hob, hoj, hdel, hob2, hset2, del_nxt, encQ]
    refine .inl (aregE_chain ((H.del j).plus [some (.cells 5 [encPl p] 0)]) 7 (by kernel_rfl) (by kernel_rfl) (by kernel_rfl) (fun k o hk => ?_) ?_)
    · rw [← hdel] at hk
      change (if k = j then none else _) = _ at hk
      split at hk
      · cases hk
      · exact hk
    simp -implicitDefEqProofs only [push_cast, Nat.reduceAdd, Nat.reduceSub, Nat.reduceMul, Nat.reduceLT, Nat.reduceLeDiff, Nat.reduceEqDiff, Nat.reduceBEq, reduceCtorEq, reduceIte, Int.reduceLE, Int.reduceLT, Int.reduceNeg, Int.reduceToNat, hob, hoj, hdel, hob2, hoj2, hset2, hpo, del_nxt, encQ]
    refine ⟨_, hC, ?_⟩
    simp -implicitDefEqProofs only [push_cast, Nat.reduceAdd, Nat.reduceSub, Nat.reduceMul, Nat.reduceLT, Nat.reduceLeDiff, Nat.reduceEqDiff, Nat.reduceBEq, reduceCtorEq, reduceIte, Int.reduceLE, Int.reduceLT, Int.reduceNeg, Int.reduceToNat, hob, hoj, hdel, hob2, hoj2, hset2, hpo, del_nxt, encQ]
    refine ⟨by omega, retk trivial ⟨rfl, ?_⟩⟩
    simp only [addStep]
    refine stRow_push rfl (.inl rfl) (fun q hq hb => ?_) h2 1 ?_ ?_
    · show (if q = i then _ else (if q = j then none else H.obj q)) = _
      rw [if_neg (fun e => hb (.inl e)), if_neg (fun e => hb (.inr e))]
    · simp only [List.getElem?_cons_succ, List.getElem?_cons_zero]
      rw [List.take_of_length_le (by simp [rowI]), rowI, rowI, List.map_append]
      rfl
    · show (if i = i then _ else _) = _
      rw [if_pos rfl, List.length_append]
      rfl
theorem CostPl_ok (c : List Df) (hcl : c.length ≤ 1000000) (q : Qy) (hq : q.Ok) (p : Pl) (hok : p.Ok) : Quiet Go.Proofs.Tryz.prog 17 [.agg [.sl (c.map encD)], .agg (encQ q), .agg (encPl p)] (.int (costP c q p)) := by
  have hM := MayPl_ok c hcl q hq p hok
  unfold costP
  refine quiet_of (rs := #[.tmp 6]) Go.Proofs.Tryz.func17 rfl rfl rfl mixed rfl rfl fun H hs => ?_
  simp -implicitDefEqProofs only [push_cast, Nat.reduceAdd, Nat.reduceSub, Nat.reduceMul, Nat.reduceLT, Nat.reduceLeDiff, Nat.reduceEqDiff, Nat.reduceBEq, reduceCtorEq, reduceIte, Int.reduceLE, Int.reduceLT, Int.reduceNeg, Int.reduceToNat, encQ]
  refine callq hM ?_
  cases hm : mayP c q p
  · simp -implicitDefEqProofs only [push_cast, Nat.reduceAdd, Nat.reduceSub, Nat.reduceMul, Nat.reduceLT, Nat.reduceLeDiff, Nat.reduceEqDiff, Nat.reduceBEq, reduceCtorEq, reduceIte, Int.reduceLE, Int.reduceLT, Int.reduceNeg, Int.reduceToNat, encQ, Bool.false_eq_true, if_false, capK]
  have h1 := mayP_split hm
  have hgood : Pl.good p := ⟨hok, h1.2.2.1⟩
  have hpl : (parts p).length ≤ 20 := by
    have := h1.2.2.1.1
    unfold Pl.few at this
    simp only [Bool.and_eq_true, decide_eq_true_eq] at this
    exact this.1
  have hpp : 1 ≤ (parts p).length := by obtain ⟨op, occ, a, b, l⟩ := p; rw [parts_mk]; simp
  have hA := AddK_ok ((parts p).map (ownC c q)) (by rw [List.length_map]; omega)
  have hst := eachP_add (ownC c q) p []
  rw [List.nil_append] at hst
  simp -implicitDefEqProofs only [push_cast, Nat.reduceAdd, Nat.reduceSub, Nat.reduceMul, Nat.reduceLT, Nat.reduceLeDiff, Nat.reduceEqDiff, Nat.reduceBEq, reduceCtorEq, reduceIte, Int.reduceLE, Int.reduceLT, Int.reduceNeg, Int.reduceToNat, encQ, if_true]
  refine fzk H 0 1 [.agg (encPl p), .clo (.func 61) [] [.ptr (H.nxt + 3) 1 0 0, .iptr [.sl (c.map encD)], .ptr (H.nxt + 1) 6 0 0]] (by rfl) (by omega) (by simp) ?_ ?_
  · (try simp -implicitDefEqProofs only [push_cast, Nat.reduceAdd, Nat.reduceSub, Nat.reduceMul, Nat.reduceLT, Nat.reduceLeDiff, Nat.reduceEqDiff, Nat.reduceBEq, reduceCtorEq, reduceIte, Int.reduceLE, Int.reduceLT, Int.reduceNeg, Int.reduceToNat, encDs_pure])
  refine fzk H 1 1 [.agg (encPl p), .clo (.func 61) [] [.ptr (H.nxt + 3) 1 0 0, .iptr [.sl (c.map encD)], .iptr (encQ q)]] (by rfl) (by omega) (by simp) ?_ ?_
  · (try simp -implicitDefEqProofs only [push_cast, Nat.reduceAdd, Nat.reduceSub, Nat.reduceMul, Nat.reduceLT, Nat.reduceLeDiff, Nat.reduceEqDiff, Nat.reduceBEq, reduceCtorEq, reduceIte, Int.reduceLE, Int.reduceLT, Int.reduceNeg, Int.reduceToNat, encDs_pure, encIs_pure, encEs_pure, encQ])
  refine ((eachQ_ok Pl.good (fun e h => h.1) (fun _ _ _ _ _ h => good_part h) (stRow (H.nxt + 3)) (addStep (ownC c q)) _ [.ptr (H.nxt + 3) 1 0 0, .iptr [.sl (c.map encD)], .iptr (encQ q)] List.length (fun _ _ => by simp [addStep]) 1000000 (fun s e H B he hw hI => cost1_ok c hcl q hq _ e he s H B hw hI) p [] _ (fun q => q = H.nxt + 3) hgood (by rw [cntP_parts]; simp; omega) (.inl ⟨rfl, by simp [plus_nxt], by rw [plus_obj]; rfl, rfl⟩)).hsc).mono ?_
  rintro r H2 ⟨⟨rfl, hm⟩, hsc2, hle2, -⟩
  rw [hst] at hm ⊢
  obtain ⟨l', rfl⟩ := hm.is_plus (fun q hq => by omega) hsc2
  obtain ⟨hm1, hm2, B', hB', hBB⟩ := hm
  rcases hB' with ⟨hnil, _, hv, rfl⟩ | ⟨j, hj1, hj2, hj3, hv, hrow, rfl⟩
  · have : ((parts p).map (ownC c q)).length = 0 := by dsimp only at hnil; rw [hnil]; rfl
    rw [List.length_map] at this
    omega
  have hjn : H.nxt ≤ j := by
    rcases hBB j (.inr rfl) with h1 | h1
    · omega
    · rw [plus_nxt] at h1; omega
  obtain ⟨k, rfl⟩ : ∃ k, j = H.nxt + k := ⟨j - H.nxt, by omega⟩
  have hkl : k < l'.length := by rw [plus_nxt] at hj3; omega
  rw [plus_obj] at hv hrow
  simp -implicitDefEqProofs only [push_cast, Nat.reduceAdd, Nat.reduceSub, Nat.reduceMul, Nat.reduceLT, Nat.reduceLeDiff, Nat.reduceEqDiff, Nat.reduceBEq, reduceCtorEq, reduceIte, Int.reduceLE, Int.reduceLT, Int.reduceNeg, Int.reduceToNat, hv, hrow]
  have hk : l'[k]? = some (some (.cells 1 (rowI ((parts p).map (ownC c q))) 0)) := by
    cases hx : l'[k]? with
    | none => rw [hx] at hrow; cases hrow
    | some x => rw [hx] at hrow; simp only [Option.join_some] at hrow; rw [hrow]
  have htk : List.take (parts p).length (rowI ((parts p).map (ownC c q))) = ((parts p).map (ownC c q)).map encI := List.take_of_length_le (by simp [rowI])
  refine fzk H k (parts p).length [.sl (((parts p).map (ownC c q)).map encI)] hk (by omega) (by simp [rowI]) ?_ ?_
  · (try simp -implicitDefEqProofs only [push_cast, Nat.reduceAdd, Nat.reduceSub, Nat.reduceMul, Nat.reduceLT, Nat.reduceLeDiff, Nat.reduceEqDiff, Nat.reduceBEq, reduceCtorEq, reduceIte, Int.reduceLE, Int.reduceLT, Int.reduceNeg, Int.reduceToNat, hrow, htk, encIs_pure])
    rw [List.getElem?_set_self hkl]
    exact Nat.le_refl (parts p).length
  refine callq hA ?_
  simp -implicitDefEqProofs only [push_cast, Nat.reduceAdd, Nat.reduceSub, Nat.reduceMul, Nat.reduceLT, Nat.reduceLeDiff, Nat.reduceEqDiff, Nat.reduceBEq, reduceCtorEq, reduceIte, Int.reduceLE, Int.reduceLT, Int.reduceNeg, Int.reduceToNat]
end
section
attribute [local push_cast] encPl_mk encPl_take encPl_len encPl_one encPls_pure encPl_pure encT_pure encT_len encT_one encT_take
def encW (p : Pl) (e : Int) (s : Bool) : List AV := encPl p ++ [.int e, .bool s]
theorem encW_mk (op occ a b : Int) (l : List Pl) (e : Int) (s : Bool) : encW (.mk op occ a b l) e s = [.int op, .int occ, .int a, .int b, .sl (l.map encPl), .int e, .bool s] := by rw [encW, encPl_mk]; rfl
def endP (q : Qy) (o e : Int) (s : Bool) : Bool := decide (0 ≤ e) && decide (e < 3) && (decide (e = 0) == decide (q.by_ = -1)) &&
  (if s then decide (q.ord ≠ -1) && decide (e = 1) else if e = 2 then decide (o = q.by_) else if q.ord ≠ -1 then decide (e = 0) && decide (o = q.ord) else true)
def fineP (c : List Df) (q : Qy) (p : Pl) (e : Int) (s : Bool) : Bool := mayP c q p && decide ((treeP p).set = 2 ^ q.occ.length - 1) && endP q p.order e s
def allL (c : List Df) (q : Qy) (p : Pl) (e : Int) (s : Bool) : List Int := [costP c q p] ++ (if e = 0 then [] else [groupK (rowsQ c q 15) (decide (e = 1))]) ++ (if s then [sortK (groupsQ c q)] else [])
def allP (c : List Df) (q : Qy) (p : Pl) (e : Int) (s : Bool) : Int := if fineP c q p e s then addK (allL c q p e s) else capK
theorem shl_one {n : Nat} (hn : n ≤ 4) : bshl .i64 1 n = 2 ^ n := by
  obtain ⟨j, rfl⟩ : ∃ j : Fin 5, n = j.val := ⟨⟨n, by omega⟩, rfl⟩
  clear hn
  revert j
  decide +kernel
theorem pow_full {n : Nat} (hn : n ≤ 4) : (1 : Int) ≤ 2 ^ n ∧ (2 : Int) ^ n ≤ 16 := by
  obtain ⟨j, rfl⟩ : ∃ j : Fin 5, n = j.val := ⟨⟨n, by omega⟩, rfl⟩
  clear hn
  revert j
  decide +kernel
theorem rows_full {c : List Df} {q : Qy} (h : q.may c = true) : rowsQ c q (2 ^ q.occ.length - 1) = rowsQ c q 15 := by
  refine rowsQ_congr h fun i hi => ?_
  have h4 := (may_split h).2.2.1
  obtain ⟨j, hj⟩ : ∃ j : Fin 5, q.occ.length = j.val := ⟨⟨q.occ.length, by omega⟩, rfl⟩
  rw [hj] at hi ⊢
  obtain ⟨k, rfl⟩ : ∃ k : Fin 5, i = k.val := ⟨⟨i, by omega⟩, rfl⟩
  clear hj h4
  revert hi
  revert j k
  decide +kernel
set_option maxHeartbeats 4000000 in
theorem FinePl_ok (c : List Df) (hcl : c.length ≤ 1000000) (q : Qy) (hq : q.Ok) (p : Pl) (hok : p.Ok) (e : Int) (s : Bool) : Quiet Go.Proofs.Tryz.prog 29 [.agg [.sl (c.map encD)], .agg (encQ q), .agg (encW p e s)] (.bool (fineP c q p e s)) := by
  have hM := MayPl_ok c hcl q hq p hok
  have hT := Tree_ok p hok
  have hO := Order_ok p hok
  have hS := SetT_ok _ (tree_ok p)
  cases hm : mayP c q p
  · have hv : fineP c q p e s = false := by rw [fineP, hm]; rfl
    rw [hv]
    rw [hm] at hM
    obtain ⟨op, occ, a, b, l⟩ := p
    rw [encPl_mk] at hM hT hO
    rw [encW_mk]
    refine quiet_of (rs := #[.tmp 6]) Go.Proofs.Tryz.func29 rfl rfl rfl mixed rfl rfl fun H hs => ?_
    simp -implicitDefEqProofs only [push_cast, Nat.reduceAdd, Nat.reduceSub, Nat.reduceMul, Nat.reduceLT, Nat.reduceLeDiff, Nat.reduceEqDiff, Nat.reduceBEq, reduceCtorEq, reduceIte, Int.reduceLE, Int.reduceLT, Int.reduceNeg, Int.reduceToNat, encQ]
    refine callq hT ?_
    simp -implicitDefEqProofs only [push_cast, Nat.reduceAdd, Nat.reduceSub, Nat.reduceMul, Nat.reduceLT, Nat.reduceLeDiff, Nat.reduceEqDiff, Nat.reduceBEq, reduceCtorEq, reduceIte, Int.reduceLE, Int.reduceLT, Int.reduceNeg, Int.reduceToNat, encQ]
    refine areg_at 35 (by kernel_rfl) (by kernel_rfl) ?_
    simp -implicitDefEqProofs only [push_cast, Nat.reduceAdd, Nat.reduceSub, Nat.reduceMul, Nat.reduceLT, Nat.reduceLeDiff, Nat.reduceEqDiff, Nat.reduceBEq, reduceCtorEq, reduceIte, Int.reduceLE, Int.reduceLT, Int.reduceNeg, Int.reduceToNat, encQ]
    refine ahdq hM ?_
    simp -implicitDefEqProofs only [push_cast, Nat.reduceAdd, Nat.reduceSub, Nat.reduceMul, Nat.reduceLT, Nat.reduceLeDiff, Nat.reduceEqDiff, Nat.reduceBEq, reduceCtorEq, reduceIte, Int.reduceLE, Int.reduceLT, Int.reduceNeg, Int.reduceToNat, encQ]
    refine gcallq (.int 0) (fun h => by cases h) ?_
    simp -implicitDefEqProofs only [push_cast, Nat.reduceAdd, Nat.reduceSub, Nat.reduceMul, Nat.reduceLT, Nat.reduceLeDiff, Nat.reduceEqDiff, Nat.reduceBEq, reduceCtorEq, reduceIte, Int.reduceLE, Int.reduceLT, Int.reduceNeg, Int.reduceToNat, encQ]
  · have h1 := mayP_split hm
    have h4 := (may_split h1.1).2.2.1
    have hpw := pow_full h4
    have hsh := shl_one h4
    have hv : fineP c q p e s = (decide ((treeP p).set = 2 ^ q.occ.length - 1) && endP q p.order e s) := by rw [fineP, hm]; rfl
    rw [hv]
    rw [hm] at hM
    rw [tree_1 h1.2.1] at hT hS
    generalize (treeP p).set = S at hS ⊢
    generalize p.order = O at hO ⊢
    obtain ⟨op, occ, a, b, l⟩ := p
    rw [encPl_mk] at hM hT hO
    rw [encW_mk]
    refine quiet_of (rs := #[.tmp 6]) Go.Proofs.Tryz.func29 rfl rfl rfl mixed rfl rfl fun H hs => ?_
    simp -implicitDefEqProofs only [push_cast, Nat.reduceAdd, Nat.reduceSub, Nat.reduceMul, Nat.reduceLT, Nat.reduceLeDiff, Nat.reduceEqDiff, Nat.reduceBEq, reduceCtorEq, reduceIte, Int.reduceLE, Int.reduceLT, Int.reduceNeg, Int.reduceToNat, encQ]
    refine callq hT ?_
    simp -implicitDefEqProofs only [push_cast, Nat.reduceAdd, Nat.reduceSub, Nat.reduceMul, Nat.reduceLT, Nat.reduceLeDiff, Nat.reduceEqDiff, Nat.reduceBEq, reduceCtorEq, reduceIte, Int.reduceLE, Int.reduceLT, Int.reduceNeg, Int.reduceToNat, encQ]
    refine areg_at 35 (by kernel_rfl) (by kernel_rfl) ?_
    simp -implicitDefEqProofs only [push_cast, Nat.reduceAdd, Nat.reduceSub, Nat.reduceMul, Nat.reduceLT, Nat.reduceLeDiff, Nat.reduceEqDiff, Nat.reduceBEq, reduceCtorEq, reduceIte, Int.reduceLE, Int.reduceLT, Int.reduceNeg, Int.reduceToNat, encQ]
    refine ahdq hM ?_
    simp -implicitDefEqProofs only [push_cast, Nat.reduceAdd, Nat.reduceSub, Nat.reduceMul, Nat.reduceLT, Nat.reduceLeDiff, Nat.reduceEqDiff, Nat.reduceBEq, reduceCtorEq, reduceIte, Int.reduceLE, Int.reduceLT, Int.reduceNeg, Int.reduceToNat, encQ]
    refine gcallq (.int S) (fun _ => hS) ?_
    simp -implicitDefEqProofs only [push_cast, Nat.reduceAdd, Nat.reduceSub, Nat.reduceMul, Nat.reduceLT, Nat.reduceLeDiff, Nat.reduceEqDiff, Nat.reduceBEq, reduceCtorEq, reduceIte, Int.reduceLE, Int.reduceLT, Int.reduceNeg, Int.reduceToNat, encQ, hsh]
    rw [wrap64 (n := 2 ^ q.occ.length - 1) (by omega) (by omega)]
    generalize (2 : Int) ^ q.occ.length - 1 = F
    refine ⟨by omega, fun h => ?_, fun h => ?_⟩
    · unfold endP
      generalize q.by_ = by_ at h ⊢
      grind
    simp only [Bool.or_eq_false_iff, Bool.not_eq_false', decide_eq_false_iff_not, decide_eq_true_eq] at h
    obtain ⟨⟨⟨rfl, h0⟩, h3⟩, hb⟩ := h
    refine callq hO ?_
    have hv2 : (decide (S = S) && endP q O e s) = (if s then decide (q.ord ≠ -1) && decide (e = 1) else if e = 2 then decide (O = q.by_) else if q.ord ≠ -1 then decide (e = 0) && decide (O = q.ord) else true) := by
      unfold endP
      generalize q.by_ = by_ at hb ⊢
      grind
    rw [hv2]
    cases s
    · simp -implicitDefEqProofs only [push_cast, Nat.reduceAdd, Nat.reduceSub, Nat.reduceMul, Nat.reduceLT, Nat.reduceLeDiff, Nat.reduceEqDiff, Nat.reduceBEq, reduceCtorEq, reduceIte, Int.reduceLE, Int.reduceLT, Int.reduceNeg, Int.reduceToNat, encQ]
      generalize q.by_ = by_
      grind
    · simp -implicitDefEqProofs only [push_cast, Nat.reduceAdd, Nat.reduceSub, Nat.reduceMul, Nat.reduceLT, Nat.reduceLeDiff, Nat.reduceEqDiff, Nat.reduceBEq, reduceCtorEq, reduceIte, Int.reduceLE, Int.reduceLT, Int.reduceNeg, Int.reduceToNat, encQ, if_true]
      grind
theorem fine_split {c : List Df} {q : Qy} {p : Pl} {e : Int} {s : Bool} (h : fineP c q p e s = true) : mayP c q p = true ∧ (treeP p).set = 2 ^ q.occ.length - 1 ∧ endP q p.order e s = true := by
  unfold fineP at h
  simp only [Bool.and_eq_true, decide_eq_true_eq] at h
  exact ⟨h.1.1, h.1.2, h.2⟩
set_option maxHeartbeats 4000000 in
theorem AllPl_ok (c : List Df) (hcl : c.length ≤ 1000000) (q : Qy) (hq : q.Ok) (p : Pl) (hok : p.Ok) (e : Int) (s : Bool) : Quiet Go.Proofs.Tryz.prog 28 [.agg [.sl (c.map encD)], .agg (encQ q), .agg (encW p e s)] (.int (allP c q p e s)) := by
  have hF := FinePl_ok c hcl q hq p hok e s
  have hC := CostPl_ok c hcl q hq p hok
  unfold allP
  cases hf : fineP c q p e s
  · rw [hf] at hF
    obtain ⟨op, occ, a, b, l⟩ := p
    rw [encW_mk] at hF ⊢
    refine quiet_of (rs := #[.tmp 6]) Go.Proofs.Tryz.func28 rfl rfl rfl mixed rfl rfl fun H hs => ?_
    simp -implicitDefEqProofs only [push_cast, Nat.reduceAdd, Nat.reduceSub, Nat.reduceMul, Nat.reduceLT, Nat.reduceLeDiff, Nat.reduceEqDiff, Nat.reduceBEq, reduceCtorEq, reduceIte, Int.reduceLE, Int.reduceLT, Int.reduceNeg, Int.reduceToNat, encQ]
    refine callq hF ?_
    simp -implicitDefEqProofs only [push_cast, Nat.reduceAdd, Nat.reduceSub, Nat.reduceMul, Nat.reduceLT, Nat.reduceLeDiff, Nat.reduceEqDiff, Nat.reduceBEq, reduceCtorEq, reduceIte, Int.reduceLE, Int.reduceLT, Int.reduceNeg, Int.reduceToNat, encQ, capK, Bool.false_eq_true, if_false]
  · rw [hf] at hF
    have h1 := mayP_split (fine_split hf).1
    have h4 := (may_split h1.1).2.2.1
    have hpw := pow_full h4
    have hsh := shl_one h4
    have hR := Rows_ok c hcl q hq (2 ^ q.occ.length - 1)
    rw [rows_full h1.1] at hR
    have hA := AddK_ok (allL c q p e s) (by unfold allL; split <;> split <;> simp)
    generalize hX : costP c q p = X at hC
    rw [if_pos rfl]
    have hL : allL c q p e s = [X] ++ (if e = 0 then [] else [groupK (rowsQ c q 15) (decide (e = 1))]) ++ (if s then [sortK (groupsQ c q)] else []) := by rw [allL, hX]
    rw [hL] at hA ⊢
    clear hX hf hL h1
    obtain ⟨op, occ, a, b, l⟩ := p
    rw [encPl_mk] at hC
    rw [encW_mk] at hF ⊢
    refine quiet_of (rs := #[.tmp 6]) Go.Proofs.Tryz.func28 rfl rfl rfl mixed rfl rfl fun H hs => ?_
    by_cases he : e = 0
    · subst he
      cases s
      · simp -implicitDefEqProofs only [push_cast, Nat.reduceAdd, Nat.reduceSub, Nat.reduceMul, Nat.reduceLT, Nat.reduceLeDiff, Nat.reduceEqDiff, Nat.reduceBEq, reduceCtorEq, reduceIte, Int.reduceLE, Int.reduceLT, Int.reduceNeg, Int.reduceToNat, encQ]
        refine callq hF ?_
        simp -implicitDefEqProofs only [push_cast, Nat.reduceAdd, Nat.reduceSub, Nat.reduceMul, Nat.reduceLT, Nat.reduceLeDiff, Nat.reduceEqDiff, Nat.reduceBEq, reduceCtorEq, reduceIte, Int.reduceLE, Int.reduceLT, Int.reduceNeg, Int.reduceToNat, encQ]
        refine callq hC ?_
        simp -implicitDefEqProofs only [push_cast, Nat.reduceAdd, Nat.reduceSub, Nat.reduceMul, Nat.reduceLT, Nat.reduceLeDiff, Nat.reduceEqDiff, Nat.reduceBEq, reduceCtorEq, reduceIte, Int.reduceLE, Int.reduceLT, Int.reduceNeg, Int.reduceToNat, encQ, Int.reduceEq, if_false, if_true, or_true, or_false, true_or, false_or, List.map_cons, List.map_nil, List.length_cons, List.length_nil, Int.reduceAdd, List.cons_append, List.nil_append, List.append_nil]
        refine fzk H 3 1 [.sl ([X].map encI)] (by rfl) (by omega) (by simp) ?_ ?_
        · (try simp -implicitDefEqProofs only [push_cast, Nat.reduceAdd, Nat.reduceSub, Nat.reduceMul, Nat.reduceLT, Nat.reduceLeDiff, Nat.reduceEqDiff, Nat.reduceBEq, reduceCtorEq, reduceIte, Int.reduceLE, Int.reduceLT, Int.reduceNeg, Int.reduceToNat, encI, Int.reduceEq, if_false, if_true, or_true, or_false, true_or, false_or, List.map_cons, List.map_nil, List.length_cons, List.length_nil, Int.reduceAdd, List.cons_append, List.nil_append, List.append_nil])
        refine callq hA ?_
        simp -implicitDefEqProofs only [push_cast, Nat.reduceAdd, Nat.reduceSub, Nat.reduceMul, Nat.reduceLT, Nat.reduceLeDiff, Nat.reduceEqDiff, Nat.reduceBEq, reduceCtorEq, reduceIte, Int.reduceLE, Int.reduceLT, Int.reduceNeg, Int.reduceToNat, encQ, Int.reduceEq, if_false, if_true, or_true, or_false, true_or, false_or, List.map_cons, List.map_nil, List.length_cons, List.length_nil, Int.reduceAdd, List.cons_append, List.nil_append, List.append_nil]
      · simp -implicitDefEqProofs only [push_cast, Nat.reduceAdd, Nat.reduceSub, Nat.reduceMul, Nat.reduceLT, Nat.reduceLeDiff, Nat.reduceEqDiff, Nat.reduceBEq, reduceCtorEq, reduceIte, Int.reduceLE, Int.reduceLT, Int.reduceNeg, Int.reduceToNat, encQ]
        refine callq hF ?_
        simp -implicitDefEqProofs only [push_cast, Nat.reduceAdd, Nat.reduceSub, Nat.reduceMul, Nat.reduceLT, Nat.reduceLeDiff, Nat.reduceEqDiff, Nat.reduceBEq, reduceCtorEq, reduceIte, Int.reduceLE, Int.reduceLT, Int.reduceNeg, Int.reduceToNat, encQ]
        refine callq hC ?_
        simp -implicitDefEqProofs only [push_cast, Nat.reduceAdd, Nat.reduceSub, Nat.reduceMul, Nat.reduceLT, Nat.reduceLeDiff, Nat.reduceEqDiff, Nat.reduceBEq, reduceCtorEq, reduceIte, Int.reduceLE, Int.reduceLT, Int.reduceNeg, Int.reduceToNat, encQ, Int.reduceEq, if_false, if_true, or_true, or_false, true_or, false_or, List.map_cons, List.map_nil, List.length_cons, List.length_nil, Int.reduceAdd, List.cons_append, List.nil_append, List.append_nil]
        refine callq (Groups_ok c hcl q hq) ?_
        simp -implicitDefEqProofs only [push_cast, Nat.reduceAdd, Nat.reduceSub, Nat.reduceMul, Nat.reduceLT, Nat.reduceLeDiff, Nat.reduceEqDiff, Nat.reduceBEq, reduceCtorEq, reduceIte, Int.reduceLE, Int.reduceLT, Int.reduceNeg, Int.reduceToNat, encQ, Int.reduceEq, if_false, if_true, or_true, or_false, true_or, false_or, List.map_cons, List.map_nil, List.length_cons, List.length_nil, Int.reduceAdd, List.cons_append, List.nil_append, List.append_nil]
        refine callq (SortK_ok _) ?_
        simp -implicitDefEqProofs only [push_cast, Nat.reduceAdd, Nat.reduceSub, Nat.reduceMul, Nat.reduceLT, Nat.reduceLeDiff, Nat.reduceEqDiff, Nat.reduceBEq, reduceCtorEq, reduceIte, Int.reduceLE, Int.reduceLT, Int.reduceNeg, Int.reduceToNat, encQ, Int.reduceEq, if_false, if_true, or_true, or_false, true_or, false_or, List.map_cons, List.map_nil, List.length_cons, List.length_nil, Int.reduceAdd, List.cons_append, List.nil_append, List.append_nil]
        refine fzk H 5 2 [.sl ([X, sortK (groupsQ c q)].map encI)] (by rfl) (by omega) (by simp) ?_ ?_
        · (try simp -implicitDefEqProofs only [push_cast, Nat.reduceAdd, Nat.reduceSub, Nat.reduceMul, Nat.reduceLT, Nat.reduceLeDiff, Nat.reduceEqDiff, Nat.reduceBEq, reduceCtorEq, reduceIte, Int.reduceLE, Int.reduceLT, Int.reduceNeg, Int.reduceToNat, encI, Int.reduceEq, if_false, if_true, or_true, or_false, true_or, false_or, List.map_cons, List.map_nil, List.length_cons, List.length_nil, Int.reduceAdd, List.cons_append, List.nil_append, List.append_nil])
        refine callq hA ?_
        simp -implicitDefEqProofs only [push_cast, Nat.reduceAdd, Nat.reduceSub, Nat.reduceMul, Nat.reduceLT, Nat.reduceLeDiff, Nat.reduceEqDiff, Nat.reduceBEq, reduceCtorEq, reduceIte, Int.reduceLE, Int.reduceLT, Int.reduceNeg, Int.reduceToNat, encQ, Int.reduceEq, if_false, if_true, or_true, or_false, true_or, false_or, List.map_cons, List.map_nil, List.length_cons, List.length_nil, Int.reduceAdd, List.cons_append, List.nil_append, List.append_nil]
    · have he' : (e = 0) = False := by simp [he]
      have hen : decide (e = 0) = false := by simp [he]
      cases s
      · simp -implicitDefEqProofs only [push_cast, Nat.reduceAdd, Nat.reduceSub, Nat.reduceMul, Nat.reduceLT, Nat.reduceLeDiff, Nat.reduceEqDiff, Nat.reduceBEq, reduceCtorEq, reduceIte, Int.reduceLE, Int.reduceLT, Int.reduceNeg, Int.reduceToNat, encQ]
        refine callq hF ?_
        simp -implicitDefEqProofs only [push_cast, Nat.reduceAdd, Nat.reduceSub, Nat.reduceMul, Nat.reduceLT, Nat.reduceLeDiff, Nat.reduceEqDiff, Nat.reduceBEq, reduceCtorEq, reduceIte, Int.reduceLE, Int.reduceLT, Int.reduceNeg, Int.reduceToNat, encQ]
        refine callq hC ?_
        simp -implicitDefEqProofs only [push_cast, Nat.reduceAdd, Nat.reduceSub, Nat.reduceMul, Nat.reduceLT, Nat.reduceLeDiff, Nat.reduceEqDiff, Nat.reduceBEq, reduceCtorEq, reduceIte, Int.reduceLE, Int.reduceLT, Int.reduceNeg, Int.reduceToNat, encQ, Int.reduceEq, if_false, if_true, or_true, or_false, true_or, false_or, List.map_cons, List.map_nil, List.length_cons, List.length_nil, Int.reduceAdd, List.cons_append, List.nil_append, List.append_nil, he', hen]
        refine areg_grow [some (.cells 1 [[.sl (c.map encD)]] 0), some (.cells 6 [encQ q] 0), some (.cells 7 [[.int op, .int occ, .int a, .int b, .sl (l.map encPl), .int e, .bool false]] 0)] 16 ?_ (by kernel_rfl) (by kernel_rfl) (by kernel_rfl) ?_
        · intro j o hj
          match j, hj with
          | 0, hj => exact hj
          | 1, hj => exact hj
          | 2, hj => exact hj
          | j + 3, hj => simp at hj
        simp -implicitDefEqProofs only [push_cast, Nat.reduceAdd, Nat.reduceSub, Nat.reduceMul, Nat.reduceLT, Nat.reduceLeDiff, Nat.reduceEqDiff, Nat.reduceBEq, reduceCtorEq, reduceIte, Int.reduceLE, Int.reduceLT, Int.reduceNeg, Int.reduceToNat, encQ, Int.reduceEq, if_false, if_true, or_true, or_false, true_or, false_or, List.map_cons, List.map_nil, List.length_cons, List.length_nil, Int.reduceAdd, List.cons_append, List.nil_append, List.append_nil, he', hen, hsh]
        rw [wrap64 (n := 2 ^ q.occ.length - 1) (by omega) (by omega)]
        refine ⟨by omega, ahdq hR ?_⟩
        simp -implicitDefEqProofs only [push_cast, Nat.reduceAdd, Nat.reduceSub, Nat.reduceMul, Nat.reduceLT, Nat.reduceLeDiff, Nat.reduceEqDiff, Nat.reduceBEq, reduceCtorEq, reduceIte, Int.reduceLE, Int.reduceLT, Int.reduceNeg, Int.reduceToNat, encQ, Int.reduceEq, if_false, if_true, or_true, or_false, true_or, false_or, List.map_cons, List.map_nil, List.length_cons, List.length_nil, Int.reduceAdd, List.cons_append, List.nil_append, List.append_nil]
        refine ahdq (GroupK_ok _ _) ?_
        simp -implicitDefEqProofs only [push_cast, Nat.reduceAdd, Nat.reduceSub, Nat.reduceMul, Nat.reduceLT, Nat.reduceLeDiff, Nat.reduceEqDiff, Nat.reduceBEq, reduceCtorEq, reduceIte, Int.reduceLE, Int.reduceLT, Int.reduceNeg, Int.reduceToNat, encQ, Int.reduceEq, if_false, if_true, or_true, or_false, true_or, false_or, List.map_cons, List.map_nil, List.length_cons, List.length_nil, Int.reduceAdd, List.cons_append, List.nil_append, List.append_nil]
        refine fzk H 4 2 [.sl ([X, groupK (rowsQ c q 15) (decide (e = 1))].map encI)] (by rfl) (by omega) (by simp) ?_ ?_
        · (try simp -implicitDefEqProofs only [push_cast, Nat.reduceAdd, Nat.reduceSub, Nat.reduceMul, Nat.reduceLT, Nat.reduceLeDiff, Nat.reduceEqDiff, Nat.reduceBEq, reduceCtorEq, reduceIte, Int.reduceLE, Int.reduceLT, Int.reduceNeg, Int.reduceToNat, encI, Int.reduceEq, if_false, if_true, or_true, or_false, true_or, false_or, List.map_cons, List.map_nil, List.length_cons, List.length_nil, Int.reduceAdd, List.cons_append, List.nil_append, List.append_nil])
        simp only [he', if_false, if_true, Bool.false_eq_true, List.cons_append, List.nil_append, List.append_nil] at hA
        refine callq hA ?_
        simp -implicitDefEqProofs only [push_cast, Nat.reduceAdd, Nat.reduceSub, Nat.reduceMul, Nat.reduceLT, Nat.reduceLeDiff, Nat.reduceEqDiff, Nat.reduceBEq, reduceCtorEq, reduceIte, Int.reduceLE, Int.reduceLT, Int.reduceNeg, Int.reduceToNat, encQ, Int.reduceEq, if_false, if_true, or_true, or_false, true_or, false_or, List.map_cons, List.map_nil, List.length_cons, List.length_nil, Int.reduceAdd, List.cons_append, List.nil_append, List.append_nil]
      · simp -implicitDefEqProofs only [push_cast, Nat.reduceAdd, Nat.reduceSub, Nat.reduceMul, Nat.reduceLT, Nat.reduceLeDiff, Nat.reduceEqDiff, Nat.reduceBEq, reduceCtorEq, reduceIte, Int.reduceLE, Int.reduceLT, Int.reduceNeg, Int.reduceToNat, encQ]
        refine callq hF ?_
        simp -implicitDefEqProofs only [push_cast, Nat.reduceAdd, Nat.reduceSub, Nat.reduceMul, Nat.reduceLT, Nat.reduceLeDiff, Nat.reduceEqDiff, Nat.reduceBEq, reduceCtorEq, reduceIte, Int.reduceLE, Int.reduceLT, Int.reduceNeg, Int.reduceToNat, encQ]
        refine callq hC ?_
        simp -implicitDefEqProofs only [push_cast, Nat.reduceAdd, Nat.reduceSub, Nat.reduceMul, Nat.reduceLT, Nat.reduceLeDiff, Nat.reduceEqDiff, Nat.reduceBEq, reduceCtorEq, reduceIte, Int.reduceLE, Int.reduceLT, Int.reduceNeg, Int.reduceToNat, encQ, Int.reduceEq, if_false, if_true, or_true, or_false, true_or, false_or, List.map_cons, List.map_nil, List.length_cons, List.length_nil, Int.reduceAdd, List.cons_append, List.nil_append, List.append_nil, he', hen]
        refine areg_grow [some (.cells 1 [[.sl (c.map encD)]] 0), some (.cells 6 [encQ q] 0), some (.cells 7 [[.int op, .int occ, .int a, .int b, .sl (l.map encPl), .int e, .bool true]] 0)] 16 ?_ (by kernel_rfl) (by kernel_rfl) (by kernel_rfl) ?_
        · intro j o hj
          match j, hj with
          | 0, hj => exact hj
          | 1, hj => exact hj
          | 2, hj => exact hj
          | j + 3, hj => simp at hj
        simp -implicitDefEqProofs only [push_cast, Nat.reduceAdd, Nat.reduceSub, Nat.reduceMul, Nat.reduceLT, Nat.reduceLeDiff, Nat.reduceEqDiff, Nat.reduceBEq, reduceCtorEq, reduceIte, Int.reduceLE, Int.reduceLT, Int.reduceNeg, Int.reduceToNat, encQ, Int.reduceEq, if_false, if_true, or_true, or_false, true_or, false_or, List.map_cons, List.map_nil, List.length_cons, List.length_nil, Int.reduceAdd, List.cons_append, List.nil_append, List.append_nil, he', hen, hsh]
        rw [wrap64 (n := 2 ^ q.occ.length - 1) (by omega) (by omega)]
        refine ⟨by omega, ahdq hR ?_⟩
        simp -implicitDefEqProofs only [push_cast, Nat.reduceAdd, Nat.reduceSub, Nat.reduceMul, Nat.reduceLT, Nat.reduceLeDiff, Nat.reduceEqDiff, Nat.reduceBEq, reduceCtorEq, reduceIte, Int.reduceLE, Int.reduceLT, Int.reduceNeg, Int.reduceToNat, encQ, Int.reduceEq, if_false, if_true, or_true, or_false, true_or, false_or, List.map_cons, List.map_nil, List.length_cons, List.length_nil, Int.reduceAdd, List.cons_append, List.nil_append, List.append_nil]
        refine ahdq (GroupK_ok _ _) ?_
        simp -implicitDefEqProofs only [push_cast, Nat.reduceAdd, Nat.reduceSub, Nat.reduceMul, Nat.reduceLT, Nat.reduceLeDiff, Nat.reduceEqDiff, Nat.reduceBEq, reduceCtorEq, reduceIte, Int.reduceLE, Int.reduceLT, Int.reduceNeg, Int.reduceToNat, encQ, Int.reduceEq, if_false, if_true, or_true, or_false, true_or, false_or, List.map_cons, List.map_nil, List.length_cons, List.length_nil, Int.reduceAdd, List.cons_append, List.nil_append, List.append_nil]
        refine callq (Groups_ok c hcl q hq) ?_
        simp -implicitDefEqProofs only [push_cast, Nat.reduceAdd, Nat.reduceSub, Nat.reduceMul, Nat.reduceLT, Nat.reduceLeDiff, Nat.reduceEqDiff, Nat.reduceBEq, reduceCtorEq, reduceIte, Int.reduceLE, Int.reduceLT, Int.reduceNeg, Int.reduceToNat, encQ, Int.reduceEq, if_false, if_true, or_true, or_false, true_or, false_or, List.map_cons, List.map_nil, List.length_cons, List.length_nil, Int.reduceAdd, List.cons_append, List.nil_append, List.append_nil]
        refine callq (SortK_ok _) ?_
        simp -implicitDefEqProofs only [push_cast, Nat.reduceAdd, Nat.reduceSub, Nat.reduceMul, Nat.reduceLT, Nat.reduceLeDiff, Nat.reduceEqDiff, Nat.reduceBEq, reduceCtorEq, reduceIte, Int.reduceLE, Int.reduceLT, Int.reduceNeg, Int.reduceToNat, encQ, Int.reduceEq, if_false, if_true, or_true, or_false, true_or, false_or, List.map_cons, List.map_nil, List.length_cons, List.length_nil, Int.reduceAdd, List.cons_append, List.nil_append, List.append_nil]
        refine fzk H 6 3 [.sl ([X, groupK (rowsQ c q 15) (decide (e = 1)), sortK (groupsQ c q)].map encI)] (by rfl) (by omega) (by simp) ?_ ?_
        · (try simp -implicitDefEqProofs only [push_cast, Nat.reduceAdd, Nat.reduceSub, Nat.reduceMul, Nat.reduceLT, Nat.reduceLeDiff, Nat.reduceEqDiff, Nat.reduceBEq, reduceCtorEq, reduceIte, Int.reduceLE, Int.reduceLT, Int.reduceNeg, Int.reduceToNat, encI, Int.reduceEq, if_false, if_true, or_true, or_false, true_or, false_or, List.map_cons, List.map_nil, List.length_cons, List.length_nil, Int.reduceAdd, List.cons_append, List.nil_append, List.append_nil])
        simp only [he', if_false, if_true, Bool.false_eq_true, List.cons_append, List.nil_append, List.append_nil] at hA
        refine callq hA ?_
        simp -implicitDefEqProofs only [push_cast, Nat.reduceAdd, Nat.reduceSub, Nat.reduceMul, Nat.reduceLT, Nat.reduceLeDiff, Nat.reduceEqDiff, Nat.reduceBEq, reduceCtorEq, reduceIte, Int.reduceLE, Int.reduceLT, Int.reduceNeg, Int.reduceToNat, encQ, Int.reduceEq, if_false, if_true, or_true, or_false, true_or, false_or, List.map_cons, List.map_nil, List.length_cons, List.length_nil, Int.reduceAdd, List.cons_append, List.nil_append, List.append_nil]
end
section
attribute [local push_cast] encE_mk encE_take encE_len encV encE_one encEs_pure encE_pure
def catTwo : List Df := [⟨2, 100⟩, ⟨1, 10⟩]
def rowsTwo : AV := .sl [[.sl [[.sl [[.int 0, .int 1], [.int 0, .int 2]]], [.sl [[.int 0, .int 3], [.int 0, .int 4]]]]], [.sl [[.sl [[.int 0, .int 4]]]]]]
theorem Two_ok : Quiet Go.Proofs.Tryz.prog 58 [] (.tup [.agg [.sl (catTwo.map encD)], .agg [rowsTwo]]) := by
  refine quiet_of (rs := #[.cell 0 24, .cell 1 78]) Go.Proofs.Tryz.func58 rfl rfl rfl mixed rfl rfl fun H hs => ?_
  simp -implicitDefEqProofs only [push_cast, Nat.reduceAdd, Nat.reduceSub, Nat.reduceMul, Nat.reduceLT, Nat.reduceLeDiff, Nat.reduceEqDiff, Nat.reduceBEq, reduceCtorEq, reduceIte, Int.reduceLE, Int.reduceLT, Int.reduceNeg, Int.reduceToNat]
  (try simp -implicitDefEqProofs only [push_cast, Nat.reduceAdd, Nat.reduceSub, Nat.reduceMul, Nat.reduceLT, Nat.reduceLeDiff, Nat.reduceEqDiff, Nat.reduceBEq, reduceCtorEq, reduceIte, Int.reduceLE, Int.reduceLT, Int.reduceNeg, Int.reduceToNat, catTwo, rowsTwo, List.map_cons, List.map_nil, encD])
def fewQ (c : List Df) (q : Qy) : Bool := decide (c.length ≤ 10) && decide (q.occ.length ≤ 20) && decide (q.p.length ≤ 8) && decide (q.sums.length ≤ 20) && decide (q.out.length ≤ 20) && q.p.all fun e => decide (sz e 60 ≤ 60)
def Qy.Raw (q : Qy) (c : List Df) : Prop := c.length ≤ 140737488355328 ∧ q.occ.length ≤ 140737488355328 ∧ q.p.length ≤ 140737488355328 ∧ q.sums.length ≤ 140737488355328 ∧ q.out.length ≤ 140737488355328 ∧ ∀ e ∈ q.p, e.Ok
theorem few5_ok (c : List Df) (q : Qy) (hr : q.Raw c) : Quiet Go.Proofs.Tryz.prog 96 [.agg [.sl (c.map encD)], .agg (encQ q)] (.bool (fewQ c q)) := by
  obtain ⟨h1, h2, h3, h4, h5, hok⟩ := hr
  refine quiet_of (rs := #[.tmp 4]) Go.Proofs.Tryz.func96 rfl rfl rfl mixed rfl rfl fun H hs => ?_
  simp -implicitDefEqProofs only [push_cast, Nat.reduceAdd, Nat.reduceSub, Nat.reduceMul, Nat.reduceLT, Nat.reduceLeDiff, Nat.reduceEqDiff, Nat.reduceBEq, reduceCtorEq, reduceIte, Int.reduceLE, Int.reduceLT, Int.reduceNeg, Int.reduceToNat, encQ]
  obtain ⟨hd, hhd⟩ : ∃ hd : Bool, hd = (decide ((c.length : Int) ≤ 10) && decide ((q.occ.length : Int) ≤ 20) && decide ((q.p.length : Int) ≤ 8) && decide ((q.sums.length : Int) ≤ 20) && decide ((q.out.length : Int) ≤ 20)) := ⟨_, rfl⟩
  rw [← hhd]
  have hf : fewQ c q = (hd && q.p.all fun e => decide (sz e 60 ≤ 60)) := by
    have ic : ∀ m n : Nat, decide ((m : Int) ≤ (n : Int)) = decide (m ≤ n) := fun m n => by rw [decide_eq_decide]; omega
    have i1 := ic c.length 10
    have i2 := ic q.occ.length 20
    have i3 := ic q.p.length 8
    have i4 := ic q.sums.length 20
    have i5 := ic q.out.length 20
    simp only [Int.cast_ofNat_Int] at i1 i2 i3 i4 i5
    rw [hhd, i1, i2, i3, i4, i5]
    rfl
  rw [hf]
  clear hf hhd
  have htk : ∀ i, (h : i < q.p.length) → (q.p.take (i + 1)).all (fun e => decide (sz e 60 ≤ 60)) = ((q.p.take i).all (fun e => decide (sz e 60 ≤ 60)) && decide (sz q.p[i] 60 ≤ 60)) := fun i h => by
    rw [List.take_succ_eq_append_getElem h, List.all_append, List.all_cons, List.all_nil, Bool.and_true]
  refine loop_at hs (σ := Nat) (fun i => i ≤ q.p.length) (fun i => q.p.length - i)
    (fun i => [(6, .int i), (5, .bool (hd && (q.p.take i).all fun e => decide (sz e 60 ≤ 60))), (3, .ptr (H.nxt + 1) 6 0 0)]) (fun i => [none, some (.cells 6 [encQ q] 0)]) [some 0, some 1] 0 (by omega) rfl ?_ ?_ ?_
  · (try simp -implicitDefEqProofs only [push_cast, Nat.reduceAdd, Nat.reduceSub, Nat.reduceMul, Nat.reduceLT, Nat.reduceLeDiff, Nat.reduceEqDiff, Nat.reduceBEq, reduceCtorEq, reduceIte, Int.reduceLE, Int.reduceLT, Int.reduceNeg, Int.reduceToNat, List.take_zero, List.all_nil, encEs_pure, encIs_pure, encQ])
  · (try simp -implicitDefEqProofs only [push_cast, Nat.reduceAdd, Nat.reduceSub, Nat.reduceMul, Nat.reduceLT, Nat.reduceLeDiff, Nat.reduceEqDiff, Nat.reduceBEq, reduceCtorEq, reduceIte, Int.reduceLE, Int.reduceLT, Int.reduceNeg, Int.reduceToNat, encEs_pure, encIs_pure, encQ])
  intro i hi2
  by_cases hi : i < q.p.length
  · have hi' : ((i : Int) < (q.p.length : Int)) = True := by simp; omega
    have hi0 : (0 ≤ (i : Int)) = True := by simp
    cases hfi : (hd && (q.p.take i).all fun e => decide (sz e 60 ≤ 60))
    · simp -implicitDefEqProofs only [push_cast, Nat.reduceAdd, Nat.reduceSub, Nat.reduceMul, Nat.reduceLT, Nat.reduceLeDiff, Nat.reduceEqDiff, Nat.reduceBEq, reduceCtorEq, reduceIte, Int.reduceLE, Int.reduceLT, Int.reduceNeg, Int.reduceToNat, hi', encQ]
      rcases Bool.and_eq_false_iff.1 hfi with h | h
      · rw [h]; rfl
      · have : q.p.all (fun e => decide (sz e 60 ≤ 60)) = false := by
          rw [List.all_eq_false] at h ⊢
          obtain ⟨x, hx, h⟩ := h
          exact ⟨x, List.mem_of_mem_take hx, h⟩
        rw [this, Bool.and_false]
    · simp -implicitDefEqProofs only [push_cast, Nat.reduceAdd, Nat.reduceSub, Nat.reduceMul, Nat.reduceLT, Nat.reduceLeDiff, Nat.reduceEqDiff, Nat.reduceBEq, reduceCtorEq, reduceIte, Int.reduceLE, Int.reduceLT, Int.reduceNeg, Int.reduceToNat, hi', hi0, encEs_get q.p i hi, encQ]
      refine callq (few_ok _ (hok _ (List.getElem_mem hi)) 60 (by omega) (by omega)) ?_
      simp -implicitDefEqProofs only [push_cast, Nat.reduceAdd, Nat.reduceSub, Nat.reduceMul, Nat.reduceLT, Nat.reduceLeDiff, Nat.reduceEqDiff, Nat.reduceBEq, reduceCtorEq, reduceIte, Int.reduceLE, Int.reduceLT, Int.reduceNeg, Int.reduceToNat, encQ]
      rw [wrap64 (n := (i : Int) + 1) (by omega) (by omega)]
      have hnx : (hd && (q.p.take (i + 1)).all fun e => decide (sz e 60 ≤ 60)) = decide (sz q.p[i] 60 ≤ 60) := by
        rw [htk i hi, ← Bool.and_assoc, hfi, Bool.true_and]
      refine next_at [none, some 1] (i + 1) (by omega) (by omega) rfl ?_ ?_
      · (try simp -implicitDefEqProofs only [push_cast, Nat.reduceAdd, Nat.reduceSub, Nat.reduceMul, Nat.reduceLT, Nat.reduceLeDiff, Nat.reduceEqDiff, Nat.reduceBEq, reduceCtorEq, reduceIte, Int.reduceLE, Int.reduceLT, Int.reduceNeg, Int.reduceToNat, hnx, encEs_pure, encIs_pure, encQ])
      · (try simp -implicitDefEqProofs only [push_cast, Nat.reduceAdd, Nat.reduceSub, Nat.reduceMul, Nat.reduceLT, Nat.reduceLeDiff, Nat.reduceEqDiff, Nat.reduceBEq, reduceCtorEq, reduceIte, Int.reduceLE, Int.reduceLT, Int.reduceNeg, Int.reduceToNat, encEs_pure, encIs_pure, encQ])
  · have hi' : ((i : Int) < (q.p.length : Int)) = False := by simp; omega
    obtain rfl : i = q.p.length := by omega
    simp -implicitDefEqProofs only [push_cast, Nat.reduceAdd, Nat.reduceSub, Nat.reduceMul, Nat.reduceLT, Nat.reduceLeDiff, Nat.reduceEqDiff, Nat.reduceBEq, reduceCtorEq, reduceIte, Int.reduceLE, Int.reduceLT, Int.reduceNeg, Int.reduceToNat, hi', encQ, List.take_length]
theorem Far_ok (c : List Df) (q : Qy) (hr : q.Raw c) : Quiet Go.Proofs.Tryz.prog 42 [.agg [.sl (c.map encD)], .agg (encQ q)] (.int (if fewQ c q then 0 else 1)) := by
  have hf := few5_ok c q hr
  refine quiet_of (rs := #[.tmp 4]) Go.Proofs.Tryz.func42 rfl rfl rfl mixed rfl rfl fun H hs => ?_
  simp only [encQ] at hf
  simp -implicitDefEqProofs only [push_cast, Nat.reduceAdd, Nat.reduceSub, Nat.reduceMul, Nat.reduceLT, Nat.reduceLeDiff, Nat.reduceEqDiff, Nat.reduceBEq, reduceCtorEq, reduceIte, Int.reduceLE, Int.reduceLT, Int.reduceNeg, Int.reduceToNat, encQ]
  refine callq hf ?_
  simp -implicitDefEqProofs only [push_cast, Nat.reduceAdd, Nat.reduceSub, Nat.reduceMul, Nat.reduceLT, Nat.reduceLeDiff, Nat.reduceEqDiff, Nat.reduceBEq, reduceCtorEq, reduceIte, Int.reduceLE, Int.reduceLT, Int.reduceNeg, Int.reduceToNat, encQ]
  refine ⟨fun h => by rw [h]; rfl, fun h => by rw [h]; rfl⟩
theorem szL_ge : ∀ (l : List Ex) (m n : Int), 0 ≤ m → n ≤ szL l m n
  | [], _, n, _ => by rw [szL]; exact Int.le_refl _
  | x :: l, m, n, h0 => by
    rw [szL]
    split
    · have := sz_bound x (m - n) (by omega)
      have := szL_ge l m (n + sz x (m - n)) h0
      omega
    · exact Int.le_refl _
mutual
theorem sz_cnt : ∀ (e : Ex) (m : Int), 0 ≤ m → sz e m ≤ m → sz e m = cnt e
  | .mk _ _ _ _ l, m, h0, h => by
    have h1 := szL_ge l m 1 h0
    rw [sz] at h ⊢
    rw [cnt, szL_cnt l m 1 h0 (by omega) h]
    omega
theorem szL_cnt : ∀ (l : List Ex) (m n : Int), 0 ≤ m → n ≤ m → szL l m n ≤ m → szL l m n = n + cntL l
  | [], m, n, _, h0, h => by rw [szL, cntL]; omega
  | x :: l, m, n, h1, h0, h => by
    rw [szL, if_pos h0] at h ⊢
    have h2 := szL_ge l m (n + sz x (m - n)) h1
    have h3 := sz_cnt x (m - n) (by omega) (by omega)
    rw [szL_cnt l m _ h1 (by omega) h, cntL]
    omega
end
theorem fewQ_split {c : List Df} {q : Qy} (h : fewQ c q = true) : c.length ≤ 10 ∧ q.occ.length ≤ 20 ∧ q.p.length ≤ 8 ∧ q.sums.length ≤ 20 ∧ q.out.length ≤ 20 ∧ ∀ e ∈ q.p, cnt e ≤ 60 := by
  unfold fewQ at h
  simp only [Bool.and_eq_true, decide_eq_true_eq, List.all_eq_true] at h
  obtain ⟨⟨⟨⟨⟨h1, h2⟩, h3⟩, h4⟩, h5⟩, h6⟩ := h
  refine ⟨h1, h2, h3, h4, h5, fun e he => ?_⟩
  have := sz_cnt e 60 (by omega) (h6 e he)
  have := h6 e he
  omega
theorem ok_of_few {c : List Df} {q : Qy} (hr : q.Raw c) (h : fewQ c q = true) : q.Ok := by
  obtain ⟨h1, h2, h3, h4, h5, h6⟩ := fewQ_split h
  exact ⟨by omega, fun e he => ⟨hr.2.2.2.2.2 e he, Nat.le_trans (h6 e he) (by omega)⟩, by omega, by omega, by omega⟩
end
section
theorem shp_V2 {n : Nat} {vs : List AV} (h : Shp Go.Proofs.Tryz.prog n 110 vs) : ∃ v : Vl, vs = encV v ∧ In64 v.n := by
  obtain ⟨m, parts, _, rfl, hl, hp⟩ := shp_struct Go.Proofs.Tryz.underlying110 h
  match parts, hl with
  | [p0, p1], _ =>
    obtain ⟨k, rfl, _⟩ := shp_int Go.Proofs.Tryz.underlying3 (hp 0 _ p0 rfl rfl).2
    obtain ⟨n, rfl, hn⟩ := shp_int Go.Proofs.Tryz.underlying3 (hp 1 _ p1 rfl rfl).2
    exact ⟨⟨k, n⟩, rfl, wf64 hn⟩
theorem shp_E2 : ∀ (n : Nat) {vs : List AV}, Shp Go.Proofs.Tryz.prog n 112 vs → ∃ e : Ex, vs = encE e ∧ (e.Ok ∧ e.In) := by
  intro n
  induction n using Nat.strongRecOn with
  | ind n ih =>
  intro vs h
  obtain ⟨m, parts, hn, rfl, hl, hp⟩ := shp_struct Go.Proofs.Tryz.underlying112 h
  match parts, hl with
  | [p0, p1, p2, p3], _ =>
    obtain ⟨op, rfl, _⟩ := shp_int Go.Proofs.Tryz.underlying3 (hp 0 _ p0 rfl rfl).2
    obtain ⟨col, rfl, _⟩ := shp_int Go.Proofs.Tryz.underlying3 (hp 1 _ p1 rfl rfl).2
    obtain ⟨⟨k, n'⟩, rfl, hv⟩ := shp_V2 (hp 2 _ p2 rfl rfl).2
    obtain ⟨m', es, hm, rfl, hle, hpe⟩ := shp_slice Go.Proofs.Tryz.underlying26 (hp 3 _ p3 rfl rfl).2
    rw [bytesE] at hle
    obtain ⟨l, rfl, hq⟩ := map_of (f := encE) (q := fun e => e.Ok ∧ e.In) fun x hx => ih m' (by omega) (hpe x hx).2
    refine ⟨.mk op col k n' l, by rw [encE_mk]; rfl, .mk ?_ fun x hx => (hq x hx).1, .mk hv fun x hx => (hq x hx).2⟩
    simp [reachBytes] at hle
    omega
end
section
theorem bytesD : Program.bytesOf Go.Proofs.Tryz.prog 123 = 16 := by kernel_rfl
theorem shp_D {n : Nat} {vs : List AV} (h : Shp Go.Proofs.Tryz.prog n 123 vs) : ∃ d : Df, vs = encD d ∧ (In64 d.cols ∧ In64 d.rows) := by
  obtain ⟨m, parts, _, rfl, hl, hp⟩ := shp_struct Go.Proofs.Tryz.underlying123 h
  match parts, hl with
  | [p0, p1], _ =>
    obtain ⟨k, rfl, hk⟩ := shp_int Go.Proofs.Tryz.underlying3 (hp 0 _ p0 rfl rfl).2
    obtain ⟨n, rfl, hn⟩ := shp_int Go.Proofs.Tryz.underlying3 (hp 1 _ p1 rfl rfl).2
    exact ⟨⟨k, n⟩, rfl, wf64 hk, wf64 hn⟩
theorem shp_Ds {n : Nat} {vs : List AV} (h : Shp Go.Proofs.Tryz.prog n 22 vs) : ∃ l : List Df, vs = [.sl (l.map encD)] ∧ l.length ≤ 140737488355328 ∧ ∀ d ∈ l, In64 d.cols ∧ In64 d.rows := by
  obtain ⟨m, es, _, rfl, hl, hp⟩ := shp_slice Go.Proofs.Tryz.underlying22 h
  rw [bytesD] at hl
  obtain ⟨l, rfl, hq⟩ := map_of (f := encD) (q := fun d => In64 d.cols ∧ In64 d.rows) fun x hx => shp_D (hp x hx).2
  exact ⟨l, rfl, by simp [reachBytes] at hl; omega, hq⟩
theorem shp_C {n : Nat} {vs : List AV} (h : Shp Go.Proofs.Tryz.prog n 24 vs) : ∃ l : List Df, vs = [.sl (l.map encD)] ∧ l.length ≤ 140737488355328 ∧ ∀ d ∈ l, In64 d.cols ∧ In64 d.rows := by
  obtain ⟨m, parts, _, rfl, hl, hp⟩ := shp_struct Go.Proofs.Tryz.underlying24 h
  match parts, hl with
  | [p0], _ =>
    obtain ⟨l, rfl, h1, h2⟩ := shp_Ds (hp 0 _ p0 rfl rfl).2
    exact ⟨l, rfl, h1, h2⟩
theorem shp_Is2 {n : Nat} {vs : List AV} (h : Shp Go.Proofs.Tryz.prog n 25 vs) : ∃ l : List Int, vs = [.sl (l.map encI)] ∧ l.length ≤ 140737488355328 ∧ ∀ x ∈ l, In64 x := by
  obtain ⟨m, es, _, rfl, hl, hp⟩ := shp_slice Go.Proofs.Tryz.underlying25 h
  rw [bytesI] at hl
  obtain ⟨l, rfl, hq⟩ := map_of (f := encI) (q := fun x => In64 x) fun x hx => let ⟨v, hv, hw⟩ := shp_int Go.Proofs.Tryz.underlying3 (hp x hx).2; ⟨v, hv, wf64 hw⟩
  exact ⟨l, rfl, by simp [reachBytes] at hl; omega, hq⟩
theorem shp_Es {n : Nat} {vs : List AV} (h : Shp Go.Proofs.Tryz.prog n 26 vs) : ∃ l : List Ex, vs = [.sl (l.map encE)] ∧ l.length ≤ 140737488355328 ∧ ∀ e ∈ l, e.Ok ∧ e.In := by
  obtain ⟨m, es, _, rfl, hl, hp⟩ := shp_slice Go.Proofs.Tryz.underlying26 h
  rw [bytesE] at hl
  obtain ⟨l, rfl, hq⟩ := map_of (f := encE) (q := fun e => e.Ok ∧ e.In) fun x hx => shp_E2 m (hp x hx).2
  exact ⟨l, rfl, by simp [reachBytes] at hl; omega, hq⟩
def Qy.In2 (q : Qy) : Prop := q.In ∧ (∀ x ∈ q.occ, In64 x) ∧ In64 q.ord
theorem shp_Q {n : Nat} {vs : List AV} (h : Shp Go.Proofs.Tryz.prog n 28 vs) (c : List Df) (hc : c.length ≤ 140737488355328) : ∃ q : Qy, vs = encQ q ∧ q.Raw c ∧ q.In2 := by
  obtain ⟨m, parts, _, rfl, hl, hp⟩ := shp_struct Go.Proofs.Tryz.underlying28 h
  match parts, hl with
  | [p0, p1, p2, p3, p4, p5], _ =>
    obtain ⟨occ, rfl, h0, i0⟩ := shp_Is2 (hp 0 _ p0 rfl rfl).2
    obtain ⟨p, rfl, h1, i1⟩ := shp_Es (hp 1 _ p1 rfl rfl).2
    obtain ⟨by_, rfl, i2⟩ := shp_int Go.Proofs.Tryz.underlying3 (hp 2 _ p2 rfl rfl).2
    obtain ⟨sums, rfl, h3, i3⟩ := shp_Is2 (hp 3 _ p3 rfl rfl).2
    obtain ⟨out, rfl, h4, i4⟩ := shp_Is2 (hp 4 _ p4 rfl rfl).2
    obtain ⟨ord, rfl, i5⟩ := shp_int Go.Proofs.Tryz.underlying3 (hp 5 _ p5 rfl rfl).2
    exact ⟨⟨occ, p, by_, sums, out, ord⟩, rfl, ⟨hc, h0, h1, h3, h4, fun e he => (i1 e he).1⟩, ⟨i4, i3, wf64 i2⟩, i0, wf64 i5⟩
theorem asV_C (vs : List AV) : asV Go.Proofs.Tryz.prog 24 vs = .agg vs := by simp only [asV, Go.Proofs.Tryz.underlying24]
theorem asV_Q (vs : List AV) : asV Go.Proofs.Tryz.prog 28 vs = .agg vs := by simp only [asV, Go.Proofs.Tryz.underlying28]
theorem told_CQ {ts : List TypeId} {us : List AV} (h : ToldAll Go.Proofs.Tryz.prog (24 :: 28 :: ts) us) :
    ∃ (c : List Df) (q : Qy) (us' : List AV), us = .agg [.sl (c.map encD)] :: .agg (encQ q) :: us' ∧ (c.length ≤ 140737488355328 ∧ ∀ d ∈ c, In64 d.cols ∧ In64 d.rows) ∧ q.Raw c ∧ q.In2 ∧ ToldAll Go.Proofs.Tryz.prog ts us' := by
  simp only [ToldAll] at h
  obtain ⟨n, vs, us1, rfl, h1, n2, vs2, us2, rfl, h2, h3⟩ := h
  obtain ⟨c, rfl, hc, hc2⟩ := shp_C h1
  obtain ⟨q, rfl, hq, hq2⟩ := shp_Q h2 c hc
  exact ⟨c, q, us2, by rw [asV_C, asV_Q], ⟨hc, hc2⟩, hq, hq2, h3⟩
theorem told_I {ts : List TypeId} {us : List AV} (h : ToldAll Go.Proofs.Tryz.prog (3 :: ts) us) : ∃ (n : Int) (us' : List AV), us = .int n :: us' ∧ In64 n ∧ ToldAll Go.Proofs.Tryz.prog ts us' := by
  simp only [ToldAll] at h
  obtain ⟨n, vs, us1, rfl, h1, h3⟩ := h
  obtain ⟨k, rfl, hk⟩ := shp_int Go.Proofs.Tryz.underlying3 h1
  exact ⟨k, us1, by rw [asV_I]; rfl, wf64 hk, h3⟩
theorem told_nil {us : List AV} (h : ToldAll Go.Proofs.Tryz.prog [] us) : us = [] := by simpa only [ToldAll] using h
end
section
attribute [local push_cast] encPl_mk encPl_take encPl_len encPl_one encPls_pure encPl_pure encT_pure encT_len encT_one encT_take
def digT (o : Int) : ByteArray := Utf8.encode (IntKind.wrap .i32 (IntKind.wrap .i64 (48 + o)))
theorem textLeaf_ok (o : Int) : Quiet Go.Proofs.Tryz.prog 118 [.agg (encT (Tr.leaf o))] (.lit (.string (digT o))) := by
  rw [Tr.leaf, encT_mk]
  refine quiet_of (rs := #[.tmp 2]) Go.Proofs.Tryz.func118 rfl rfl rfl mixed rfl rfl fun H hs => ?_
  simp -implicitDefEqProofs only [push_cast, Nat.reduceAdd, Nat.reduceSub, Nat.reduceMul, Nat.reduceLT, Nat.reduceLeDiff, Nat.reduceEqDiff, Nat.reduceBEq, reduceCtorEq, reduceIte, Int.reduceLE, Int.reduceLT, Int.reduceNeg, Int.reduceToNat, digT]
def joinT (a b : ByteArray) : ByteArray := (⟨#[40]⟩ : ByteArray) ++ a ++ b ++ (⟨#[41]⟩ : ByteArray)
theorem text2_ok (a b : Tr) (x y : ByteArray) (hx : x.size ≤ 100) (hy : y.size ≤ 100) (h1 : Quiet Go.Proofs.Tryz.prog 118 [.agg (encT a)] (.lit (.string x))) (h2 : Quiet Go.Proofs.Tryz.prog 118 [.agg (encT b)] (.lit (.string y))) : Quiet Go.Proofs.Tryz.prog 118 [.agg (encT (Tr.join a b))] (.lit (.string (joinT x y))) := by
  rw [Tr.join, encT_mk]
  refine quiet_of (rs := #[.tmp 2]) Go.Proofs.Tryz.func118 rfl rfl rfl mixed rfl rfl fun H hs => ?_
  simp -implicitDefEqProofs only [push_cast, Nat.reduceAdd, Nat.reduceSub, Nat.reduceMul, Nat.reduceLT, Nat.reduceLeDiff, Nat.reduceEqDiff, Nat.reduceBEq, reduceCtorEq, reduceIte, Int.reduceLE, Int.reduceLT, Int.reduceNeg, Int.reduceToNat, Int.reduceEq, List.map_cons, List.map_nil, List.length_cons, List.length_nil, Int.reduceAdd]
  refine areg_at 14 (by kernel_rfl) (by kernel_rfl) ?_
  simp -implicitDefEqProofs only [push_cast, Nat.reduceAdd, Nat.reduceSub, Nat.reduceMul, Nat.reduceLT, Nat.reduceLeDiff, Nat.reduceEqDiff, Nat.reduceBEq, reduceCtorEq, reduceIte, Int.reduceLE, Int.reduceLT, Int.reduceNeg, Int.reduceToNat, encT_pure, encT_len, encT_one, encT_take]
  refine ⟨by decide, ahdq h1 ?_⟩
  simp -implicitDefEqProofs only [push_cast, Nat.reduceAdd, Nat.reduceSub, Nat.reduceMul, Nat.reduceLT, Nat.reduceLeDiff, Nat.reduceEqDiff, Nat.reduceBEq, reduceCtorEq, reduceIte, Int.reduceLE, Int.reduceLT, Int.reduceNeg, Int.reduceToNat, encT_pure, encT_len, encT_one, encT_take, Int.reduceAdd, astr]
  refine ⟨?_, ahdq h2 ?_⟩
  · have : (⟨#[40]⟩ : ByteArray).size = 1 := rfl
    omega
  simp -implicitDefEqProofs only [push_cast, Nat.reduceAdd, Nat.reduceSub, Nat.reduceMul, Nat.reduceLT, Nat.reduceLeDiff, Nat.reduceEqDiff, Nat.reduceBEq, reduceCtorEq, reduceIte, Int.reduceLE, Int.reduceLT, Int.reduceNeg, Int.reduceToNat, encT_pure, encT_len, encT_one, encT_take, astr, joinT, ByteArray.size_append]
  have : (⟨#[40]⟩ : ByteArray).size = 1 := rfl
  have : (⟨#[41]⟩ : ByteArray).size = 1 := rfl
  omega
theorem text01_ok : Quiet Go.Proofs.Tryz.prog 59 [.agg (encT (.join (.leaf 0) (.leaf 1)))] (.lit (.string ⟨#[40, 48, 49, 41]⟩)) := by
  have hM := MayT_ok (.join (.leaf 0) (.leaf 1)) (by have := treeP_ok (.mk 1 0 0 0 [.mk 0 0 0 0 [], .mk 0 1 0 0 []]); exact this)
  have hm : (Tr.join (.leaf 0) (.leaf 1)).may = true := by decide +kernel
  rw [hm] at hM
  have hx := text2_ok (.leaf 0) (.leaf 1) _ _ (by decide +kernel) (by decide +kernel) (textLeaf_ok 0) (textLeaf_ok 1)
  have hj : joinT (digT 0) (digT 1) = ⟨#[40, 48, 49, 41]⟩ := by decide +kernel
  rw [hj] at hx
  generalize Tr.join (.leaf 0) (.leaf 1) = t at hM hx ⊢
  refine quiet_of (rs := #[.tmp 2]) Go.Proofs.Tryz.func59 rfl rfl rfl mixed rfl rfl fun H hs => ?_
  simp -implicitDefEqProofs only [push_cast, Nat.reduceAdd, Nat.reduceSub, Nat.reduceMul, Nat.reduceLT, Nat.reduceLeDiff, Nat.reduceEqDiff, Nat.reduceBEq, reduceCtorEq, reduceIte, Int.reduceLE, Int.reduceLT, Int.reduceNeg, Int.reduceToNat, encT_pure, encT_len, encT_one, encT_take]
  refine callq hM ?_
  simp -implicitDefEqProofs only [push_cast, Nat.reduceAdd, Nat.reduceSub, Nat.reduceMul, Nat.reduceLT, Nat.reduceLeDiff, Nat.reduceEqDiff, Nat.reduceBEq, reduceCtorEq, reduceIte, Int.reduceLE, Int.reduceLT, Int.reduceNeg, Int.reduceToNat, encT_pure, encT_len, encT_one, encT_take]
  refine callq hx ?_
  simp -implicitDefEqProofs only [push_cast, Nat.reduceAdd, Nat.reduceSub, Nat.reduceMul, Nat.reduceLT, Nat.reduceLeDiff, Nat.reduceEqDiff, Nat.reduceBEq, reduceCtorEq, reduceIte, Int.reduceLE, Int.reduceLT, Int.reduceNeg, Int.reduceToNat]
def q11 : Qy := ⟨[0, 1], [], -1, [], [0], -1⟩
def p11 : Pl := .mk 1 0 0 0 [.mk 0 0 0 0 [], .mk 0 1 0 0 []]
theorem q11_may : q11.may catTwo = true := by decide +kernel
theorem q11_raw (c : List Df) (hc : c.length ≤ 140737488355328) : q11.Raw c := ⟨hc, by decide, by decide, by decide, by decide, by intro e he; cases he⟩
theorem q11_few : fewQ catTwo q11 = true := by decide
theorem q11_ok : q11.Ok := ok_of_few (q11_raw catTwo (by decide)) q11_few
theorem plOk0 {op occ a b : Int} : Pl.Ok (.mk op occ a b []) := .mk (by decide) (by simp)
theorem p11_ok : p11.Ok := .mk (by decide) (by
  intro x hx
  simp only [List.mem_cons, List.not_mem_nil, or_false] at hx
  rcases hx with rfl | rfl <;> exact plOk0)
theorem p11_tree : p11.tree = (.join (.leaf 0) (.leaf 1), true) := by
  have h : p11.tree.2 = true := by decide +kernel
  have h1 := tree_1 h
  rw [← h, ← show treeP p11 = .join (.leaf 0) (.leaf 1) by rfl, ← h1]
theorem p11_may : mayP catTwo q11 p11 = true := by
  unfold mayP
  rw [q11_may, p11_tree]
  decide +kernel
theorem p11_cost : costP catTwo q11 p11 = 1110 := by
  rw [costP, p11_may]
  decide +kernel
theorem p11_all : allP catTwo q11 p11 0 false = 1110 := by
  have hf : fineP catTwo q11 p11 0 false = true := by
    rw [fineP, p11_may]
    decide +kernel
  rw [allP, hf, if_pos rfl, allL, p11_cost]
  decide +kernel
theorem p11_order : p11.order = -1 := by decide +kernel
set_option maxHeartbeats 2000000 in
theorem awake11_ok : Quiet Go.Proofs.Tryz.prog 15 [] (.bool true) := by
  have hT := Tree_ok p11 p11_ok
  rw [p11_tree] at hT
  have hM := MayPl_ok catTwo (by decide) q11 q11_ok p11 p11_ok
  rw [p11_may] at hM
  have hC := CostPl_ok catTwo (by decide) q11 q11_ok p11 p11_ok
  rw [p11_cost] at hC
  have hO := Order_ok p11 p11_ok
  rw [p11_order] at hO
  have hA := AllPl_ok catTwo (by decide) q11 q11_ok p11 p11_ok 0 false
  rw [p11_all] at hA
  refine quiet_of (rs := #[.tmp 0]) Go.Proofs.Tryz.func15 rfl rfl rfl mixed rfl rfl fun H hs => ?_
  simp -implicitDefEqProofs only [push_cast, Nat.reduceAdd, Nat.reduceSub, Nat.reduceMul, Nat.reduceLT, Nat.reduceLeDiff, Nat.reduceEqDiff, Nat.reduceBEq, reduceCtorEq, reduceIte, Int.reduceLE, Int.reduceLT, Int.reduceNeg, Int.reduceToNat]
  refine callq Two_ok ?_
  simp -implicitDefEqProofs only [push_cast, Nat.reduceAdd, Nat.reduceSub, Nat.reduceMul, Nat.reduceLT, Nat.reduceLeDiff, Nat.reduceEqDiff, Nat.reduceBEq, reduceCtorEq, reduceIte, Int.reduceLE, Int.reduceLT, Int.reduceNeg, Int.reduceToNat]
  refine ⟨rfl, ?_⟩
  refine fzk H 5 2 [.agg (encPl p11)] (by rfl) (by omega) (by simp) ?_ ?_
  · (try simp -implicitDefEqProofs only [push_cast, Nat.reduceAdd, Nat.reduceSub, Nat.reduceMul, Nat.reduceLT, Nat.reduceLeDiff, Nat.reduceEqDiff, Nat.reduceBEq, reduceCtorEq, reduceIte, Int.reduceLE, Int.reduceLT, Int.reduceNeg, Int.reduceToNat, p11, q11, encQ, encI, encD, encW, catTwo, trO, List.map_cons, List.map_nil, List.set_cons_zero, List.set_cons_succ, List.cons_append, List.nil_append])
  refine callq hT ?_
  simp -implicitDefEqProofs only [push_cast, Nat.reduceAdd, Nat.reduceSub, Nat.reduceMul, Nat.reduceLT, Nat.reduceLeDiff, Nat.reduceEqDiff, Nat.reduceBEq, reduceCtorEq, reduceIte, Int.reduceLE, Int.reduceLT, Int.reduceNeg, Int.reduceToNat, encT_pure, encT_len, encT_one, encT_take, List.set_cons_zero, List.set_cons_succ]
  refine fzk H 2 2 [.agg [.sl (catTwo.map encD)], .agg [.sl ([0, 1].map encI), .nilS, .int (-1), .nilS, .rsl (H.nxt + 3) 1 0 1, .int (-1)], .agg (encPl p11)] (by rfl) (by omega) (by simp) ?_ ?_
  · (try simp -implicitDefEqProofs only [push_cast, Nat.reduceAdd, Nat.reduceSub, Nat.reduceMul, Nat.reduceLT, Nat.reduceLeDiff, Nat.reduceEqDiff, Nat.reduceBEq, reduceCtorEq, reduceIte, Int.reduceLE, Int.reduceLT, Int.reduceNeg, Int.reduceToNat, p11, q11, encQ, encI, encD, encW, catTwo, trO, List.map_cons, List.map_nil, List.set_cons_zero, List.set_cons_succ, List.cons_append, List.nil_append])
  refine fzk H 3 1 [.agg [.sl (catTwo.map encD)], .agg (encQ q11), .agg (encPl p11)] (by rfl) (by omega) (by simp) ?_ ?_
  · (try simp -implicitDefEqProofs only [push_cast, Nat.reduceAdd, Nat.reduceSub, Nat.reduceMul, Nat.reduceLT, Nat.reduceLeDiff, Nat.reduceEqDiff, Nat.reduceBEq, reduceCtorEq, reduceIte, Int.reduceLE, Int.reduceLT, Int.reduceNeg, Int.reduceToNat, p11, q11, encQ, encI, encD, encW, catTwo, trO, List.map_cons, List.map_nil, List.set_cons_zero, List.set_cons_succ, List.cons_append, List.nil_append])
  refine callq hM ?_
  simp -implicitDefEqProofs only [push_cast, Nat.reduceAdd, Nat.reduceSub, Nat.reduceMul, Nat.reduceLT, Nat.reduceLeDiff, Nat.reduceEqDiff, Nat.reduceBEq, reduceCtorEq, reduceIte, Int.reduceLE, Int.reduceLT, Int.reduceNeg, Int.reduceToNat, encT_pure, encT_len, encT_one, encT_take, List.set_cons_zero, List.set_cons_succ]
  refine gcalla [.agg [.sl (catTwo.map encD)], .agg (encQ q11), .agg (encPl p11)] (.int 1110) (fun _ => trivial) (fun _ => hC) ?_ ?_
  · (try simp -implicitDefEqProofs only [push_cast, Nat.reduceAdd, Nat.reduceSub, Nat.reduceMul, Nat.reduceLT, Nat.reduceLeDiff, Nat.reduceEqDiff, Nat.reduceBEq, reduceCtorEq, reduceIte, Int.reduceLE, Int.reduceLT, Int.reduceNeg, Int.reduceToNat, p11, q11, encQ, encI, encD, encW, catTwo, trO, List.map_cons, List.map_nil, List.set_cons_zero, List.set_cons_succ, List.cons_append, List.nil_append])
  simp -implicitDefEqProofs only [push_cast, Nat.reduceAdd, Nat.reduceSub, Nat.reduceMul, Nat.reduceLT, Nat.reduceLeDiff, Nat.reduceEqDiff, Nat.reduceBEq, reduceCtorEq, reduceIte, Int.reduceLE, Int.reduceLT, Int.reduceNeg, Int.reduceToNat, encT_pure, encT_len, encT_one, encT_take, List.set_cons_zero, List.set_cons_succ]
  refine gcallq' (.lit (.string ⟨#[40, 48, 49, 41]⟩)) (fun _ => trivial) (fun _ => text01_ok) ?_
  simp -implicitDefEqProofs only [push_cast, Nat.reduceAdd, Nat.reduceSub, Nat.reduceMul, Nat.reduceLT, Nat.reduceLeDiff, Nat.reduceEqDiff, Nat.reduceBEq, reduceCtorEq, reduceIte, Int.reduceLE, Int.reduceLT, Int.reduceNeg, Int.reduceToNat, encT_pure, encT_len, encT_one, encT_take, List.set_cons_zero, List.set_cons_succ, astr]
  refine gcalla [.agg (encPl p11)] (.int (-1)) (fun _ => trivial) (fun _ => hO) ?_ ?_
  · (try simp -implicitDefEqProofs only [push_cast, Nat.reduceAdd, Nat.reduceSub, Nat.reduceMul, Nat.reduceLT, Nat.reduceLeDiff, Nat.reduceEqDiff, Nat.reduceBEq, reduceCtorEq, reduceIte, Int.reduceLE, Int.reduceLT, Int.reduceNeg, Int.reduceToNat, p11, q11, encQ, encI, encD, encW, catTwo, trO, List.map_cons, List.map_nil, List.set_cons_zero, List.set_cons_succ, List.cons_append, List.nil_append])
  simp -implicitDefEqProofs only [push_cast, Nat.reduceAdd, Nat.reduceSub, Nat.reduceMul, Nat.reduceLT, Nat.reduceLeDiff, Nat.reduceEqDiff, Nat.reduceBEq, reduceCtorEq, reduceIte, Int.reduceLE, Int.reduceLT, Int.reduceNeg, Int.reduceToNat, encT_pure, encT_len, encT_one, encT_take, List.set_cons_zero, List.set_cons_succ]
  refine gcalla [.agg [.sl (catTwo.map encD)], .agg (encQ q11), .agg (encW p11 0 false)] (.int 1110) (fun _ => trivial) (fun _ => hA) ?_ ?_
  · (try simp -implicitDefEqProofs only [push_cast, Nat.reduceAdd, Nat.reduceSub, Nat.reduceMul, Nat.reduceLT, Nat.reduceLeDiff, Nat.reduceEqDiff, Nat.reduceBEq, reduceCtorEq, reduceIte, Int.reduceLE, Int.reduceLT, Int.reduceNeg, Int.reduceToNat, p11, q11, encQ, encI, encD, encW, catTwo, trO, List.map_cons, List.map_nil, List.set_cons_zero, List.set_cons_succ, List.cons_append, List.nil_append])
  simp -implicitDefEqProofs only [push_cast, Nat.reduceAdd, Nat.reduceSub, Nat.reduceMul, Nat.reduceLT, Nat.reduceLeDiff, Nat.reduceEqDiff, Nat.reduceBEq, reduceCtorEq, reduceIte, Int.reduceLE, Int.reduceLT, Int.reduceNeg, Int.reduceToNat, encT_pure, encT_len, encT_one, encT_take, List.set_cons_zero, List.set_cons_succ]
theorem small11_ok (c : List Df) (q : Qy) (hr : q.Raw c) (p : Pl) (hok : p.Ok) : Quiet Go.Proofs.Tryz.prog 16 [.agg [.sl (c.map encD)], .agg (encQ q), .agg (encPl p)] (.bool (fewQ c q && decide ((parts p).length ≤ 100))) := by
  have hfar := Far_ok c q hr
  have hz := sizeP_ok p 100 (by omega) (by omega) hok
  have he := szP_eq p 100 (by omega)
  refine quiet_of (rs := #[.tmp 6]) Go.Proofs.Tryz.func16 rfl rfl rfl mixed rfl rfl fun H hs => ?_
  simp -implicitDefEqProofs only [push_cast, Nat.reduceAdd, Nat.reduceSub, Nat.reduceMul, Nat.reduceLT, Nat.reduceLeDiff, Nat.reduceEqDiff, Nat.reduceBEq, reduceCtorEq, reduceIte, Int.reduceLE, Int.reduceLT, Int.reduceNeg, Int.reduceToNat, encQ]
  refine callq hfar ?_
  simp -implicitDefEqProofs only [push_cast, Nat.reduceAdd, Nat.reduceSub, Nat.reduceMul, Nat.reduceLT, Nat.reduceLeDiff, Nat.reduceEqDiff, Nat.reduceBEq, reduceCtorEq, reduceIte, Int.reduceLE, Int.reduceLT, Int.reduceNeg, Int.reduceToNat, encQ]
  refine gcallq' (.int (szP p 100)) (fun h => by simpa using h) (fun _ => hz) ?_
  have hd : decide (szP p 100 ≤ 100) = decide ((parts p).length ≤ 100) := by rw [he, decide_eq_decide]; omega
  cases hf : fewQ c q
  · simp -implicitDefEqProofs only [push_cast, Nat.reduceAdd, Nat.reduceSub, Nat.reduceMul, Nat.reduceLT, Nat.reduceLeDiff, Nat.reduceEqDiff, Nat.reduceBEq, reduceCtorEq, reduceIte, Int.reduceLE, Int.reduceLT, Int.reduceNeg, Int.reduceToNat, encQ, Bool.false_eq_true, if_false, Int.reduceEq]
  · simp -implicitDefEqProofs only [push_cast, Nat.reduceAdd, Nat.reduceSub, Nat.reduceMul, Nat.reduceLT, Nat.reduceLeDiff, Nat.reduceEqDiff, Nat.reduceBEq, reduceCtorEq, reduceIte, Int.reduceLE, Int.reduceLT, Int.reduceNeg, Int.reduceToNat, encQ, if_true]
    exact hd
theorem bytesPl : Program.bytesOf Go.Proofs.Tryz.prog 32 = 56 := by kernel_rfl
theorem shp_I2 {n : Nat} {vs : List AV} (h : Shp Go.Proofs.Tryz.prog n 29 vs) : ∃ a b : Int, vs = [.int a, .int b] := by
  obtain ⟨m, parts, _, rfl, hl, hp⟩ := shp_array Go.Proofs.Tryz.underlying29 h
  match parts, hl with
  | [p0, p1], _ =>
    obtain ⟨a, rfl, _⟩ := shp_int Go.Proofs.Tryz.underlying3 (hp p0 (by simp)).2
    obtain ⟨b, rfl, _⟩ := shp_int Go.Proofs.Tryz.underlying3 (hp p1 (by simp)).2
    exact ⟨a, b, rfl⟩
theorem shp_Pl : ∀ (n : Nat) {vs : List AV}, Shp Go.Proofs.Tryz.prog n 32 vs → ∃ p : Pl, vs = encPl p ∧ p.Ok := by
  intro n
  induction n using Nat.strongRecOn with
  | ind n ih =>
  intro vs h
  obtain ⟨m, parts, hn, rfl, hl, hp⟩ := shp_struct Go.Proofs.Tryz.underlying32 h
  match parts, hl with
  | [p0, p1, p2, p3], _ =>
    obtain ⟨op, rfl, _⟩ := shp_int Go.Proofs.Tryz.underlying3 (hp 0 _ p0 rfl rfl).2
    obtain ⟨occ, rfl, _⟩ := shp_int Go.Proofs.Tryz.underlying3 (hp 1 _ p1 rfl rfl).2
    obtain ⟨a, b, rfl⟩ := shp_I2 (hp 2 _ p2 rfl rfl).2
    obtain ⟨m', es, hm, rfl, hle, hpe⟩ := shp_slice Go.Proofs.Tryz.underlying30 (hp 3 _ p3 rfl rfl).2
    rw [bytesPl] at hle
    obtain ⟨l, rfl, hq⟩ := map_of (f := encPl) (q := fun e => e.Ok) fun x hx => ih m' (by omega) (hpe x hx).2
    refine ⟨.mk op occ a b l, by rw [encPl_mk]; rfl, .mk ?_ fun x hx => hq x hx⟩
    simp [reachBytes] at hle
    omega
theorem shp_W {n : Nat} {vs : List AV} (h : Shp Go.Proofs.Tryz.prog n 52 vs) : ∃ (p : Pl) (e : Int) (s : Bool), vs = encW p e s ∧ p.Ok := by
  obtain ⟨m, parts, hn, rfl, hl, hp⟩ := shp_struct Go.Proofs.Tryz.underlying52 h
  match parts, hl with
  | [p0, p1, p2], _ =>
    obtain ⟨p, rfl, hok⟩ := shp_Pl _ (hp 0 _ p0 rfl rfl).2
    obtain ⟨e, rfl, _⟩ := shp_int Go.Proofs.Tryz.underlying3 (hp 1 _ p1 rfl rfl).2
    obtain ⟨s, rfl⟩ := shp_bool Go.Proofs.Tryz.underlying4 (hp 2 _ p2 rfl rfl).2
    exact ⟨p, e, s, by simp [encW], hok⟩
theorem asV_Pl (vs : List AV) : asV Go.Proofs.Tryz.prog 32 vs = .agg vs := by simp only [asV, Go.Proofs.Tryz.underlying32]
theorem asV_W (vs : List AV) : asV Go.Proofs.Tryz.prog 52 vs = .agg vs := by simp only [asV, Go.Proofs.Tryz.underlying52]
theorem told_Pl {ts : List TypeId} {us : List AV} (h : ToldAll Go.Proofs.Tryz.prog (32 :: ts) us) : ∃ (p : Pl) (us' : List AV), us = .agg (encPl p) :: us' ∧ p.Ok ∧ ToldAll Go.Proofs.Tryz.prog ts us' := by
  simp only [ToldAll] at h
  obtain ⟨n, vs, us1, rfl, h1, h3⟩ := h
  obtain ⟨p, rfl, hk⟩ := shp_Pl n h1
  exact ⟨p, us1, by rw [asV_Pl], hk, h3⟩
theorem told_W {ts : List TypeId} {us : List AV} (h : ToldAll Go.Proofs.Tryz.prog (52 :: ts) us) : ∃ (p : Pl) (e : Int) (s : Bool) (us' : List AV), us = .agg (encW p e s) :: us' ∧ p.Ok ∧ ToldAll Go.Proofs.Tryz.prog ts us' := by
  simp only [ToldAll] at h
  obtain ⟨n, vs, us1, rfl, h1, h3⟩ := h
  obtain ⟨p, e, s, rfl, hk⟩ := shp_W h1
  exact ⟨p, e, s, us1, by rw [asV_W], hk, h3⟩
end
section
theorem bor_lt {a b : Int} (a0 : 0 ≤ a) (a1 : a ≤ 15) (b0 : 0 ≤ b) (b1 : b ≤ 15) {n : Nat} (hn : n ≤ 4) : bor .i64 a b < 2 ^ n ↔ a < 2 ^ n ∧ b < 2 ^ n := by
  obtain ⟨i, rfl⟩ : ∃ i : Fin 16, a = (i.val : Int) := ⟨⟨a.toNat, by omega⟩, by simp; omega⟩
  obtain ⟨j, rfl⟩ : ∃ j : Fin 16, b = (j.val : Int) := ⟨⟨b.toNat, by omega⟩, by simp; omega⟩
  obtain ⟨k, rfl⟩ : ∃ k : Fin 5, n = k.val := ⟨⟨n, by omega⟩, rfl⟩
  clear a0 a1 b0 b1 hn
  revert i j k
  decide +kernel
theorem bor_swap {a b : Int} (a0 : 0 ≤ a) (a1 : a ≤ 15) (b0 : 0 ≤ b) (b1 : b ≤ 15) : bor .i64 a b = bor .i64 b a ∧ band .i64 a b = band .i64 b a := by
  obtain ⟨i, rfl⟩ : ∃ i : Fin 16, a = (i.val : Int) := ⟨⟨a.toNat, by omega⟩, by simp; omega⟩
  obtain ⟨j, rfl⟩ : ∃ j : Fin 16, b = (j.val : Int) := ⟨⟨b.toNat, by omega⟩, by simp; omega⟩
  clear a0 a1 b0 b1
  revert i j
  decide +kernel
theorem mayP_iff {c : List Df} {q : Qy} {p : Pl} : mayP c q p = true ↔ q.may c = true ∧ p.few = true ∧ (treeP p).may = true ∧ (treeP p).set < 2 ^ q.occ.length ∧ (parts p).all (fitP c q) = true := by
  unfold mayP
  rw [tree_iff]
  simp only [Bool.and_eq_true, decide_eq_true_eq]
  constructor
  · rintro ⟨⟨⟨⟨h1, h2⟩, h3⟩, h4⟩, h5⟩
    exact ⟨h3, h1, h2, h4, h5⟩
  · rintro ⟨h3, h1, h2, h4, h5⟩
    exact ⟨⟨⟨⟨h1, h2⟩, h3⟩, h4⟩, h5⟩
theorem may_len {c : List Df} {q : Qy} (h : q.may c = true) : q.occ.length ≤ 4 := (may_split h).2.2.1
theorem mayP_part {c : List Df} {q : Qy} {op occ a b : Int} {l : List Pl} (h : mayP c q (.mk op occ a b l) = true) : ∀ x ∈ l, mayP c q x = true := by
  obtain ⟨h1, h2, h3, h4, h5⟩ := mayP_iff.1 h
  intro x hx
  have hn := may_len h1
  refine mayP_iff.2 ⟨h1, few_part h2 hx, part_may (few_own h2) h3 x hx, ?_, ?_⟩
  · rcases form_split (few_own h2) with ⟨_, rfl⟩ | ⟨_, y, rfl⟩ | ⟨_, y, z, rfl⟩
    · cases hx
    · simp only [List.mem_singleton] at hx
      subst hx
      rwa [treeP] at h4
    · rw [treeP] at h3 h4
      obtain ⟨_, _, _, hs⟩ := join_may h3
      have ry := (treeP y).set_range
      have rz := (treeP z).set_range
      rw [hs, bor_lt ry.1 ry.2 rz.1 rz.2 hn] at h4
      simp only [List.mem_cons, List.not_mem_nil, or_false] at hx
      rcases hx with rfl | rfl
      · exact h4.1
      · exact h4.2
  · rw [parts_mk] at h5
    simp only [List.all_cons, Bool.and_eq_true, List.all_eq_true] at h5 ⊢
    exact fun y hy => h5.2 y (partsPl_mem hx y hy)
theorem fit_own {c : List Df} {q : Qy} {p : Pl} (h : mayP c q p = true) : fitP c q p = true := by
  obtain ⟨_, _, _, _, h5⟩ := mayP_iff.1 h
  obtain ⟨op, occ, a, b, l⟩ := p
  rw [parts_all, Bool.and_eq_true] at h5
  exact h5.1
theorem costP_range (c : List Df) (q : Qy) (p : Pl) : 0 ≤ costP c q p ∧ costP c q p ≤ capK := by
  unfold costP
  split
  · exact addK_range _
  · unfold capK; omega
theorem costP_tree {c : List Df} {q : Qy} {p : Pl} (h : mayP c q p = true) : costP c q p = costT (ownC c q) p := by
  rw [costP, if_pos h]
  exact cost_tree (mayP_iff.1 h).2.1
theorem costP_mk {c : List Df} {q : Qy} {op occ a b : Int} {l : List Pl} (h : mayP c q (.mk op occ a b l) = true) : costP c q (.mk op occ a b l) = addK (l.map (costP c q) ++ [ownC c q (.mk op occ a b l)]) := by
  have hs := mayP_part h
  rw [costP_tree h]
  rcases form_split (few_own (mayP_iff.1 h).2.1) with ⟨_, rfl⟩ | ⟨_, x, rfl⟩ | ⟨_, x, y, rfl⟩
  · have ho := ownC_range c q (.mk op occ a b [])
    rw [costT, List.map_nil, List.nil_append, addK_eq]
    simp only [sumK, List.map_cons, List.map_nil, List.foldr_cons, List.foldr_nil]
    omega
  · rw [costT, List.map_cons, List.map_nil, costP_tree (hs x (by simp))]
    rfl
  · rw [costT, List.map_cons, List.map_cons, List.map_nil, costP_tree (hs x (by simp)), costP_tree (hs y (by simp))]
    rfl
theorem addK_more (l m : List Int) : addK l ≤ addK (l ++ m) := by
  have := sumK_pos m
  rw [addK_eq, addK_eq, sumK_append]
  omega
theorem addK_mem {l : List Int} {x : Int} (h : x ∈ l) (h1 : x ≤ capK) : x ≤ addK l := by
  rw [addK_eq]
  have : x ≤ sumK l := by
    induction l with
    | nil => cases h
    | cons y l ih =>
      have hp := sumK_pos l
      have e : sumK (y :: l) = max y 0 + sumK l := rfl
      rw [e]
      cases h with
      | head => omega
      | tail _ h => have := ih h; omega
  omega
theorem addK_zero (l : List Int) : addK (0 :: l) = addK l := by
  rw [addK_eq, addK_eq]
  have e : sumK (0 :: l) = max 0 0 + sumK l := rfl
  rw [e]
  congr 1
  omega
theorem cost_sub {c : List Df} {q : Qy} {op occ a b : Int} {l : List Pl} (h : mayP c q (.mk op occ a b l) = true) : (∀ x ∈ l, costP c q x ≤ costP c q (.mk op occ a b l)) ∧ addK (0 :: l.map (costP c q)) ≤ costP c q (.mk op occ a b l) := by
  rw [costP_mk h]
  exact ⟨fun x hx => addK_mem (List.mem_append.2 (.inl (List.mem_map.2 ⟨x, hx, rfl⟩))) (costP_range c q x).2, by rw [addK_zero]; exact addK_more _ _⟩
theorem nest_may {c : List Df} {q : Qy} {a b : Pl} (ha : mayP c q a = true) (hb : mayP c q b = true) (h0 : band .i64 (treeP a).set (treeP b).set = 0) (hf : (Pl.mk 1 0 0 0 [a, b]).few = true) : mayP c q (.mk 1 0 0 0 [a, b]) = true := by
  obtain ⟨h1, _, h3, h4, h5⟩ := mayP_iff.1 ha
  obtain ⟨_, _, k3, k4, k5⟩ := mayP_iff.1 hb
  have hj := may_join h3 k3 h0
  have ra := (treeP a).set_range
  have rb := (treeP b).set_range
  refine mayP_iff.2 ⟨h1, hf, by rw [treeP]; exact hj, ?_, ?_⟩
  · rw [treeP, (join_may hj).2.2.2, bor_lt ra.1 ra.2 rb.1 rb.2 (may_len h1)]
    exact ⟨h4, k4⟩
  · rw [parts_all, partsPl_cons, partsPl_cons, partsPl, List.append_nil, List.all_append, h5, k5]
    rfl
theorem nest_not {c : List Df} {q : Qy} {a b : Pl} (h : band .i64 (treeP a).set (treeP b).set ≠ 0 ∨ (Pl.mk 1 0 0 0 [a, b]).few = false) : mayP c q (.mk 1 0 0 0 [a, b]) = false := by
  cases hm : mayP c q (.mk 1 0 0 0 [a, b])
  · rfl
  obtain ⟨_, h2, h3, _, _⟩ := mayP_iff.1 hm
  rw [treeP] at h3
  rcases h with h | h
  · exact absurd (join_may h3).2.2.1 h
  · rw [h] at h2; cases h2
theorem nest_cost {c : List Df} {q : Qy} {a b : Pl} (h : mayP c q (.mk 1 0 0 0 [a, b]) = true) : costP c q (.mk 1 0 0 0 [a, b]) = addK [costP c q a, costP c q b, nestK (rowsQ c q (treeP a).set) (rowsQ c q (treeP b).set)] := by
  rw [costP_mk h]
  rfl
theorem nest_order {a b : Pl} (h : (Pl.mk 1 0 0 0 [a, b]).few = true) : (Pl.mk 1 0 0 0 [a, b]).order = a.order := by
  rw [Pl.order, Pl.order, if_pos h, if_pos (few_part h (by simp)), orderL, if_pos rfl]
theorem sort_may {c : List Df} {q : Qy} {x : Pl} {col : Int} (hx : mayP c q x = true) (hf : (Pl.mk 4 0 col 0 [x]).few = true) : mayP c q (.mk 4 0 col 0 [x]) = (q.cols c (treeP x).set).contains col := by
  obtain ⟨h1, _, h3, h4, h5⟩ := mayP_iff.1 hx
  rw [Bool.eq_iff_iff, mayP_iff, treeP, parts_all, partsPl_cons, partsPl, List.append_nil, h5, Bool.and_true]
  exact ⟨fun h => h.2.2.2.2, fun h => ⟨h1, hf, h3, h4, h⟩⟩
theorem sort_not {c : List Df} {q : Qy} {p : Pl} (h : p.few = false) : mayP c q p = false := by
  cases hm : mayP c q p
  · rfl
  have := (mayP_iff.1 hm).2.1
  rw [h] at this
  cases this
theorem sort_cost {c : List Df} {q : Qy} {x : Pl} {col b : Int} (h : mayP c q (.mk 4 0 col b [x]) = true) : costP c q (.mk 4 0 col b [x]) = addK [costP c q x, sortK (rowsQ c q (treeP x).set)] := by
  rw [costP_mk h]
  rfl
theorem sort_order {x : Pl} {col b : Int} (h : (Pl.mk 4 0 col b [x]).few = true) : (Pl.mk 4 0 col b [x]).order = col := by
  rw [Pl.order, if_pos h, orderL, if_neg (by decide), if_pos (.inl rfl)]
theorem few_two {op occ a b op' occ' a' b' : Int} {x y u v : Pl} (h : (Pl.mk op occ a b [x, y]).few = true) (huv : (u = x ∧ v = y) ∨ (u = y ∧ v = x)) (hf : (Pl.mk op' occ' a' b' [u, v]).form = true) : (Pl.mk op' occ' a' b' [u, v]).few = true := by
  unfold Pl.few at h ⊢
  rw [parts_mk, partsPl_cons, partsPl_cons, partsPl, List.append_nil] at h ⊢
  simp only [Bool.and_eq_true, decide_eq_true_eq, List.all_cons, List.all_append, List.length_cons, List.length_append] at h ⊢
  rcases huv with ⟨rfl, rfl⟩ | ⟨rfl, rfl⟩
  · exact ⟨h.1, hf, h.2.2⟩
  · exact ⟨by omega, hf, h.2.2.2, h.2.2.1⟩
theorem form_two {op a b : Int} {x y : Pl} (ho : op = 2 ∨ op = 3) : (Pl.mk op 0 a b [x, y]).form = true := by
  rcases ho with rfl | rfl <;> simp [Pl.form, Pl.op, Pl.l, Pl.occ, plansP]
theorem two_may {c : List Df} {q : Qy} {op occ a b op' occ' a' b' : Int} {x y : Pl} (h : mayP c q (.mk op occ a b [x, y]) = true) (hf : (Pl.mk op' occ' a' b' [x, y]).form = true) (hfit : fitP c q (.mk op' occ' a' b' [x, y]) = true) : mayP c q (.mk op' occ' a' b' [x, y]) = true := by
  obtain ⟨h1, h2, h3, h4, h5⟩ := mayP_iff.1 h
  refine mayP_iff.2 ⟨h1, few_two h2 (.inl ⟨rfl, rfl⟩) hf, by rw [treeP] at h3 ⊢; exact h3, by rw [treeP] at h4 ⊢; exact h4, ?_⟩
  rw [parts_all, Bool.and_eq_true] at h5 ⊢
  exact ⟨hfit, h5.2⟩
theorem fit_two {c : List Df} {q : Qy} {op occ a b : Int} {x y : Pl} (ho : op = 2 ∨ op = 3) (h : fitP c q (.mk op occ a b [x, y]) = true) : (q.pairs (treeP x).set (treeP y).set).contains (a, b) = true ∧ (op = 2 ∨ (x.order = a ∧ y.order = b)) := by
  have e : fitP c q (.mk op occ a b [x, y]) = (if op = 1 then true else (q.pairs (treeP x).set (treeP y).set).contains (a, b) && (decide (op = 2) || (decide (x.order = a) && decide (y.order = b)))) := rfl
  rw [e, if_neg (by omega)] at h
  simpa only [Bool.and_eq_true, Bool.or_eq_true, decide_eq_true_eq] using h
theorem fit_of {c : List Df} {q : Qy} {op occ a b : Int} {x y : Pl} (h1 : (q.pairs (treeP x).set (treeP y).set).contains (a, b) = true) (h2 : op = 2 ∨ (x.order = a ∧ y.order = b)) : fitP c q (.mk op occ a b [x, y]) = true := by
  have e : fitP c q (.mk op occ a b [x, y]) = (if op = 1 then true else (q.pairs (treeP x).set (treeP y).set).contains (a, b) && (decide (op = 2) || (decide (x.order = a) && decide (y.order = b)))) := rfl
  rw [e, h1]
  split
  · rfl
  · simpa only [Bool.and_eq_true, Bool.or_eq_true, decide_eq_true_eq, Bool.true_and] using h2
theorem pairs_back {q : Qy} {s t : Int} (h : band .i64 s t = 0) {a b : Int} (h1 : (q.pairs s t).contains (a, b) = true) : (q.pairs t s).contains (b, a) = true := by
  rw [pairs_swap q (apart_band h), List.contains_iff_mem, List.mem_map]
  exact ⟨(a, b), List.contains_iff_mem.1 h1, rfl⟩
theorem back_mayP {c : List Df} {q : Qy} {op occ a b : Int} {x y : Pl} (ho : op = 2 ∨ op = 3) (h : mayP c q (.mk op occ a b [x, y]) = true) : mayP c q (.mk op 0 b a [y, x]) = true ∧ (treeP (.mk op 0 b a [y, x])).set = (treeP (.mk op occ a b [x, y])).set := by
  obtain ⟨h1, h2, h3, h4, h5⟩ := mayP_iff.1 h
  have hft := fit_two ho (fit_own h)
  rw [treeP] at h3 h4
  obtain ⟨mx, my, h0, hs⟩ := join_may h3
  have rx := (treeP x).set_range
  have ry := (treeP y).set_range
  have hb := bor_swap rx.1 rx.2 ry.1 ry.2
  have hj : (Tr.join (treeP y) (treeP x)).may = true := may_join my mx (by rw [← hb.2]; exact h0)
  have hsj := (join_may hj).2.2.2
  refine ⟨mayP_iff.2 ⟨h1, few_two h2 (.inr ⟨rfl, rfl⟩) (form_two ho), by rw [treeP]; exact hj, ?_, ?_⟩, ?_⟩
  · rw [treeP, hsj, ← hb.1, ← hs]; exact h4
  · rw [parts_all, partsPl_cons, partsPl_cons, partsPl, List.append_nil, List.all_append, Bool.and_eq_true, Bool.and_eq_true] at h5 ⊢
    exact ⟨fit_of (pairs_back h0 hft.1) (by rcases hft.2 with h | h; exact .inl h; exact .inr ⟨h.2, h.1⟩), h5.2.2, h5.2.1⟩
  · rw [treeP, treeP, hsj, hs, hb.1]
theorem hash_order {occ a b : Int} {x y : Pl} : (Pl.mk 2 occ a b [x, y]).order = -1 := by
  rw [Pl.order]
  split
  · rw [orderL, if_neg (by decide), if_neg (by decide)]
  · rfl
end
section
attribute [local push_cast] encPl_mk encPl_take encPl_len encPl_one encPls_pure encPl_pure encT_pure encT_len encT_one encT_take
theorem rows11_ok (c : List Df) (hcl : c.length ≤ 1000000) (q : Qy) (hq : q.Ok) (p : Pl) (hp : p.Ok) : Quiet Go.Proofs.Tryz.prog 40 [.agg [.sl (c.map encD)], .agg (encQ q), .agg (encPl p)] (.int (rowsQ c q p.tree.1.set)) := by
  have hT := Tree_ok p hp
  have hS := SetT_ok p.tree.1 (tree_ok p)
  generalize p.tree = tr at hT hS ⊢
  obtain ⟨t, is⟩ := tr
  dsimp only at hT hS ⊢
  refine quiet_of (rs := #[.tmp 6]) Go.Proofs.Tryz.func40 rfl rfl rfl mixed rfl rfl fun H hs => ?_
  simp -implicitDefEqProofs only [push_cast, Nat.reduceAdd, Nat.reduceSub, Nat.reduceMul, Nat.reduceLT, Nat.reduceLeDiff, Nat.reduceEqDiff, Nat.reduceBEq, reduceCtorEq, reduceIte, Int.reduceLE, Int.reduceLT, Int.reduceNeg, Int.reduceToNat, encQ]
  refine callq hT ?_
  simp -implicitDefEqProofs only [push_cast, Nat.reduceAdd, Nat.reduceSub, Nat.reduceMul, Nat.reduceLT, Nat.reduceLeDiff, Nat.reduceEqDiff, Nat.reduceBEq, reduceCtorEq, reduceIte, Int.reduceLE, Int.reduceLT, Int.reduceNeg, Int.reduceToNat, encQ]
  refine areg_at 6 (by kernel_rfl) (by kernel_rfl) ?_
  simp -implicitDefEqProofs only [push_cast, Nat.reduceAdd, Nat.reduceSub, Nat.reduceMul, Nat.reduceLT, Nat.reduceLeDiff, Nat.reduceEqDiff, Nat.reduceBEq, reduceCtorEq, reduceIte, Int.reduceLE, Int.reduceLT, Int.reduceNeg, Int.reduceToNat, encQ]
  refine ahdq hS ?_
  simp -implicitDefEqProofs only [push_cast, Nat.reduceAdd, Nat.reduceSub, Nat.reduceMul, Nat.reduceLT, Nat.reduceLeDiff, Nat.reduceEqDiff, Nat.reduceBEq, reduceCtorEq, reduceIte, Int.reduceLE, Int.reduceLT, Int.reduceNeg, Int.reduceToNat, encQ]
  refine ahdq (Rows_ok c hcl q hq _) ?_
  simp -implicitDefEqProofs only [push_cast, Nat.reduceAdd, Nat.reduceSub, Nat.reduceMul, Nat.reduceLT, Nat.reduceLeDiff, Nat.reduceEqDiff, Nat.reduceBEq, reduceCtorEq, reduceIte, Int.reduceLE, Int.reduceLT, Int.reduceNeg, Int.reduceToNat, encQ]
theorem addK_twice {u n : Int} (u0 : 0 ≤ u) (u1 : u ≤ capK) (n0 : 0 ≤ n) (n1 : n ≤ capK) : addK [addK [u, n], n] = addK [u, n, n] := by
  rw [addK_eq, addK_eq, addK_eq]
  simp only [sumK, List.map_cons, List.map_nil, List.foldr_cons, List.foldr_nil]
  unfold capK at *
  omega
theorem sort_costG {c : List Df} {q : Qy} {x : Pl} {occ col b : Int} (h : mayP c q (.mk 4 occ col b [x]) = true) : costP c q (.mk 4 occ col b [x]) = addK [costP c q x, sortK (rowsQ c q (treeP x).set)] := by
  rw [costP_mk h]
  rfl
theorem twice_law {c : List Df} {q : Qy} {occ a b : Int} {x : Pl} (h : mayP c q (.mk 4 occ a b [x]) = true) (hf : (Pl.mk 4 0 a b [.mk 4 occ a b [x]]).few = true) :
    mayP c q (.mk 4 0 a b [.mk 4 occ a b [x]]) = true ∧ costP c q (.mk 4 0 a b [.mk 4 occ a b [x]]) = addK [costP c q x, sortK (rowsQ c q (treeP x).set), sortK (rowsQ c q (treeP x).set)] := by
  have hb : b = 0 := by
    have := few_own hf
    simp [Pl.form, Pl.op, Pl.b, Pl.a, Pl.occ, Pl.l, plansP] at this
    rcases this with ⟨_, h⟩ | h <;> exact of_decide_eq_true h
  subst hb
  have hfit := fit_own h
  have hm : mayP c q (.mk 4 0 a 0 [.mk 4 occ a 0 [x]]) = true := by
    rw [sort_may h hf, treeP]
    exact hfit
  refine ⟨hm, ?_⟩
  have hr := costP_range c q x
  have hs := sortK_range (rowsQ c q (treeP x).set)
  have e1 := sort_cost hm
  have e2 := sort_costG h
  have e3 : treeP (.mk 4 occ a 0 [x]) = treeP x := by simp only [treeP]
  rw [e1, e2, e3]
  exact addK_twice hr.1 hr.2 hs.1 hs.2
set_option maxHeartbeats 4000000 in
theorem planForm_ok (c : List Df) (q : Qy) (p r : Pl) (hr : q.Raw c) (hp : p.Ok) (hro : r.Ok) : Quiet Go.Proofs.Tryz.prog 9 [.agg [.sl (c.map encD)], .agg (encQ q), .agg (encPl p), .agg (encPl r)] (.bool true) := by
  have hxp := small11_ok c q hr p hp
  have hxr := small11_ok c q hr r hro
  cases hf : fewQ c q
  · rw [hf, Bool.false_and] at hxp hxr
    obtain ⟨op, occ, a, b, l⟩ := p
    rw [encPl_mk] at hxp
    refine quiet_of (rs := #[.tmp 8]) Go.Proofs.Tryz.func9 rfl rfl rfl mixed rfl rfl fun H hs => ?_
    simp -implicitDefEqProofs only [push_cast, Nat.reduceAdd, Nat.reduceSub, Nat.reduceMul, Nat.reduceLT, Nat.reduceLeDiff, Nat.reduceEqDiff, Nat.reduceBEq, reduceCtorEq, reduceIte, Int.reduceLE, Int.reduceLT, Int.reduceNeg, Int.reduceToNat, encQ]
    refine callq awake11_ok ?_
    simp -implicitDefEqProofs only [push_cast, Nat.reduceAdd, Nat.reduceSub, Nat.reduceMul, Nat.reduceLT, Nat.reduceLeDiff, Nat.reduceEqDiff, Nat.reduceBEq, reduceCtorEq, reduceIte, Int.reduceLE, Int.reduceLT, Int.reduceNeg, Int.reduceToNat, encQ]
    refine callq hxp ?_
    simp -implicitDefEqProofs only [push_cast, Nat.reduceAdd, Nat.reduceSub, Nat.reduceMul, Nat.reduceLT, Nat.reduceLeDiff, Nat.reduceEqDiff, Nat.reduceBEq, reduceCtorEq, reduceIte, Int.reduceLE, Int.reduceLT, Int.reduceNeg, Int.reduceToNat, encQ]
    refine callq hxr ?_
    simp -implicitDefEqProofs only [push_cast, Nat.reduceAdd, Nat.reduceSub, Nat.reduceMul, Nat.reduceLT, Nat.reduceLeDiff, Nat.reduceEqDiff, Nat.reduceBEq, reduceCtorEq, reduceIte, Int.reduceLE, Int.reduceLT, Int.reduceNeg, Int.reduceToNat, encQ]
  rw [hf, Bool.true_and] at hxp hxr
  have hcl : c.length ≤ 1000000 := by have := (fewQ_split hf).1; omega
  have hq := ok_of_few hr hf
  have hMp := MayPl_ok c hcl q hq p hp
  have hCp := CostPl_ok c hcl q hq p hp
  have hCr := CostPl_ok c hcl q hq r hro
  have hFp := Few_ok p hp
  have hFr := Few_ok r hro
  have hSm := plan_same_ok p r hp hro
  have hRw := rows11_ok c hcl q hq p hp
  have hsame : samePl p r = true → costP c q p = costP c q r ∧ p.few = r.few := fun h => by rw [samePl_eq p r h]; exact ⟨rfl, rfl⟩
  generalize decide ((parts p).length ≤ 100) = x at hxp
  generalize decide ((parts r).length ≤ 100) = y at hxr
  generalize samePl p r = same at hSm hsame
  generalize costP c q r = cr at hCr hsame
  generalize r.few = fr at hFr hsame
  obtain ⟨op, occ, a, b, l⟩ := p
  have hpp := hp
  obtain ⟨hl, hlo⟩ := hp
  have hfx : ∀ z ∈ l, (Pl.mk op occ a b l).few = true → z.few = true := fun z hz h => few_part h hz
  have hto : (Pl.mk 4 0 a b [.mk op occ a b l]).Ok := .mk (by simp) (by
    intro z hz
    simp only [List.mem_singleton] at hz
    subst hz
    exact hpp)
  have hFt := Few_ok _ hto
  have hMt := MayPl_ok c hcl q hq _ hto
  have hCt := CostPl_ok c hcl q hq _ hto
  have htw := fun hop : op = 4 => fun x => fun hlx : l = [x] => twice_law (c := c) (q := q) (occ := occ) (a := a) (b := b) (x := x)
  have hfs : mayP c q (.mk op occ a b l) = true → op = 4 → ∃ x, l = [x] := fun h ho => by
    rcases form_split (few_own (mayP_iff.1 h).2.1) with ⟨h1, _⟩ | ⟨_, h2⟩ | ⟨h1, _⟩
    · omega
    · exact h2
    · omega
  rw [encPl_mk] at hxp hMp hCp hFp hSm hRw
  refine quiet_of (rs := #[.tmp 8]) Go.Proofs.Tryz.func9 rfl rfl rfl mixed rfl rfl fun H hs => ?_
  simp -implicitDefEqProofs only [push_cast, Nat.reduceAdd, Nat.reduceSub, Nat.reduceMul, Nat.reduceLT, Nat.reduceLeDiff, Nat.reduceEqDiff, Nat.reduceBEq, reduceCtorEq, reduceIte, Int.reduceLE, Int.reduceLT, Int.reduceNeg, Int.reduceToNat, encQ]
  refine callq awake11_ok ?_
  simp -implicitDefEqProofs only [push_cast, Nat.reduceAdd, Nat.reduceSub, Nat.reduceMul, Nat.reduceLT, Nat.reduceLeDiff, Nat.reduceEqDiff, Nat.reduceBEq, reduceCtorEq, reduceIte, Int.reduceLE, Int.reduceLT, Int.reduceNeg, Int.reduceToNat, encQ]
  refine callq hxp ?_
  simp -implicitDefEqProofs only [push_cast, Nat.reduceAdd, Nat.reduceSub, Nat.reduceMul, Nat.reduceLT, Nat.reduceLeDiff, Nat.reduceEqDiff, Nat.reduceBEq, reduceCtorEq, reduceIte, Int.reduceLE, Int.reduceLT, Int.reduceNeg, Int.reduceToNat, encQ]
  refine callq hxr ?_
  cases x
  · simp -implicitDefEqProofs only [push_cast, Nat.reduceAdd, Nat.reduceSub, Nat.reduceMul, Nat.reduceLT, Nat.reduceLeDiff, Nat.reduceEqDiff, Nat.reduceBEq, reduceCtorEq, reduceIte, Int.reduceLE, Int.reduceLT, Int.reduceNeg, Int.reduceToNat, encQ]
  cases y
  · simp -implicitDefEqProofs only [push_cast, Nat.reduceAdd, Nat.reduceSub, Nat.reduceMul, Nat.reduceLT, Nat.reduceLeDiff, Nat.reduceEqDiff, Nat.reduceBEq, reduceCtorEq, reduceIte, Int.reduceLE, Int.reduceLT, Int.reduceNeg, Int.reduceToNat, encQ]
  simp -implicitDefEqProofs only [push_cast, Nat.reduceAdd, Nat.reduceSub, Nat.reduceMul, Nat.reduceLT, Nat.reduceLeDiff, Nat.reduceEqDiff, Nat.reduceBEq, reduceCtorEq, reduceIte, Int.reduceLE, Int.reduceLT, Int.reduceNeg, Int.reduceToNat, encQ]
  refine loop_at hs (σ := Nat) (fun i => i ≤ l.length) (fun i => l.length - i)
    (fun i => [(12, .int i), (4, .ptr (H.nxt + 0) 1 0 0), (5, .ptr (H.nxt + 1) 6 0 0), (6, .ptr (H.nxt + 2) 5 0 0), (7, .ptr (H.nxt + 3) 5 0 0)])
    (fun i => [some (.cells 1 [[.sl (c.map encD)]] 0), some (.cells 6 [encQ q] 0), some (.cells 5 [encPl (.mk op occ a b l)] 0), some (.cells 5 [encPl r] 0)]) [some 0, some 1, some 2, some 3] 0 (by omega) rfl ?_ ?_ ?_
  · (try simp -implicitDefEqProofs only [push_cast, Nat.reduceAdd, Nat.reduceSub, Nat.reduceMul, Nat.reduceLT, Nat.reduceLeDiff, Nat.reduceEqDiff, Nat.reduceBEq, reduceCtorEq, reduceIte, Int.reduceLE, Int.reduceLT, Int.reduceNeg, Int.reduceToNat, encDs_pure, encEs_pure, encIs_pure, encQ])
  · (try simp -implicitDefEqProofs only [push_cast, Nat.reduceAdd, Nat.reduceSub, Nat.reduceMul, Nat.reduceLT, Nat.reduceLeDiff, Nat.reduceEqDiff, Nat.reduceBEq, reduceCtorEq, reduceIte, Int.reduceLE, Int.reduceLT, Int.reduceNeg, Int.reduceToNat, encDs_pure, encEs_pure, encIs_pure, encQ])
  intro i hi2
  by_cases hi : i < l.length
  · have hi' : ((i : Int) < (l.length : Int)) = True := by simp; omega
    have hi0 : (0 ≤ (i : Int)) = True := by simp
    have hFi := Few_ok l[i] (hlo _ (List.getElem_mem hi))
    have himp := hfx l[i] (List.getElem_mem hi)
    simp -implicitDefEqProofs only [push_cast, Nat.reduceAdd, Nat.reduceSub, Nat.reduceMul, Nat.reduceLT, Nat.reduceLeDiff, Nat.reduceEqDiff, Nat.reduceBEq, reduceCtorEq, reduceIte, Int.reduceLE, Int.reduceLT, Int.reduceNeg, Int.reduceToNat, hi', hi0, encPls_get l i hi, encQ]
    refine callq hFp ?_
    cases hfp : (Pl.mk op occ a b l).few
    · simp -implicitDefEqProofs only [push_cast, Nat.reduceAdd, Nat.reduceSub, Nat.reduceMul, Nat.reduceLT, Nat.reduceLeDiff, Nat.reduceEqDiff, Nat.reduceBEq, reduceCtorEq, reduceIte, Int.reduceLE, Int.reduceLT, Int.reduceNeg, Int.reduceToNat, hi', hi0, encPls_get l i hi, encQ]
      refine gcallq' (.bool true) (fun h => by cases h) (fun h => by cases h) ?_
      simp -implicitDefEqProofs only [push_cast, Nat.reduceAdd, Nat.reduceSub, Nat.reduceMul, Nat.reduceLT, Nat.reduceLeDiff, Nat.reduceEqDiff, Nat.reduceBEq, reduceCtorEq, reduceIte, Int.reduceLE, Int.reduceLT, Int.reduceNeg, Int.reduceToNat, encQ]
      rw [wrap64 (n := (i : Int) + 1) (by omega) (by omega)]
      refine next_at [some 0, some 1, some 2, some 3] (i + 1) (by omega) (by omega) rfl ?_ ?_
      · (try simp -implicitDefEqProofs only [push_cast, Nat.reduceAdd, Nat.reduceSub, Nat.reduceMul, Nat.reduceLT, Nat.reduceLeDiff, Nat.reduceEqDiff, Nat.reduceBEq, reduceCtorEq, reduceIte, Int.reduceLE, Int.reduceLT, Int.reduceNeg, Int.reduceToNat, encDs_pure, encEs_pure, encIs_pure, encQ])
      · (try simp -implicitDefEqProofs only [push_cast, Nat.reduceAdd, Nat.reduceSub, Nat.reduceMul, Nat.reduceLT, Nat.reduceLeDiff, Nat.reduceEqDiff, Nat.reduceBEq, reduceCtorEq, reduceIte, Int.reduceLE, Int.reduceLT, Int.reduceNeg, Int.reduceToNat, encDs_pure, encEs_pure, encIs_pure, encQ])
    · rw [himp hfp] at hFi
      simp -implicitDefEqProofs only [push_cast, Nat.reduceAdd, Nat.reduceSub, Nat.reduceMul, Nat.reduceLT, Nat.reduceLeDiff, Nat.reduceEqDiff, Nat.reduceBEq, reduceCtorEq, reduceIte, Int.reduceLE, Int.reduceLT, Int.reduceNeg, Int.reduceToNat, hi', hi0, encPls_get l i hi, encQ]
      refine gcallq' (.bool true) (fun _ => by simp) (fun _ => hFi) ?_
      simp -implicitDefEqProofs only [push_cast, Nat.reduceAdd, Nat.reduceSub, Nat.reduceMul, Nat.reduceLT, Nat.reduceLeDiff, Nat.reduceEqDiff, Nat.reduceBEq, reduceCtorEq, reduceIte, Int.reduceLE, Int.reduceLT, Int.reduceNeg, Int.reduceToNat, encQ]
      rw [wrap64 (n := (i : Int) + 1) (by omega) (by omega)]
      refine next_at [some 0, some 1, some 2, some 3] (i + 1) (by omega) (by omega) rfl ?_ ?_
      · (try simp -implicitDefEqProofs only [push_cast, Nat.reduceAdd, Nat.reduceSub, Nat.reduceMul, Nat.reduceLT, Nat.reduceLeDiff, Nat.reduceEqDiff, Nat.reduceBEq, reduceCtorEq, reduceIte, Int.reduceLE, Int.reduceLT, Int.reduceNeg, Int.reduceToNat, encDs_pure, encEs_pure, encIs_pure, encQ])
      · (try simp -implicitDefEqProofs only [push_cast, Nat.reduceAdd, Nat.reduceSub, Nat.reduceMul, Nat.reduceLT, Nat.reduceLeDiff, Nat.reduceEqDiff, Nat.reduceBEq, reduceCtorEq, reduceIte, Int.reduceLE, Int.reduceLT, Int.reduceNeg, Int.reduceToNat, encDs_pure, encEs_pure, encIs_pure, encQ])
  · have hi' : ((i : Int) < (l.length : Int)) = False := by simp; omega
    simp -implicitDefEqProofs only [push_cast, Nat.reduceAdd, Nat.reduceSub, Nat.reduceMul, Nat.reduceLT, Nat.reduceLeDiff, Nat.reduceEqDiff, Nat.reduceBEq, reduceCtorEq, reduceIte, Int.reduceLE, Int.reduceLT, Int.reduceNeg, Int.reduceToNat, hi', encQ]
    refine areg_at 21 (by kernel_rfl) (by kernel_rfl) ?_
    simp -implicitDefEqProofs only [push_cast, Nat.reduceAdd, Nat.reduceSub, Nat.reduceMul, Nat.reduceLT, Nat.reduceLeDiff, Nat.reduceEqDiff, Nat.reduceBEq, reduceCtorEq, reduceIte, Int.reduceLE, Int.reduceLT, Int.reduceNeg, Int.reduceToNat, encQ]
    refine ahdq hSm ?_
    simp -implicitDefEqProofs only [push_cast, Nat.reduceAdd, Nat.reduceSub, Nat.reduceMul, Nat.reduceLT, Nat.reduceLeDiff, Nat.reduceEqDiff, Nat.reduceBEq, reduceCtorEq, reduceIte, Int.reduceLE, Int.reduceLT, Int.reduceNeg, Int.reduceToNat, encQ]
    generalize hcp : costP c q (.mk op occ a b l) = cp at hCp hsame
    generalize hfp : (Pl.mk op occ a b l).few = fp at hFp hsame
    refine gcallq (.int cp) (fun _ => hCp) ?_
    simp -implicitDefEqProofs only [push_cast, Nat.reduceAdd, Nat.reduceSub, Nat.reduceMul, Nat.reduceLT, Nat.reduceLeDiff, Nat.reduceEqDiff, Nat.reduceBEq, reduceCtorEq, reduceIte, Int.reduceLE, Int.reduceLT, Int.reduceNeg, Int.reduceToNat, encQ]
    refine gcallq (.int cr) (fun _ => hCr) ?_
    simp -implicitDefEqProofs only [push_cast, Nat.reduceAdd, Nat.reduceSub, Nat.reduceMul, Nat.reduceLT, Nat.reduceLeDiff, Nat.reduceEqDiff, Nat.reduceBEq, reduceCtorEq, reduceIte, Int.reduceLE, Int.reduceLT, Int.reduceNeg, Int.reduceToNat, encQ]
    refine gcallq (.bool fp) (fun _ => hFp) ?_
    simp -implicitDefEqProofs only [push_cast, Nat.reduceAdd, Nat.reduceSub, Nat.reduceMul, Nat.reduceLT, Nat.reduceLeDiff, Nat.reduceEqDiff, Nat.reduceBEq, reduceCtorEq, reduceIte, Int.reduceLE, Int.reduceLT, Int.reduceNeg, Int.reduceToNat, encQ]
    refine gcallq (.bool fr) (fun _ => hFr) ?_
    simp -implicitDefEqProofs only [push_cast, Nat.reduceAdd, Nat.reduceSub, Nat.reduceMul, Nat.reduceLT, Nat.reduceLeDiff, Nat.reduceEqDiff, Nat.reduceBEq, reduceCtorEq, reduceIte, Int.reduceLE, Int.reduceLT, Int.reduceNeg, Int.reduceToNat, encQ]
    have hcnd : (same && (!decide (cp = cr) || !(fp == fr))) = false := by
      cases same
      · rfl
      · rw [(hsame rfl).1, (hsame rfl).2]; simp
    have hgd : same = true → cp = cr → (same && decide (cp = cr)) = true := fun h1 h2 => by rw [h1, decide_eq_true h2]; rfl
    simp -implicitDefEqProofs only [push_cast, Nat.reduceAdd, Nat.reduceSub, Nat.reduceMul, Nat.reduceLT, Nat.reduceLeDiff, Nat.reduceEqDiff, Nat.reduceBEq, reduceCtorEq, reduceIte, Int.reduceLE, Int.reduceLT, Int.reduceNeg, Int.reduceToNat, hcnd]
    refine ⟨hgd, ?_⟩
    by_cases hop : op = 4
    · have c4 : decide (op = 4) = true := decide_eq_true hop
      cases hm : mayP c q (.mk op occ a b l)
      · rw [hm] at hMp
        simp -implicitDefEqProofs only [push_cast, Nat.reduceAdd, Nat.reduceSub, Nat.reduceMul, Nat.reduceLT, Nat.reduceLeDiff, Nat.reduceEqDiff, Nat.reduceBEq, reduceCtorEq, reduceIte, Int.reduceLE, Int.reduceLT, Int.reduceNeg, Int.reduceToNat, c4]
        refine gcallq' (.bool false) (fun h => by simpa using hop) (fun _ => hMp) ?_
        simp -implicitDefEqProofs only [push_cast, Nat.reduceAdd, Nat.reduceSub, Nat.reduceMul, Nat.reduceLT, Nat.reduceLeDiff, Nat.reduceEqDiff, Nat.reduceBEq, reduceCtorEq, reduceIte, Int.reduceLE, Int.reduceLT, Int.reduceNeg, Int.reduceToNat, c4, encQ]
        refine gcallq' (.bool true) (fun h => by cases h) (fun h => by cases h) ?_
        simp -implicitDefEqProofs only [push_cast, Nat.reduceAdd, Nat.reduceSub, Nat.reduceMul, Nat.reduceLT, Nat.reduceLeDiff, Nat.reduceEqDiff, Nat.reduceBEq, reduceCtorEq, reduceIte, Int.reduceLE, Int.reduceLT, Int.reduceNeg, Int.reduceToNat, c4, encQ]
      rw [hm] at hMp
      obtain ⟨x, rfl⟩ := hfs hm hop
      subst hop
      have htl := htw rfl x rfl hm
      have htr : (Pl.mk 4 occ a b [x]).tree.1.set = (treeP x).set := by rw [tree_1 (mayP_split hm).2.1, treeP]
      rw [htr] at hRw
      have hCx := CostPl_ok c hcl q hq x (hlo x (by simp))
      have hA := AddK_ok [costP c q x, sortK (rowsQ c q (treeP x).set), sortK (rowsQ c q (treeP x).set)] (by simp)
      rw [List.map_cons, List.map_nil] at hMp hCp hFp hSm hRw
      simp -implicitDefEqProofs only [push_cast, Nat.reduceAdd, Nat.reduceSub, Nat.reduceMul, Nat.reduceLT, Nat.reduceLeDiff, Nat.reduceEqDiff, Nat.reduceBEq, reduceCtorEq, reduceIte, Int.reduceLE, Int.reduceLT, Int.reduceNeg, Int.reduceToNat, Int.reduceEq, if_false, if_true, or_true, or_false, true_or, false_or, List.map_cons, List.map_nil, List.length_cons, List.length_nil, Int.reduceAdd]
      refine gcallq' (.bool true) (fun _ => by simp) (fun _ => hMp) ?_
      simp -implicitDefEqProofs only [push_cast, Nat.reduceAdd, Nat.reduceSub, Nat.reduceMul, Nat.reduceLT, Nat.reduceLeDiff, Nat.reduceEqDiff, Nat.reduceBEq, reduceCtorEq, reduceIte, Int.reduceLE, Int.reduceLT, Int.reduceNeg, Int.reduceToNat, encQ, Int.reduceEq, if_false, if_true, or_true, or_false, true_or, false_or, List.map_cons, List.map_nil, List.length_cons, List.length_nil, Int.reduceAdd]
      refine gcall trivial ?_
      refine fzk H 4 1 [.agg (encPl (.mk 4 0 a b [.mk 4 occ a b [x]]))] (by rfl) (by omega) (by simp) ?_ ?_
      · (try simp -implicitDefEqProofs only [push_cast, Nat.reduceAdd, Nat.reduceSub, Nat.reduceMul, Nat.reduceLT, Nat.reduceLeDiff, Nat.reduceEqDiff, Nat.reduceBEq, reduceCtorEq, reduceIte, Int.reduceLE, Int.reduceLT, Int.reduceNeg, Int.reduceToNat, Int.reduceEq, if_false, if_true, or_true, or_false, true_or, false_or, List.map_cons, List.map_nil, List.length_cons, List.length_nil, Int.reduceAdd])
      refine callq hFt ?_
      cases hft : (Pl.mk 4 0 a b [.mk 4 occ a b [x]]).few
      · simp -implicitDefEqProofs only [push_cast, Nat.reduceAdd, Nat.reduceSub, Nat.reduceMul, Nat.reduceLT, Nat.reduceLeDiff, Nat.reduceEqDiff, Nat.reduceBEq, reduceCtorEq, reduceIte, Int.reduceLE, Int.reduceLT, Int.reduceNeg, Int.reduceToNat, encQ, Int.reduceEq, if_false, if_true, or_true, or_false, true_or, false_or, List.map_cons, List.map_nil, List.length_cons, List.length_nil, Int.reduceAdd, List.set_cons_zero, List.set_cons_succ]
      obtain ⟨hmt, hct⟩ := htl hft
      rw [hmt] at hMt
      rw [hct] at hCt
      simp -implicitDefEqProofs only [push_cast, Nat.reduceAdd, Nat.reduceSub, Nat.reduceMul, Nat.reduceLT, Nat.reduceLeDiff, Nat.reduceEqDiff, Nat.reduceBEq, reduceCtorEq, reduceIte, Int.reduceLE, Int.reduceLT, Int.reduceNeg, Int.reduceToNat, encQ, Int.reduceEq, if_false, if_true, or_true, or_false, true_or, false_or, List.map_cons, List.map_nil, List.length_cons, List.length_nil, Int.reduceAdd, List.set_cons_zero, List.set_cons_succ]
      refine callq hRw ?_
      simp -implicitDefEqProofs only [push_cast, Nat.reduceAdd, Nat.reduceSub, Nat.reduceMul, Nat.reduceLT, Nat.reduceLeDiff, Nat.reduceEqDiff, Nat.reduceBEq, reduceCtorEq, reduceIte, Int.reduceLE, Int.reduceLT, Int.reduceNeg, Int.reduceToNat, encQ, Int.reduceEq, if_false, if_true, or_true, or_false, true_or, false_or, List.map_cons, List.map_nil, List.length_cons, List.length_nil, Int.reduceAdd]
      refine callq (SortK_ok _) ?_
      simp -implicitDefEqProofs only [push_cast, Nat.reduceAdd, Nat.reduceSub, Nat.reduceMul, Nat.reduceLT, Nat.reduceLeDiff, Nat.reduceEqDiff, Nat.reduceBEq, reduceCtorEq, reduceIte, Int.reduceLE, Int.reduceLT, Int.reduceNeg, Int.reduceToNat, encQ, Int.reduceEq, if_false, if_true, or_true, or_false, true_or, false_or, List.map_cons, List.map_nil, List.length_cons, List.length_nil, Int.reduceAdd]
      refine areg_wkim hs [117] 23 [(4, .ptr (H.nxt + 0) 1 0 0), (5, .ptr (H.nxt + 1) 6 0 0), (6, .ptr (H.nxt + 2) 5 0 0), (13, .ptr (H.nxt + 5) 5 0 0), (14, .int (sortK (rowsQ c q (treeP x).set)))]
        [some (.cells 1 [[.sl (c.map encD)]] 0), some (.cells 6 [encQ q] 0), some (.cells 5 [encPl (.mk 4 occ a b [x])] 0), some (.cells 5 [encPl r] 0), none, some (.cells 5 [encPl (.mk 4 0 a b [.mk 4 occ a b [x]])] 0)] (by kernel_rfl) (by kernel_rfl) ?_ ?_ ?_
      · (try simp -implicitDefEqProofs only [push_cast, Nat.reduceAdd, Nat.reduceSub, Nat.reduceMul, Nat.reduceLT, Nat.reduceLeDiff, Nat.reduceEqDiff, Nat.reduceBEq, reduceCtorEq, reduceIte, Int.reduceLE, Int.reduceLT, Int.reduceNeg, Int.reduceToNat, encQ, Int.reduceEq, if_false, if_true, or_true, or_false, true_or, false_or, List.map_cons, List.map_nil, List.length_cons, List.length_nil, Int.reduceAdd])
      · (try simp -implicitDefEqProofs only [push_cast, Nat.reduceAdd, Nat.reduceSub, Nat.reduceMul, Nat.reduceLT, Nat.reduceLeDiff, Nat.reduceEqDiff, Nat.reduceBEq, reduceCtorEq, reduceIte, Int.reduceLE, Int.reduceLT, Int.reduceNeg, Int.reduceToNat, encQ, encDs_pure, encEs_pure, encIs_pure, Int.reduceEq, if_false, if_true, or_true, or_false, true_or, false_or, List.map_cons, List.map_nil, List.length_cons, List.length_nil, Int.reduceAdd])
      rw [encPl_mk, List.map_cons, List.map_nil, encPl_mk, List.map_cons, List.map_nil] at hMt hCt
      simp -implicitDefEqProofs only [push_cast, Nat.reduceAdd, Nat.reduceSub, Nat.reduceMul, Nat.reduceLT, Nat.reduceLeDiff, Nat.reduceEqDiff, Nat.reduceBEq, reduceCtorEq, reduceIte, Int.reduceLE, Int.reduceLT, Int.reduceNeg, Int.reduceToNat, encQ, Int.reduceEq, if_false, if_true, or_true, or_false, true_or, false_or, List.map_cons, List.map_nil, List.length_cons, List.length_nil, Int.reduceAdd]
      refine ahdq hMt ?_
      simp -implicitDefEqProofs only [push_cast, Nat.reduceAdd, Nat.reduceSub, Nat.reduceMul, Nat.reduceLT, Nat.reduceLeDiff, Nat.reduceEqDiff, Nat.reduceBEq, reduceCtorEq, reduceIte, Int.reduceLE, Int.reduceLT, Int.reduceNeg, Int.reduceToNat, encQ, Int.reduceEq, if_false, if_true, or_true, or_false, true_or, false_or, List.map_cons, List.map_nil, List.length_cons, List.length_nil, Int.reduceAdd]
      refine gcallq (.int _) (fun _ => hCt) ?_
      simp -implicitDefEqProofs only [push_cast, Nat.reduceAdd, Nat.reduceSub, Nat.reduceMul, Nat.reduceLT, Nat.reduceLeDiff, Nat.reduceEqDiff, Nat.reduceBEq, reduceCtorEq, reduceIte, Int.reduceLE, Int.reduceLT, Int.reduceNeg, Int.reduceToNat, encQ, Int.reduceEq, if_false, if_true, or_true, or_false, true_or, false_or, List.map_cons, List.map_nil, List.length_cons, List.length_nil, Int.reduceAdd]
      refine gcallq (.int _) (fun _ => hCx) ?_
      simp -implicitDefEqProofs only [push_cast, Nat.reduceAdd, Nat.reduceSub, Nat.reduceMul, Nat.reduceLT, Nat.reduceLeDiff, Nat.reduceEqDiff, Nat.reduceBEq, reduceCtorEq, reduceIte, Int.reduceLE, Int.reduceLT, Int.reduceNeg, Int.reduceToNat, encQ, Int.reduceEq, if_false, if_true, or_true, or_false, true_or, false_or, List.map_cons, List.map_nil, List.length_cons, List.length_nil, Int.reduceAdd]
      refine gcallq (.int _) (fun _ => hA) ?_
      simp -implicitDefEqProofs only [push_cast, Nat.reduceAdd, Nat.reduceSub, Nat.reduceMul, Nat.reduceLT, Nat.reduceLeDiff, Nat.reduceEqDiff, Nat.reduceBEq, reduceCtorEq, reduceIte, Int.reduceLE, Int.reduceLT, Int.reduceNeg, Int.reduceToNat, encQ]
    · have c4 : decide (op = 4) = false := decide_eq_false hop
      simp -implicitDefEqProofs only [push_cast, Nat.reduceAdd, Nat.reduceSub, Nat.reduceMul, Nat.reduceLT, Nat.reduceLeDiff, Nat.reduceEqDiff, Nat.reduceBEq, reduceCtorEq, reduceIte, Int.reduceLE, Int.reduceLT, Int.reduceNeg, Int.reduceToNat, c4]
      refine gcallq' (.bool true) (fun h => by cases h) (fun h => by cases h) ?_
      simp -implicitDefEqProofs only [push_cast, Nat.reduceAdd, Nat.reduceSub, Nat.reduceMul, Nat.reduceLT, Nat.reduceLeDiff, Nat.reduceEqDiff, Nat.reduceBEq, reduceCtorEq, reduceIte, Int.reduceLE, Int.reduceLT, Int.reduceNeg, Int.reduceToNat, c4, encQ]
      refine gcallq' (.bool true) (fun h => by cases h) (fun h => by cases h) ?_
      simp -implicitDefEqProofs only [push_cast, Nat.reduceAdd, Nat.reduceSub, Nat.reduceMul, Nat.reduceLT, Nat.reduceLeDiff, Nat.reduceEqDiff, Nat.reduceBEq, reduceCtorEq, reduceIte, Int.reduceLE, Int.reduceLT, Int.reduceNeg, Int.reduceToNat, c4, encQ]
theorem planForm_law (us : List AV) (h : ToldAll Go.Proofs.Tryz.prog Go.Proofs.Tryz.f9.params.toList us) : Quiet Go.Proofs.Tryz.prog 9 us (.bool true) := by
  have e1 : Go.Proofs.Tryz.f9.params.toList = [24, 28, 32, 32] := by kernel_rfl
  rw [e1] at h
  obtain ⟨c, q, us, rfl, _, hr, hin, h⟩ := told_CQ h
  obtain ⟨p, us, rfl, hp, h⟩ := told_Pl h
  obtain ⟨r, us, rfl, hro, h⟩ := told_Pl h
  obtain rfl := told_nil h
  exact planForm_ok c q p r hr hp hro
end
end Go.Sim.Tryz
