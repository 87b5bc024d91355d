/- What the row rests on, part 6. Conditions: none. -/
import Derived.Test.YtclapofaecbobaaGreatM5
set_option linter.unusedSimpArgs false
set_option linter.unusedVariables false
set_option maxRecDepth 100000
namespace Go.Sim.Tryz
open Go Go.Sim
attribute [local push_cast] aops_cons aops_nil aopG_none aopG_some aopP_eq aopE_eq aopC_eq aopE?_eq aopC?_eq aopB_eq aopB?_eq abr anilq gopP_eq gopL_eq ahead_cons ahead_nil ahdG_none ahdG_some ahdP_eq ahdN_eq ahdC_eq ahdN?_eq ahdS_eq ahdS?_eq astoreN ahdC?_eq ghdP_eq ghdC_eq ghdC?_eq ghdZ_f ghdZ_t ahdI_eq ahdI?_eq ghdN?_eq aim_nil aim_cons isIn_nil isIn_none isIn_cons aimm aheP_eq aheA_eq aheC_eq aheC?_eq aheI?_eq aheA?_eq gheP_eq gheC_eq gheC?_eq gheZ_eq aheG_none aheG_some aheff_cons aheff_nil aapp gro_rsl gro_lit gro_esl opt_some opt_none no_eq acondT_true acondT_false acondT_lit aw_skip aw_region aw_regionD aw_seq aw_cond aw_block aw_loop aw_exit aw_label aw_ret thn_normal thn_exit thn_ret inb_normal inb_exit inb_ret qret_ret qret_normal gcond apure aeff anew acallee ares aresT aresL aresC ares1 qfin_eq ev ofV evL gokL tget tput_some tput_none initT abin aint aun aload afaddr aiaddr afield aindex aextract apick pickv_lit Bool.or_false Bool.false_or Bool.or_true Bool.true_or imp_self aslice chunk roomB abound aconv abuild afill splice alen aminmax abuiltin anil apart Value.oneCell' astore aappend srcEs abuildSlice amakeSlice amapPut alookup aput afind mget keyV sameV_int Option.isSome_some Option.isSome_none cond_true cond_false asets isEq plus_obj plus_nxt plus_add plus_set plus_del IntKind.bits Option.map_some Option.map_none Option.bind_some Option.bind_none Option.join_some Option.getD_some Option.getD_none Option.toList List.getElem?_toArray List.getElem?_cons_zero List.getElem?_cons_succ List.getElem?_nil List.length_cons List.length_nil List.length_map List.head?_cons List.cons_append List.nil_append List.append_nil List.map_cons List.map_nil List.getD_cons_zero List.getD_cons_succ List.replicate_succ List.replicate_zero List.set_cons_zero List.set_cons_succ List.take_succ_cons List.take_zero List.drop_succ_cons List.drop_zero List.all_cons List.all_nil Nat.zero_add if_true if_false true_and and_true false_and and_false true_implies implies_true forall_const Bool.and_true Bool.true_and Bool.false_and Bool.and_false Bool.true_beq Bool.false_beq Bool.not_not beq_tt beq_ff Int.toNat_natCast decide_true decide_false Bool.not_true Bool.not_false Bool.true_eq_false Bool.false_eq_true false_implies exists_prop eq_self bne_self_eq_false beq_self_eq_true decide_eq_true_eq decide_eq_false_iff_not Bool.not_eq_true' Bool.not_eq_false' AV.int AV.bool AV.nilS ne_eq not_false_eq_true not_true_eq_false exists_eq_left exists_eq_left' Nat.lt_irrefl core_lit grd_lit acells_lit one_lit core_agg grd_agg acells_agg one_agg core_tup grd_tup acells_tup one_tup core_sl grd_sl acells_sl one_sl core_esl grd_esl acells_esl one_esl core_rsl grd_rsl acells_rsl one_rsl core_ptr grd_ptr acells_ptr one_ptr core_iptr grd_iptr acells_iptr one_iptr core_clo grd_clo acells_clo one_clo core_mp grd_mp acells_mp one_mp core_any grd_any acells_any one_any core_gv grd_gv fit_agg fit_lit fit_sl fit_esl fit_rsl fit_ptr fit_iptr fit_clo fit_mp retq_ret retq_normal set_nxt set_set plus_obj_set plus_set_set app_get0 app_get app_set0 app_set List.append_assoc List.length_append List.length_set Nat.lt_add_one Nat.add_lt_add_iff_right Nat.lt_add_right_iff_pos Nat.add_lt_add_iff_left List.mem_cons List.not_mem_nil or_false forall_eq forall_eq_or_imp lt_s0 lt_s1 lt_s2 lt_s3 lt_s4 lt_s5 lt_s6 lt_s7 lt_s8 pickv_t pickv_f or_nand or_nand2 imp_and_l SealT SealOs sealO_cells sl_lit sl_any sl_agg sl_tup sl_sl sl_rsl slO sl_esl sl_nil sl_eslesl sl_eslnil sl_rslrsl sl_eslrsl sl_nilrsl sl_ptr sl_iptr sl_ptri slP sl_clo sl_mp sl_gv sll_nil sll_cons slll_nil slll_cons shut_eq shutO Option.join_none Fn.func.injEq and_self sealL_self sealLL_self seal_self PureL PureLL Pure Nat.le_refl Nat.zero_le AV.lit.injEq Value.int.injEq Value.bool.injEq false_or or_true true_or Int.natCast_zero Int.ofNat_zero Int.cast_ofNat_Int Int.natCast_add Int.natCast_one Option.some.injEq piL_is sop_nil sop_cons sop_none sop_some sopO_some sop_new shut_pi shutL_nil shutL_cons exQ_exit exQ_ret exQ_normal Go.Sim.Tryz.ty_load1 Go.Sim.Tryz.ty_zero1 Go.Sim.Tryz.ty_load2 Go.Sim.Tryz.ty_zero2 Go.Sim.Tryz.ty_und2 Go.Sim.Tryz.ty_load3 Go.Sim.Tryz.ty_zero3 Go.Sim.Tryz.ty_und3 Go.Sim.Tryz.ty_load4 Go.Sim.Tryz.ty_zero4 Go.Sim.Tryz.ty_und4 Go.Sim.Tryz.ty_load5 Go.Sim.Tryz.ty_zero5 Go.Sim.Tryz.ty_und5 Go.Sim.Tryz.ty_load9 Go.Sim.Tryz.ty_zero9 Go.Sim.Tryz.ty_und9 Go.Sim.Tryz.ty_load21 Go.Sim.Tryz.ty_zero21 Go.Sim.Tryz.ty_und21 Go.Sim.Tryz.ty_load22 Go.Sim.Tryz.ty_zero22 Go.Sim.Tryz.ty_el22 Go.Sim.Tryz.ty_zeroE22 Go.Sim.Tryz.ty_load24 Go.Sim.Tryz.ty_zero24 Go.Sim.Tryz.ty_fld24_0 Go.Sim.Tryz.ty_part24_0 Go.Sim.Tryz.ty_struct24 Go.Sim.Tryz.ty_load25 Go.Sim.Tryz.ty_zero25 Go.Sim.Tryz.ty_el25 Go.Sim.Tryz.ty_zeroE25 Go.Sim.Tryz.ty_load26 Go.Sim.Tryz.ty_zero26 Go.Sim.Tryz.ty_el26 Go.Sim.Tryz.ty_zeroE26 Go.Sim.Tryz.ty_load28 Go.Sim.Tryz.ty_zero28 Go.Sim.Tryz.ty_fld28_0 Go.Sim.Tryz.ty_part28_0 Go.Sim.Tryz.ty_fld28_1 Go.Sim.Tryz.ty_part28_1 Go.Sim.Tryz.ty_fld28_2 Go.Sim.Tryz.ty_part28_2 Go.Sim.Tryz.ty_fld28_3 Go.Sim.Tryz.ty_part28_3 Go.Sim.Tryz.ty_fld28_4 Go.Sim.Tryz.ty_part28_4 Go.Sim.Tryz.ty_fld28_5 Go.Sim.Tryz.ty_part28_5 Go.Sim.Tryz.ty_struct28 Go.Sim.Tryz.ty_load29 Go.Sim.Tryz.ty_zero29 Go.Sim.Tryz.ty_arr29 Go.Sim.Tryz.ty_part29_0 Go.Sim.Tryz.ty_part29_1 Go.Sim.Tryz.ty_struct29 Go.Sim.Tryz.ty_load30 Go.Sim.Tryz.ty_zero30 Go.Sim.Tryz.ty_el30 Go.Sim.Tryz.ty_zeroE30 Go.Sim.Tryz.ty_load32 Go.Sim.Tryz.ty_zero32 Go.Sim.Tryz.ty_fld32_0 Go.Sim.Tryz.ty_part32_0 Go.Sim.Tryz.ty_fld32_1 Go.Sim.Tryz.ty_part32_1 Go.Sim.Tryz.ty_fld32_2 Go.Sim.Tryz.ty_part32_2 Go.Sim.Tryz.ty_fld32_3 Go.Sim.Tryz.ty_part32_3 Go.Sim.Tryz.ty_struct32 Go.Sim.Tryz.ty_load37 Go.Sim.Tryz.ty_zero37 Go.Sim.Tryz.ty_el37 Go.Sim.Tryz.ty_zeroE37 Go.Sim.Tryz.ty_load39 Go.Sim.Tryz.ty_zero39 Go.Sim.Tryz.ty_fld39_0 Go.Sim.Tryz.ty_part39_0 Go.Sim.Tryz.ty_fld39_1 Go.Sim.Tryz.ty_part39_1 Go.Sim.Tryz.ty_struct39 Go.Sim.Tryz.ty_load52 Go.Sim.Tryz.ty_zero52 Go.Sim.Tryz.ty_fld52_0 Go.Sim.Tryz.ty_part52_0 Go.Sim.Tryz.ty_fld52_1 Go.Sim.Tryz.ty_part52_1 Go.Sim.Tryz.ty_fld52_2 Go.Sim.Tryz.ty_part52_2 Go.Sim.Tryz.ty_struct52 Go.Sim.Tryz.ty_load55 Go.Sim.Tryz.ty_zero55 Go.Sim.Tryz.ty_load56 Go.Sim.Tryz.ty_zero56 Go.Sim.Tryz.ty_load70 Go.Sim.Tryz.ty_zero70 Go.Sim.Tryz.ty_el70 Go.Sim.Tryz.ty_zeroE70 Go.Sim.Tryz.ty_load76 Go.Sim.Tryz.ty_zero76 Go.Sim.Tryz.ty_el76 Go.Sim.Tryz.ty_zeroE76 Go.Sim.Tryz.ty_load78 Go.Sim.Tryz.ty_zero78 Go.Sim.Tryz.ty_fld78_0 Go.Sim.Tryz.ty_part78_0 Go.Sim.Tryz.ty_struct78 Go.Sim.Tryz.ty_load84 Go.Sim.Tryz.ty_zero84 Go.Sim.Tryz.ty_fld84_0 Go.Sim.Tryz.ty_part84_0 Go.Sim.Tryz.ty_struct84 Go.Sim.Tryz.ty_load85 Go.Sim.Tryz.ty_zero85 Go.Sim.Tryz.ty_load92 Go.Sim.Tryz.ty_zero92 Go.Sim.Tryz.ty_load93 Go.Sim.Tryz.ty_zero93 Go.Sim.Tryz.ty_und93 Go.Sim.Tryz.ty_load95 Go.Sim.Tryz.ty_zero95 Go.Sim.Tryz.ty_und95 Go.Sim.Tryz.ty_load104 Go.Sim.Tryz.ty_zero104 Go.Sim.Tryz.ty_fld104_0 Go.Sim.Tryz.ty_part104_0 Go.Sim.Tryz.ty_fld104_1 Go.Sim.Tryz.ty_part104_1 Go.Sim.Tryz.ty_struct104 Go.Sim.Tryz.ty_load110 Go.Sim.Tryz.ty_zero110 Go.Sim.Tryz.ty_fld110_0 Go.Sim.Tryz.ty_part110_0 Go.Sim.Tryz.ty_fld110_1 Go.Sim.Tryz.ty_part110_1 Go.Sim.Tryz.ty_struct110 Go.Sim.Tryz.ty_load112 Go.Sim.Tryz.ty_zero112 Go.Sim.Tryz.ty_fld112_0 Go.Sim.Tryz.ty_part112_0 Go.Sim.Tryz.ty_fld112_1 Go.Sim.Tryz.ty_part112_1 Go.Sim.Tryz.ty_fld112_2 Go.Sim.Tryz.ty_part112_2 Go.Sim.Tryz.ty_fld112_3 Go.Sim.Tryz.ty_part112_3 Go.Sim.Tryz.ty_struct112 Go.Sim.Tryz.ty_load119 Go.Sim.Tryz.ty_zero119 Go.Sim.Tryz.ty_load123 Go.Sim.Tryz.ty_zero123 Go.Sim.Tryz.ty_fld123_0 Go.Sim.Tryz.ty_part123_0 Go.Sim.Tryz.ty_fld123_1 Go.Sim.Tryz.ty_part123_1 Go.Sim.Tryz.ty_struct123 Go.Sim.Tryz.ty_load124 Go.Sim.Tryz.ty_zero124 Go.Sim.Tryz.ty_el124 Go.Sim.Tryz.ty_zeroE124 Go.Sim.Tryz.ty_load125 Go.Sim.Tryz.ty_zero125 Go.Sim.Tryz.ty_el125 Go.Sim.Tryz.ty_zeroE125 Go.Sim.Tryz.ty_load128 Go.Sim.Tryz.ty_zero128 Go.Sim.Tryz.ty_fld128_0 Go.Sim.Tryz.ty_part128_0 Go.Sim.Tryz.ty_struct128 Go.Sim.Tryz.ty_load135 Go.Sim.Tryz.ty_zero135 Go.Sim.Tryz.ty_und135 Go.Sim.Tryz.ty_load140 Go.Sim.Tryz.ty_zero140 Go.Sim.Tryz.ty_load141 Go.Sim.Tryz.ty_zero141 Go.Sim.Tryz.ty_el141 Go.Sim.Tryz.ty_zeroE141 Go.Sim.Tryz.ty_load148 Go.Sim.Tryz.ty_zero148 Go.Sim.Tryz.ty_load151 Go.Sim.Tryz.ty_zero151 Go.Sim.Tryz.ty_load159 Go.Sim.Tryz.ty_zero159 Go.Sim.Tryz.ty_und159 Go.Sim.Tryz.ty_vzero128 Go.Sim.Tryz.ty_load168 Go.Sim.Tryz.ty_zero168 Go.Sim.Tryz.ty_fld168_0 Go.Sim.Tryz.ty_part168_0 Go.Sim.Tryz.ty_fld168_1 Go.Sim.Tryz.ty_part168_1 Go.Sim.Tryz.ty_fld168_2 Go.Sim.Tryz.ty_part168_2 Go.Sim.Tryz.ty_struct168 Go.Sim.Tryz.ty_load170 Go.Sim.Tryz.ty_zero170 Go.Sim.Tryz.ty_load172 Go.Sim.Tryz.ty_zero172 Go.Sim.Tryz.ty_und172 Go.Sim.Tryz.ty_load179 Go.Sim.Tryz.ty_zero179 Go.Sim.Tryz.ty_und179 Go.Sim.Tryz.ty_load181 Go.Sim.Tryz.ty_zero181 Go.Sim.Tryz.ty_load184 Go.Sim.Tryz.ty_zero184 Go.Sim.Tryz.ty_und184 Go.Sim.Tryz.ty_load188 Go.Sim.Tryz.ty_zero188 Go.Sim.Tryz.ty_load191 Go.Sim.Tryz.ty_zero191
section
attribute [local push_cast] encPl_mk encPl_take encPl_len encPl_one encPls_pure encPl_pure encT_pure encT_len encT_one encT_take
def digT (o : Int) : ByteArray := Utf8.encode (IntKind.wrap .i32 (IntKind.wrap .i64 (48 + o)))
theorem textLeaf_ok (o : Int) : Quiet Go.Proofs.Tryz.prog 118 [.agg (encT (Tr.leaf o))] (.lit (.string (digT o))) := by
  rw [Tr.leaf, encT_mk]
  refine quiet_of (rs := #[.tmp 2]) Go.Proofs.Tryz.func118 rfl rfl rfl mixed rfl rfl fun H hs => ?_
  simp -implicitDefEqProofs only [push_cast, Nat.reduceAdd, Nat.reduceSub, Nat.reduceMul, Nat.reduceLT, Nat.reduceLeDiff, Nat.reduceEqDiff, Nat.reduceBEq, reduceCtorEq, reduceIte, Int.reduceLE, Int.reduceLT, Int.reduceNeg, Int.reduceToNat, digT]
def joinT (a b : ByteArray) : ByteArray := (⟨#[40]⟩ : ByteArray) ++ a ++ b ++ (⟨#[41]⟩ : ByteArray)
theorem text2_ok (a b : Tr) (x y : ByteArray) (hx : x.size ≤ 100) (hy : y.size ≤ 100) (h1 : Quiet Go.Proofs.Tryz.prog 118 [.agg (encT a)] (.lit (.string x))) (h2 : Quiet Go.Proofs.Tryz.prog 118 [.agg (encT b)] (.lit (.string y))) : Quiet Go.Proofs.Tryz.prog 118 [.agg (encT (Tr.join a b))] (.lit (.string (joinT x y))) := by
  rw [Tr.join, encT_mk]
  refine quiet_of (rs := #[.tmp 2]) Go.Proofs.Tryz.func118 rfl rfl rfl mixed rfl rfl fun H hs => ?_
  simp -implicitDefEqProofs only [push_cast, Nat.reduceAdd, Nat.reduceSub, Nat.reduceMul, Nat.reduceLT, Nat.reduceLeDiff, Nat.reduceEqDiff, Nat.reduceBEq, reduceCtorEq, reduceIte, Int.reduceLE, Int.reduceLT, Int.reduceNeg, Int.reduceToNat, Int.reduceEq, List.map_cons, List.map_nil, List.length_cons, List.length_nil, Int.reduceAdd]
  refine areg_at 14 (by kernel_rfl) (by kernel_rfl) ?_
  simp -implicitDefEqProofs only [push_cast, Nat.reduceAdd, Nat.reduceSub, Nat.reduceMul, Nat.reduceLT, Nat.reduceLeDiff, Nat.reduceEqDiff, Nat.reduceBEq, reduceCtorEq, reduceIte, Int.reduceLE, Int.reduceLT, Int.reduceNeg, Int.reduceToNat, encT_pure, encT_len, encT_one, encT_take]
  refine ⟨by decide, ahdq h1 ?_⟩
  simp -implicitDefEqProofs only [push_cast, Nat.reduceAdd, Nat.reduceSub, Nat.reduceMul, Nat.reduceLT, Nat.reduceLeDiff, Nat.reduceEqDiff, Nat.reduceBEq, reduceCtorEq, reduceIte, Int.reduceLE, Int.reduceLT, Int.reduceNeg, Int.reduceToNat, encT_pure, encT_len, encT_one, encT_take, Int.reduceAdd, astr]
  refine ⟨?_, ahdq h2 ?_⟩
  · have : (⟨#[40]⟩ : ByteArray).size = 1 := rfl
    omega
  simp -implicitDefEqProofs only [push_cast, Nat.reduceAdd, Nat.reduceSub, Nat.reduceMul, Nat.reduceLT, Nat.reduceLeDiff, Nat.reduceEqDiff, Nat.reduceBEq, reduceCtorEq, reduceIte, Int.reduceLE, Int.reduceLT, Int.reduceNeg, Int.reduceToNat, encT_pure, encT_len, encT_one, encT_take, astr, joinT, ByteArray.size_append]
  have : (⟨#[40]⟩ : ByteArray).size = 1 := rfl
  have : (⟨#[41]⟩ : ByteArray).size = 1 := rfl
  omega
theorem text01_ok : Quiet Go.Proofs.Tryz.prog 59 [.agg (encT (.join (.leaf 0) (.leaf 1)))] (.lit (.string ⟨#[40, 48, 49, 41]⟩)) := by
  have hM := MayT_ok (.join (.leaf 0) (.leaf 1)) (by have := treeP_ok (.mk 1 0 0 0 [.mk 0 0 0 0 [], .mk 0 1 0 0 []]); exact this)
  have hm : (Tr.join (.leaf 0) (.leaf 1)).may = true := by decide +kernel
  rw [hm] at hM
  have hx := text2_ok (.leaf 0) (.leaf 1) _ _ (by decide +kernel) (by decide +kernel) (textLeaf_ok 0) (textLeaf_ok 1)
  have hj : joinT (digT 0) (digT 1) = ⟨#[40, 48, 49, 41]⟩ := by decide +kernel
  rw [hj] at hx
  generalize Tr.join (.leaf 0) (.leaf 1) = t at hM hx ⊢
  refine quiet_of (rs := #[.tmp 2]) Go.Proofs.Tryz.func59 rfl rfl rfl mixed rfl rfl fun H hs => ?_
  simp -implicitDefEqProofs only [push_cast, Nat.reduceAdd, Nat.reduceSub, Nat.reduceMul, Nat.reduceLT, Nat.reduceLeDiff, Nat.reduceEqDiff, Nat.reduceBEq, reduceCtorEq, reduceIte, Int.reduceLE, Int.reduceLT, Int.reduceNeg, Int.reduceToNat, encT_pure, encT_len, encT_one, encT_take]
  refine callq hM ?_
  simp -implicitDefEqProofs only [push_cast, Nat.reduceAdd, Nat.reduceSub, Nat.reduceMul, Nat.reduceLT, Nat.reduceLeDiff, Nat.reduceEqDiff, Nat.reduceBEq, reduceCtorEq, reduceIte, Int.reduceLE, Int.reduceLT, Int.reduceNeg, Int.reduceToNat, encT_pure, encT_len, encT_one, encT_take]
  refine callq hx ?_
  simp -implicitDefEqProofs only [push_cast, Nat.reduceAdd, Nat.reduceSub, Nat.reduceMul, Nat.reduceLT, Nat.reduceLeDiff, Nat.reduceEqDiff, Nat.reduceBEq, reduceCtorEq, reduceIte, Int.reduceLE, Int.reduceLT, Int.reduceNeg, Int.reduceToNat]
def q11 : Qy := ⟨[0, 1], [], -1, [], [0], -1⟩
def p11 : Pl := .mk 1 0 0 0 [.mk 0 0 0 0 [], .mk 0 1 0 0 []]
theorem q11_may : q11.may catTwo = true := by decide +kernel
theorem q11_raw (c : List Df) (hc : c.length ≤ 140737488355328) : q11.Raw c := ⟨hc, by decide, by decide, by decide, by decide, by intro e he; cases he⟩
theorem q11_few : fewQ catTwo q11 = true := by decide
theorem q11_ok : q11.Ok := ok_of_few (q11_raw catTwo (by decide)) q11_few
theorem plOk0 {op occ a b : Int} : Pl.Ok (.mk op occ a b []) := .mk (by decide) (by simp)
theorem p11_ok : p11.Ok := .mk (by decide) (by
  intro x hx
  simp only [List.mem_cons, List.not_mem_nil, or_false] at hx
  rcases hx with rfl | rfl <;> exact plOk0)
theorem p11_tree : p11.tree = (.join (.leaf 0) (.leaf 1), true) := by
  have h : p11.tree.2 = true := by decide +kernel
  have h1 := tree_1 h
  rw [← h, ← show treeP p11 = .join (.leaf 0) (.leaf 1) by rfl, ← h1]
theorem p11_may : mayP catTwo q11 p11 = true := by
  unfold mayP
  rw [q11_may, p11_tree]
  decide +kernel
theorem p11_cost : costP catTwo q11 p11 = 1110 := by
  rw [costP, p11_may]
  decide +kernel
theorem p11_all : allP catTwo q11 p11 0 false = 1110 := by
  have hf : fineP catTwo q11 p11 0 false = true := by
    rw [fineP, p11_may]
    decide +kernel
  rw [allP, hf, if_pos rfl, allL, p11_cost]
  decide +kernel
theorem p11_order : p11.order = -1 := by decide +kernel
set_option maxHeartbeats 2000000 in
theorem awake11_ok : Quiet Go.Proofs.Tryz.prog 15 [] (.bool true) := by
  have hT := Tree_ok p11 p11_ok
  rw [p11_tree] at hT
  have hM := MayPl_ok catTwo (by decide) q11 q11_ok p11 p11_ok
  rw [p11_may] at hM
  have hC := CostPl_ok catTwo (by decide) q11 q11_ok p11 p11_ok
  rw [p11_cost] at hC
  have hO := Order_ok p11 p11_ok
  rw [p11_order] at hO
  have hA := AllPl_ok catTwo (by decide) q11 q11_ok p11 p11_ok 0 false
  rw [p11_all] at hA
  refine quiet_of (rs := #[.tmp 0]) Go.Proofs.Tryz.func15 rfl rfl rfl mixed rfl rfl fun H hs => ?_
  simp -implicitDefEqProofs only [push_cast, Nat.reduceAdd, Nat.reduceSub, Nat.reduceMul, Nat.reduceLT, Nat.reduceLeDiff, Nat.reduceEqDiff, Nat.reduceBEq, reduceCtorEq, reduceIte, Int.reduceLE, Int.reduceLT, Int.reduceNeg, Int.reduceToNat]
  refine callq Two_ok ?_
  simp -implicitDefEqProofs only [push_cast, Nat.reduceAdd, Nat.reduceSub, Nat.reduceMul, Nat.reduceLT, Nat.reduceLeDiff, Nat.reduceEqDiff, Nat.reduceBEq, reduceCtorEq, reduceIte, Int.reduceLE, Int.reduceLT, Int.reduceNeg, Int.reduceToNat]
  refine ⟨rfl, ?_⟩
  refine fzk H 5 2 [.agg (encPl p11)] (by rfl) (by omega) (by simp) ?_ ?_
  · (try simp -implicitDefEqProofs only [push_cast, Nat.reduceAdd, Nat.reduceSub, Nat.reduceMul, Nat.reduceLT, Nat.reduceLeDiff, Nat.reduceEqDiff, Nat.reduceBEq, reduceCtorEq, reduceIte, Int.reduceLE, Int.reduceLT, Int.reduceNeg, Int.reduceToNat, p11, q11, encQ, encI, encD, encW, catTwo, trO, List.map_cons, List.map_nil, List.set_cons_zero, List.set_cons_succ, List.cons_append, List.nil_append])
  refine callq hT ?_
  simp -implicitDefEqProofs only [push_cast, Nat.reduceAdd, Nat.reduceSub, Nat.reduceMul, Nat.reduceLT, Nat.reduceLeDiff, Nat.reduceEqDiff, Nat.reduceBEq, reduceCtorEq, reduceIte, Int.reduceLE, Int.reduceLT, Int.reduceNeg, Int.reduceToNat, encT_pure, encT_len, encT_one, encT_take, List.set_cons_zero, List.set_cons_succ]
  refine fzk H 2 2 [.agg [.sl (catTwo.map encD)], .agg [.sl ([0, 1].map encI), .nilS, .int (-1), .nilS, .rsl (H.nxt + 3) 1 0 1, .int (-1)], .agg (encPl p11)] (by rfl) (by omega) (by simp) ?_ ?_
  · (try simp -implicitDefEqProofs only [push_cast, Nat.reduceAdd, Nat.reduceSub, Nat.reduceMul, Nat.reduceLT, Nat.reduceLeDiff, Nat.reduceEqDiff, Nat.reduceBEq, reduceCtorEq, reduceIte, Int.reduceLE, Int.reduceLT, Int.reduceNeg, Int.reduceToNat, p11, q11, encQ, encI, encD, encW, catTwo, trO, List.map_cons, List.map_nil, List.set_cons_zero, List.set_cons_succ, List.cons_append, List.nil_append])
  refine fzk H 3 1 [.agg [.sl (catTwo.map encD)], .agg (encQ q11), .agg (encPl p11)] (by rfl) (by omega) (by simp) ?_ ?_
  · (try simp -implicitDefEqProofs only [push_cast, Nat.reduceAdd, Nat.reduceSub, Nat.reduceMul, Nat.reduceLT, Nat.reduceLeDiff, Nat.reduceEqDiff, Nat.reduceBEq, reduceCtorEq, reduceIte, Int.reduceLE, Int.reduceLT, Int.reduceNeg, Int.reduceToNat, p11, q11, encQ, encI, encD, encW, catTwo, trO, List.map_cons, List.map_nil, List.set_cons_zero, List.set_cons_succ, List.cons_append, List.nil_append])
  refine callq hM ?_
  simp -implicitDefEqProofs only [push_cast, Nat.reduceAdd, Nat.reduceSub, Nat.reduceMul, Nat.reduceLT, Nat.reduceLeDiff, Nat.reduceEqDiff, Nat.reduceBEq, reduceCtorEq, reduceIte, Int.reduceLE, Int.reduceLT, Int.reduceNeg, Int.reduceToNat, encT_pure, encT_len, encT_one, encT_take, List.set_cons_zero, List.set_cons_succ]
  refine gcalla [.agg [.sl (catTwo.map encD)], .agg (encQ q11), .agg (encPl p11)] (.int 1110) (fun _ => trivial) (fun _ => hC) ?_ ?_
  · (try simp -implicitDefEqProofs only [push_cast, Nat.reduceAdd, Nat.reduceSub, Nat.reduceMul, Nat.reduceLT, Nat.reduceLeDiff, Nat.reduceEqDiff, Nat.reduceBEq, reduceCtorEq, reduceIte, Int.reduceLE, Int.reduceLT, Int.reduceNeg, Int.reduceToNat, p11, q11, encQ, encI, encD, encW, catTwo, trO, List.map_cons, List.map_nil, List.set_cons_zero, List.set_cons_succ, List.cons_append, List.nil_append])
  simp -implicitDefEqProofs only [push_cast, Nat.reduceAdd, Nat.reduceSub, Nat.reduceMul, Nat.reduceLT, Nat.reduceLeDiff, Nat.reduceEqDiff, Nat.reduceBEq, reduceCtorEq, reduceIte, Int.reduceLE, Int.reduceLT, Int.reduceNeg, Int.reduceToNat, encT_pure, encT_len, encT_one, encT_take, List.set_cons_zero, List.set_cons_succ]
  refine gcallq' (.lit (.string ⟨#[40, 48, 49, 41]⟩)) (fun _ => trivial) (fun _ => text01_ok) ?_
  simp -implicitDefEqProofs only [push_cast, Nat.reduceAdd, Nat.reduceSub, Nat.reduceMul, Nat.reduceLT, Nat.reduceLeDiff, Nat.reduceEqDiff, Nat.reduceBEq, reduceCtorEq, reduceIte, Int.reduceLE, Int.reduceLT, Int.reduceNeg, Int.reduceToNat, encT_pure, encT_len, encT_one, encT_take, List.set_cons_zero, List.set_cons_succ, astr]
  refine gcalla [.agg (encPl p11)] (.int (-1)) (fun _ => trivial) (fun _ => hO) ?_ ?_
  · (try simp -implicitDefEqProofs only [push_cast, Nat.reduceAdd, Nat.reduceSub, Nat.reduceMul, Nat.reduceLT, Nat.reduceLeDiff, Nat.reduceEqDiff, Nat.reduceBEq, reduceCtorEq, reduceIte, Int.reduceLE, Int.reduceLT, Int.reduceNeg, Int.reduceToNat, p11, q11, encQ, encI, encD, encW, catTwo, trO, List.map_cons, List.map_nil, List.set_cons_zero, List.set_cons_succ, List.cons_append, List.nil_append])
  simp -implicitDefEqProofs only [push_cast, Nat.reduceAdd, Nat.reduceSub, Nat.reduceMul, Nat.reduceLT, Nat.reduceLeDiff, Nat.reduceEqDiff, Nat.reduceBEq, reduceCtorEq, reduceIte, Int.reduceLE, Int.reduceLT, Int.reduceNeg, Int.reduceToNat, encT_pure, encT_len, encT_one, encT_take, List.set_cons_zero, List.set_cons_succ]
  refine gcalla [.agg [.sl (catTwo.map encD)], .agg (encQ q11), .agg (encW p11 0 false)] (.int 1110) (fun _ => trivial) (fun _ => hA) ?_ ?_
  · (try simp -implicitDefEqProofs only [push_cast, Nat.reduceAdd, Nat.reduceSub, Nat.reduceMul, Nat.reduceLT, Nat.reduceLeDiff, Nat.reduceEqDiff, Nat.reduceBEq, reduceCtorEq, reduceIte, Int.reduceLE, Int.reduceLT, Int.reduceNeg, Int.reduceToNat, p11, q11, encQ, encI, encD, encW, catTwo, trO, List.map_cons, List.map_nil, List.set_cons_zero, List.set_cons_succ, List.cons_append, List.nil_append])
  simp -implicitDefEqProofs only [push_cast, Nat.reduceAdd, Nat.reduceSub, Nat.reduceMul, Nat.reduceLT, Nat.reduceLeDiff, Nat.reduceEqDiff, Nat.reduceBEq, reduceCtorEq, reduceIte, Int.reduceLE, Int.reduceLT, Int.reduceNeg, Int.reduceToNat, encT_pure, encT_len, encT_one, encT_take, List.set_cons_zero, List.set_cons_succ]
theorem small11_ok (c : List Df) (q : Qy) (hr : q.Raw c) (p : Pl) (hok : p.Ok) : Quiet Go.Proofs.Tryz.prog 16 [.agg [.sl (c.map encD)], .agg (encQ q), .agg (encPl p)] (.bool (fewQ c q && decide ((parts p).length ≤ 100))) := by
  have hfar := Far_ok c q hr
  have hz := sizeP_ok p 100 (by omega) (by omega) hok
  have he := szP_eq p 100 (by omega)
  refine quiet_of (rs := #[.tmp 6]) Go.Proofs.Tryz.func16 rfl rfl rfl mixed rfl rfl fun H hs => ?_
  simp -implicitDefEqProofs only [push_cast, Nat.reduceAdd, Nat.reduceSub, Nat.reduceMul, Nat.reduceLT, Nat.reduceLeDiff, Nat.reduceEqDiff, Nat.reduceBEq, reduceCtorEq, reduceIte, Int.reduceLE, Int.reduceLT, Int.reduceNeg, Int.reduceToNat, encQ]
  refine callq hfar ?_
  simp -implicitDefEqProofs only [push_cast, Nat.reduceAdd, Nat.reduceSub, Nat.reduceMul, Nat.reduceLT, Nat.reduceLeDiff, Nat.reduceEqDiff, Nat.reduceBEq, reduceCtorEq, reduceIte, Int.reduceLE, Int.reduceLT, Int.reduceNeg, Int.reduceToNat, encQ]
  refine gcallq' (.int (szP p 100)) (fun h => by simpa using h) (fun _ => hz) ?_
  have hd : decide (szP p 100 ≤ 100) = decide ((parts p).length ≤ 100) := by rw [he, decide_eq_decide]; omega
  cases hf : fewQ c q
  · simp -implicitDefEqProofs only [push_cast, Nat.reduceAdd, Nat.reduceSub, Nat.reduceMul, Nat.reduceLT, Nat.reduceLeDiff, Nat.reduceEqDiff, Nat.reduceBEq, reduceCtorEq, reduceIte, Int.reduceLE, Int.reduceLT, Int.reduceNeg, Int.reduceToNat, encQ, Bool.false_eq_true, if_false, Int.reduceEq]
  · simp -implicitDefEqProofs only [push_cast, Nat.reduceAdd, Nat.reduceSub, Nat.reduceMul, Nat.reduceLT, Nat.reduceLeDiff, Nat.reduceEqDiff, Nat.reduceBEq, reduceCtorEq, reduceIte, Int.reduceLE, Int.reduceLT, Int.reduceNeg, Int.reduceToNat, encQ, if_true]
    exact hd
theorem sameT_refl (t : Tr) : sameT t t = true := by
  induction t using Tr.ind with
  | h o l ih =>
    rw [sameT, decide_eq_true rfl, Bool.true_and]
    exact sameTL_all rfl fun i h h' => ih _ (List.getElem_mem h)
theorem bytesPl : Program.bytesOf Go.Proofs.Tryz.prog 32 = 56 := by kernel_rfl
theorem shp_I2 {n : Nat} {vs : List AV} (h : Shp Go.Proofs.Tryz.prog n 29 vs) : ∃ a b : Int, vs = [.int a, .int b] := by
  obtain ⟨m, parts, _, rfl, hl, hp⟩ := shp_array Go.Proofs.Tryz.underlying29 h
  match parts, hl with
  | [p0, p1], _ =>
    obtain ⟨a, rfl, _⟩ := shp_int Go.Proofs.Tryz.underlying3 (hp p0 (by simp)).2
    obtain ⟨b, rfl, _⟩ := shp_int Go.Proofs.Tryz.underlying3 (hp p1 (by simp)).2
    exact ⟨a, b, rfl⟩
theorem shp_Pl : ∀ (n : Nat) {vs : List AV}, Shp Go.Proofs.Tryz.prog n 32 vs → ∃ p : Pl, vs = encPl p ∧ p.Ok := by
  intro n
  induction n using Nat.strongRecOn with
  | ind n ih =>
  intro vs h
  obtain ⟨m, parts, hn, rfl, hl, hp⟩ := shp_struct Go.Proofs.Tryz.underlying32 h
  match parts, hl with
  | [p0, p1, p2, p3], _ =>
    obtain ⟨op, rfl, _⟩ := shp_int Go.Proofs.Tryz.underlying3 (hp 0 _ p0 rfl rfl).2
    obtain ⟨occ, rfl, _⟩ := shp_int Go.Proofs.Tryz.underlying3 (hp 1 _ p1 rfl rfl).2
    obtain ⟨a, b, rfl⟩ := shp_I2 (hp 2 _ p2 rfl rfl).2
    obtain ⟨m', es, hm, rfl, hle, hpe⟩ := shp_slice Go.Proofs.Tryz.underlying30 (hp 3 _ p3 rfl rfl).2
    rw [bytesPl] at hle
    obtain ⟨l, rfl, hq⟩ := map_of (f := encPl) (q := fun e => e.Ok) fun x hx => ih m' (by omega) (hpe x hx).2
    refine ⟨.mk op occ a b l, by rw [encPl_mk]; rfl, .mk ?_ fun x hx => hq x hx⟩
    simp [reachBytes] at hle
    omega
theorem asV_Pl (vs : List AV) : asV Go.Proofs.Tryz.prog 32 vs = .agg vs := by simp only [asV, Go.Proofs.Tryz.underlying32]
theorem told_Pl {ts : List TypeId} {us : List AV} (h : ToldAll Go.Proofs.Tryz.prog (32 :: ts) us) : ∃ (p : Pl) (us' : List AV), us = .agg (encPl p) :: us' ∧ p.Ok ∧ ToldAll Go.Proofs.Tryz.prog ts us' := by
  simp only [ToldAll] at h
  obtain ⟨n, vs, us1, rfl, h1, h3⟩ := h
  obtain ⟨p, rfl, hk⟩ := shp_Pl n h1
  exact ⟨p, us1, by rw [asV_Pl], hk, h3⟩
end
section
attribute [local push_cast] encPl_mk encPl_take encPl_len encPl_one encPls_pure encPl_pure encT_pure encT_len encT_one encT_take
section size
attribute [local push_cast] encT_mk encTs_pure
mutual
def szT : Tr → Int → Int
  | .mk _ l, m => szTL l m 1
def szTL : List Tr → Int → Int → Int
  | [], _, n => n
  | x :: l, m, n => if n ≤ m then szTL l m (n + szT x (m - n)) else n
end
mutual
theorem szT_bound : ∀ (e : Tr) (m : Int), 0 ≤ m → 1 ≤ szT e m ∧ szT e m ≤ m + 1
  | .mk _ l, m, h => by rw [szT]; exact szTL_bound l m 1 h (by omega) (by omega)
theorem szTL_bound : ∀ (l : List Tr) (m n : Int), 0 ≤ m → 1 ≤ n → n ≤ m + 1 → 1 ≤ szTL l m n ∧ szTL l m n ≤ m + 1
  | [], m, n, h, h1, h2 => by rw [szTL]; exact ⟨h1, h2⟩
  | x :: l, m, n, h, h1, h2 => by
    rw [szTL]
    split
    · have := szT_bound x (m - n) (by omega)
      exact szTL_bound l m _ h (by omega) (by omega)
    · exact ⟨h1, h2⟩
end
theorem sizeT_ok (e : Tr) : ∀ (m : Int), 0 ≤ m → m ≤ 1000 → e.Ok → Quiet Go.Proofs.Tryz.prog 43 [.agg (encT e), .int m] (.int (szT e m)) := by
  induction e using Tr.ind with
  | h o l ih =>
  intro m h0 h1 hok
  refine quiet_of (rs := #[.tmp 4]) Go.Proofs.Tryz.func43 rfl rfl rfl mixed rfl rfl fun H hs => ?_
  obtain ⟨hl, hlo⟩ := hok
  simp -implicitDefEqProofs only [push_cast, Nat.reduceAdd, Nat.reduceSub, Nat.reduceMul, Nat.reduceLT, Nat.reduceLeDiff, Nat.reduceEqDiff, Nat.reduceBEq, reduceCtorEq, reduceIte, Int.reduceLE, Int.reduceLT, Int.reduceNeg, Int.reduceToNat]
  refine loop_at hs (σ := Nat × Int) (fun s => s.1 ≤ l.length ∧ 1 ≤ s.2 ∧ s.2 ≤ m + 1 ∧ szTL (l.drop s.1) m s.2 = szTL l m 1) (fun s => l.length - s.1)
    (fun s => [(2, .ptr (H.nxt + 0) 2 0 0), (1, .int m), (5, .int s.2), (6, .int s.1)]) (fun _ => [some (.cells 2 [encT (.mk o l)] 0)]) [some 0] (0, 1) ⟨by simp, by omega, by omega, rfl⟩ rfl ?_ ?_ ?_
  · (try simp -implicitDefEqProofs only [push_cast, Nat.reduceAdd, Nat.reduceSub, Nat.reduceMul, Nat.reduceLT, Nat.reduceLeDiff, Nat.reduceEqDiff, Nat.reduceBEq, reduceCtorEq, reduceIte, Int.reduceLE, Int.reduceLT, Int.reduceNeg, Int.reduceToNat])
  · (try simp -implicitDefEqProofs only [push_cast, Nat.reduceAdd, Nat.reduceSub, Nat.reduceMul, Nat.reduceLT, Nat.reduceLeDiff, Nat.reduceEqDiff, Nat.reduceBEq, reduceCtorEq, reduceIte, Int.reduceLE, Int.reduceLT, Int.reduceNeg, Int.reduceToNat])
  rintro ⟨i, s⟩ ⟨h2, h3, h4, h5⟩
  dsimp only at h2 h3 h4 h5
  by_cases hi : i < l.length
  · have hi' : ((i : Int) < (l.length : Int)) = True := by simp; omega
    have hi0 : (0 ≤ (i : Int)) = True := by simp
    by_cases hm : s ≤ m
    · have hm' : (s ≤ m) = True := by simp [hm]
      simp -implicitDefEqProofs only [push_cast, Nat.reduceAdd, Nat.reduceSub, Nat.reduceMul, Nat.reduceLT, Nat.reduceLeDiff, Nat.reduceEqDiff, Nat.reduceBEq, reduceCtorEq, reduceIte, Int.reduceLE, Int.reduceLT, Int.reduceNeg, Int.reduceToNat, hi', hi0, hm', encTs_get l i hi]
      rw [wrap64 (n := m - s) (by omega) (by omega)]
      refine callq (ih _ (List.getElem_mem hi) _ (by omega) (by omega) (hlo _ (List.getElem_mem hi))) ?_
      have hb := szT_bound l[i] (m - s) (by omega)
      simp -implicitDefEqProofs only [push_cast, Nat.reduceAdd, Nat.reduceSub, Nat.reduceMul, Nat.reduceLT, Nat.reduceLeDiff, Nat.reduceEqDiff, Nat.reduceBEq, reduceCtorEq, reduceIte, Int.reduceLE, Int.reduceLT, Int.reduceNeg, Int.reduceToNat]
      rw [wrap64 (n := s + _) (by omega) (by omega), wrap64 (n := (i : Int) + 1) (by omega) (by omega)]
      refine next_at [some 0] (i + 1, s + szT l[i] (m - s)) ⟨by omega, by omega, by omega, ?_⟩ (by dsimp only; omega) rfl ?_ ?_
      · rw [← h5, List.drop_eq_getElem_cons hi, szTL, if_pos hm]
      · (try simp -implicitDefEqProofs only [push_cast, Nat.reduceAdd, Nat.reduceSub, Nat.reduceMul, Nat.reduceLT, Nat.reduceLeDiff, Nat.reduceEqDiff, Nat.reduceBEq, reduceCtorEq, reduceIte, Int.reduceLE, Int.reduceLT, Int.reduceNeg, Int.reduceToNat])
      · (try simp -implicitDefEqProofs only [push_cast, Nat.reduceAdd, Nat.reduceSub, Nat.reduceMul, Nat.reduceLT, Nat.reduceLeDiff, Nat.reduceEqDiff, Nat.reduceBEq, reduceCtorEq, reduceIte, Int.reduceLE, Int.reduceLT, Int.reduceNeg, Int.reduceToNat])
    · have hm' : (s ≤ m) = False := by simp [hm]
      simp -implicitDefEqProofs only [push_cast, Nat.reduceAdd, Nat.reduceSub, Nat.reduceMul, Nat.reduceLT, Nat.reduceLeDiff, Nat.reduceEqDiff, Nat.reduceBEq, reduceCtorEq, reduceIte, Int.reduceLE, Int.reduceLT, Int.reduceNeg, Int.reduceToNat, hi', hi0, hm', encTs_get l i hi]
      rw [szT, ← h5, List.drop_eq_getElem_cons hi, szTL, if_neg hm]
  · have hi' : ((i : Int) < (l.length : Int)) = False := by simp; omega
    simp -implicitDefEqProofs only [push_cast, Nat.reduceAdd, Nat.reduceSub, Nat.reduceMul, Nat.reduceLT, Nat.reduceLeDiff, Nat.reduceEqDiff, Nat.reduceBEq, reduceCtorEq, reduceIte, Int.reduceLE, Int.reduceLT, Int.reduceNeg, Int.reduceToNat, hi']
    rw [szT, ← h5, List.drop_eq_nil_of_le (by omega), szTL]
end size
def firstT (i : Nat) : Tr := if i = 1 then .leaf 0 else .join (.leaf 0) (.leaf 1)
theorem First2_ok : Quiet Go.Proofs.Tryz.prog 95 [.int 2] (.agg (encT (.join (.leaf 0) (.leaf 1)))) := by
  have h2 : firstT 2 = .join (.leaf 0) (.leaf 1) := rfl
  refine quiet_of (rs := #[.cell 2 39]) Go.Proofs.Tryz.func95 rfl rfl rfl mixed rfl rfl fun H hs => ?_
  simp -implicitDefEqProofs only [push_cast, Nat.reduceAdd, Nat.reduceSub, Nat.reduceMul, Nat.reduceLT, Nat.reduceLeDiff, Nat.reduceEqDiff, Nat.reduceBEq, reduceCtorEq, reduceIte, Int.reduceLE, Int.reduceLT, Int.reduceNeg, Int.reduceToNat, Int.reduceEq]
  refine callq (Leaf_ok 0) ?_
  simp -implicitDefEqProofs only [push_cast, Nat.reduceAdd, Nat.reduceSub, Nat.reduceMul, Nat.reduceLT, Nat.reduceLeDiff, Nat.reduceEqDiff, Nat.reduceBEq, reduceCtorEq, reduceIte, Int.reduceLE, Int.reduceLT, Int.reduceNeg, Int.reduceToNat, Int.reduceEq]
  refine loop_at hs (σ := Nat) (fun i => i = 1 ∨ i = 2) (fun i => 2 - i)
    (fun i => [(4, .int i), (0, .int 2), (2, .ptr (H.nxt + 0) 2 0 0), (3, .ptr (H.nxt + 1) 2 0 0)]) (fun i => [some (.cells 2 [[.int 0, .sl []]] 0), some (.cells 2 [encT (firstT i)] 0)]) [some 0, some 1] 1 (.inl rfl) rfl ?_ ?_ ?_
  · (try simp -implicitDefEqProofs only [push_cast, Nat.reduceAdd, Nat.reduceSub, Nat.reduceMul, Nat.reduceLT, Nat.reduceLeDiff, Nat.reduceEqDiff, Nat.reduceBEq, reduceCtorEq, reduceIte, Int.reduceLE, Int.reduceLT, Int.reduceNeg, Int.reduceToNat, Int.reduceAdd])
  · (try simp -implicitDefEqProofs only [push_cast, Nat.reduceAdd, Nat.reduceSub, Nat.reduceMul, Nat.reduceLT, Nat.reduceLeDiff, Nat.reduceEqDiff, Nat.reduceBEq, reduceCtorEq, reduceIte, Int.reduceLE, Int.reduceLT, Int.reduceNeg, Int.reduceToNat, firstT, Tr.leaf, encT_mk, List.map_nil])
  rintro i (rfl | rfl)
  · have hl := Leaf_ok 1
    have hj := Join_ok (.leaf 0) (.leaf 1)
    have e1 : firstT 1 = .leaf 0 := rfl
    rw [e1]
    generalize Tr.leaf 0 = u at hj h2 ⊢
    generalize Tr.leaf 1 = v at hj hl h2
    simp -implicitDefEqProofs only [push_cast, Nat.reduceAdd, Nat.reduceSub, Nat.reduceMul, Nat.reduceLT, Nat.reduceLeDiff, Nat.reduceEqDiff, Nat.reduceBEq, reduceCtorEq, reduceIte, Int.reduceLE, Int.reduceLT, Int.reduceNeg, Int.reduceToNat, Int.reduceLT, Int.reduceAdd]
    refine areg_at 4 (by kernel_rfl) (by kernel_rfl) ?_
    simp -implicitDefEqProofs only [push_cast, Nat.reduceAdd, Nat.reduceSub, Nat.reduceMul, Nat.reduceLT, Nat.reduceLeDiff, Nat.reduceEqDiff, Nat.reduceBEq, reduceCtorEq, reduceIte, Int.reduceLE, Int.reduceLT, Int.reduceNeg, Int.reduceToNat]
    refine ahdq hl ?_
    simp -implicitDefEqProofs only [push_cast, Nat.reduceAdd, Nat.reduceSub, Nat.reduceMul, Nat.reduceLT, Nat.reduceLeDiff, Nat.reduceEqDiff, Nat.reduceBEq, reduceCtorEq, reduceIte, Int.reduceLE, Int.reduceLT, Int.reduceNeg, Int.reduceToNat]
    refine ahdq hj ?_
    have hd : (encT u).drop 2 = [] := List.drop_of_length_le (by rw [encT_len]; exact Nat.le_refl _)
    simp -implicitDefEqProofs only [push_cast, Nat.reduceAdd, Nat.reduceSub, Nat.reduceMul, Nat.reduceLT, Nat.reduceLeDiff, Nat.reduceEqDiff, Nat.reduceBEq, reduceCtorEq, reduceIte, Int.reduceLE, Int.reduceLT, Int.reduceNeg, Int.reduceToNat, hd]
    rw [show IntKind.wrap .i64 ((1 : Int) + 1) = 2 by decide]
    refine next_at [some 0, some 1] 2 (.inr rfl) (by decide) rfl ?_ ?_
    · (try simp -implicitDefEqProofs only [push_cast, Nat.reduceAdd, Nat.reduceSub, Nat.reduceMul, Nat.reduceLT, Nat.reduceLeDiff, Nat.reduceEqDiff, Nat.reduceBEq, reduceCtorEq, reduceIte, Int.reduceLE, Int.reduceLT, Int.reduceNeg, Int.reduceToNat, Int.reduceAdd])
    · (try simp -implicitDefEqProofs only [push_cast, Nat.reduceAdd, Nat.reduceSub, Nat.reduceMul, Nat.reduceLT, Nat.reduceLeDiff, Nat.reduceEqDiff, Nat.reduceBEq, reduceCtorEq, reduceIte, Int.reduceLE, Int.reduceLT, Int.reduceNeg, Int.reduceToNat, h2, hd, List.append_nil])
  · rw [h2]
    generalize Tr.join (.leaf 0) (.leaf 1) = u
    simp -implicitDefEqProofs only [push_cast, Nat.reduceAdd, Nat.reduceSub, Nat.reduceMul, Nat.reduceLT, Nat.reduceLeDiff, Nat.reduceEqDiff, Nat.reduceBEq, reduceCtorEq, reduceIte, Int.reduceLE, Int.reduceLT, Int.reduceNeg, Int.reduceToNat, Int.reduceLT, Int.reduceAdd]
theorem Two13_ok : Quiet Go.Proofs.Tryz.prog 94 [] (.agg (encQ oneQ9)) := by
  refine quiet_of (rs := #[.cell 0 28]) Go.Proofs.Tryz.func94 rfl rfl rfl mixed rfl rfl fun H hs => ?_
  simp -implicitDefEqProofs only [push_cast, Nat.reduceAdd, Nat.reduceSub, Nat.reduceMul, Nat.reduceLT, Nat.reduceLeDiff, Nat.reduceEqDiff, Nat.reduceBEq, reduceCtorEq, reduceIte, Int.reduceLE, Int.reduceLT, Int.reduceNeg, Int.reduceToNat]
  (try simp -implicitDefEqProofs only [push_cast, Nat.reduceAdd, Nat.reduceSub, Nat.reduceMul, Nat.reduceLT, Nat.reduceLeDiff, Nat.reduceEqDiff, Nat.reduceBEq, reduceCtorEq, reduceIte, Int.reduceLE, Int.reduceLT, Int.reduceNeg, Int.reduceToNat, oneQ9, pair9, encQ, encI, encE_mk, List.map_cons, List.map_nil])
theorem leafV (c : List Df) (q : Qy) (d : Nat) (o : Int) : bestF c q (d + 1) (.leaf o) (-1) = (costP c q (.mk 0 o 0 0 []), .mk 0 o 0 0 []) := by rw [bestF, if_pos rfl]; rfl
theorem leafS (c : List Df) (q : Qy) (d : Nat) (o col : Int) (hcol : col ≠ -1) : bestF c q (d + 1) (.leaf o) col = sortC c q (.leaf o) col (bestF c q (d + 1) (.leaf o) (-1)) := by
  rw [bestF, bestF, if_neg hcol, if_pos rfl]
  have e : candC c q (bestF c q d) (.leaf o) col = [] := by show (if col = -1 then _ else _) = _; rw [if_neg hcol]
  rw [e]; rfl
theorem joinV (c : List Df) (q : Qy) (d : Nat) (a b : Tr) (col : Int) : bestF c q (d + 1) (.join a b) col = leastC ((waysP q a.set b.set col).flatMap (wayC c q (bestF c q d a) (bestF c q d b) a.set b.set col) ++ (if col = -1 then [] else [sortC c q (.join a b) col (bestF c q (d + 1) (.join a b) (-1))])) := by
  rw [bestF]
  by_cases h : col = -1
  · subst h
    rw [if_pos rfl, if_pos rfl, List.append_nil]; rfl
  · rw [if_neg h, if_neg h, bestF, if_pos rfl]; rfl
theorem set0 : (Tr.leaf 0).set = 1 := by decide +kernel
theorem set1 : (Tr.leaf 1).set = 2 := by decide +kernel
theorem set01 : (Tr.join (.leaf 0) (.leaf 1)).set = 3 := by decide +kernel
theorem oneQ9_2 : rowsQ catTwo oneQ9 2 = 10 := by rw [oneQ9_rows]; decide +kernel
theorem oneQ9_b0 : baseR catTwo oneQ9 0 = 100 := by
  rw [baseR, if_pos ⟨oneQ9_may, by decide, by decide⟩]
  decide +kernel
theorem leaf9_may {o : Int} (h : o = 0 ∨ o = 1) : mayP catTwo oneQ9 (.mk 0 o 0 0 []) = true := by
  rcases h with rfl | rfl
  · exact mayP_iff.2 ⟨oneQ9_may, rfl, by decide +kernel, by decide +kernel, rfl⟩
  · exact mayP_iff.2 ⟨oneQ9_may, rfl, by decide +kernel, by decide +kernel, rfl⟩
theorem leaf9_0 : costP catTwo oneQ9 (.mk 0 0 0 0 []) = 100 := by
  rw [costP_tree (leaf9_may (.inl rfl))]
  show scanK (baseR catTwo oneQ9 0) = 100
  rw [oneQ9_b0]; decide
theorem leaf9_1 : costP catTwo oneQ9 (.mk 0 1 0 0 []) = 10 := by
  rw [costP_tree (leaf9_may (.inr rfl))]
  show scanK (baseR catTwo oneQ9 1) = 10
  rw [oneQ9_b]; decide
theorem oneQ9_new (a b : Int) : oneQ9.new a b = (if holdsI (bor .i64 a b) 3 && !holdsI a 3 && !holdsI b 3 then [0] else []) := by
  rw [Qy.new, oneQ9_idx]
  simp only [newT, ownT, pair9_set]
theorem oneQ9_pairs : oneQ9.pairs 1 2 = [(0, 4)] := by
  rw [Qy.pairs, oneQ9_new]
  decide +kernel
theorem oneQ9_cols0 : (oneQ9.cols catTwo 1).contains 0 = true := by rw [Qy.cols, if_pos oneQ9_may]; decide +kernel
theorem oneQ9_cols3 : (oneQ9.cols catTwo 3).contains 0 = true := by rw [Qy.cols, if_pos oneQ9_may]; decide +kernel
theorem ways9 : waysP oneQ9 1 2 (-1) = [nestW, .mk 2 0 0 4 [], .mk 3 0 0 4 []] := by unfold waysP; rw [oneQ9_pairs]; rfl
theorem ways9c : waysP oneQ9 1 2 0 = [nestW, .mk 3 0 0 4 []] := by unfold waysP; rw [oneQ9_pairs]; rfl
theorem b9_0 : bestF catTwo oneQ9 3 (.leaf 0) (-1) = (100, .mk 0 0 0 0 []) := by rw [leafV, leaf9_0]
theorem b9_1 : bestF catTwo oneQ9 3 (.leaf 1) (-1) = (10, .mk 0 1 0 0 []) := by rw [leafV, leaf9_1]
theorem b9_0s : bestF catTwo oneQ9 3 (.leaf 0) 0 = (800, .mk 4 0 0 0 [.mk 0 0 0 0 []]) := by
  rw [leafS _ _ _ _ _ (by decide), b9_0, sortC, set0, sortedC, oneQ9_1]
  exact congrArg (fun n : Int => (n, Pl.mk 4 0 0 0 [Pl.mk 0 0 0 0 []])) (by decide +kernel : addK [100, sortK 100] = 800)
theorem b9_1s : bestF catTwo oneQ9 3 (.leaf 1) 4 = (50, .mk 4 0 4 0 [.mk 0 1 0 0 []]) := by
  rw [leafS _ _ _ _ _ (by decide), b9_1, sortC, set1, sortedC, oneQ9_2]
  exact congrArg (fun n : Int => (n, Pl.mk 4 0 4 0 [Pl.mk 0 1 0 0 []])) (by decide +kernel : addK [10, sortK 10] = 50)
theorem w9_n (col : Int) : wayC catTwo oneQ9 (bestF catTwo oneQ9 3 (.leaf 0)) (bestF catTwo oneQ9 3 (.leaf 1)) 1 2 col nestW = if col ≠ -1 ∧ (oneQ9.cols catTwo 1).contains col = false then [] else [(addK [(bestF catTwo oneQ9 3 (.leaf 0) col).1, (bestF catTwo oneQ9 3 (.leaf 1) (-1)).1, nestK (rowsQ catTwo oneQ9 1) (rowsQ catTwo oneQ9 2)], .mk 1 0 0 0 [(bestF catTwo oneQ9 3 (.leaf 0) col).2, (bestF catTwo oneQ9 3 (.leaf 1) (-1)).2])] := rfl
theorem w9_h (col : Int) : wayC catTwo oneQ9 (bestF catTwo oneQ9 3 (.leaf 0)) (bestF catTwo oneQ9 3 (.leaf 1)) 1 2 col (.mk 2 0 0 4 []) = [(addK [(bestF catTwo oneQ9 3 (.leaf 0) (-1)).1, (bestF catTwo oneQ9 3 (.leaf 1) (-1)).1, hashK (rowsQ catTwo oneQ9 1) (rowsQ catTwo oneQ9 2)], .mk 2 0 0 4 [(bestF catTwo oneQ9 3 (.leaf 0) (-1)).2, (bestF catTwo oneQ9 3 (.leaf 1) (-1)).2])] := by
  unfold wayC
  rw [if_neg (fun h => h.1 rfl)]; rfl
theorem w9_m (col : Int) : wayC catTwo oneQ9 (bestF catTwo oneQ9 3 (.leaf 0)) (bestF catTwo oneQ9 3 (.leaf 1)) 1 2 col (.mk 3 0 0 4 []) = [(addK [(bestF catTwo oneQ9 3 (.leaf 0) 0).1, (bestF catTwo oneQ9 3 (.leaf 1) 4).1, mergeK (rowsQ catTwo oneQ9 1) (rowsQ catTwo oneQ9 2)], .mk 3 0 0 4 [(bestF catTwo oneQ9 3 (.leaf 0) 0).2, (bestF catTwo oneQ9 3 (.leaf 1) 4).2])] := by
  unfold wayC
  rw [if_neg (fun h => by have h2 : (oneQ9.cols catTwo 1).contains 0 = false := h.2; rw [oneQ9_cols0] at h2; cases h2)]; rfl
theorem b9_j : bestF catTwo oneQ9 4 (.join (.leaf 0) (.leaf 1)) (-1) = (230, .mk 2 0 0 4 [.mk 0 0 0 0 [], .mk 0 1 0 0 []]) := by
  rw [joinV, set0, set1, ways9, List.flatMap_cons, List.flatMap_cons, List.flatMap_cons, List.flatMap_nil, w9_n, w9_h, w9_m, if_neg (fun h => h.1 rfl), b9_0, b9_1, b9_0s, b9_1s, oneQ9_1, oneQ9_2, if_pos rfl]
  rfl
theorem b9_js : bestF catTwo oneQ9 4 (.join (.leaf 0) (.leaf 1)) 0 = (930, .mk 4 0 0 0 [.mk 2 0 0 4 [.mk 0 0 0 0 [], .mk 0 1 0 0 []]]) := by
  rw [joinV, set0, set1, ways9c, List.flatMap_cons, List.flatMap_cons, List.flatMap_nil, w9_n, w9_m, if_neg (fun h => by have h2 := h.2; rw [oneQ9_cols0] at h2; cases h2), b9_j, sortC, set01, sortedC, b9_1, b9_0s, b9_1s, oneQ9_1, oneQ9_2, oneQ9_3, if_neg (by decide)]
  rfl
theorem valid9 {col : Int} (h : col = -1 ∨ col = 0) : validT catTwo oneQ9 (.join (.leaf 0) (.leaf 1)) col = true := by
  unfold validT
  rw [oneQ9_may, set01]
  rcases h with rfl | rfl
  · decide +kernel
  · rw [oneQ9_cols3]
    decide +kernel
theorem bestR9 {col n : Int} {p : Pl} (h : col = -1 ∨ col = 0) (hb : bestF catTwo oneQ9 4 (.join (.leaf 0) (.leaf 1)) col = (n, p)) : bestR catTwo oneQ9 (.join (.leaf 0) (.leaf 1)) col = (n, p, true) := by
  rw [bestR, if_pos (valid9 h), hb]
set_option maxHeartbeats 2000000 in
theorem awake13_ok : Quiet Go.Proofs.Tryz.prog 41 [] (.bool true) := by
  have hto : (Tr.join (.leaf 0) (.leaf 1)).Ok := treeP_ok (.mk 1 0 0 0 [.mk 0 0 0 0 [], .mk 0 1 0 0 []])
  have hB1 := Best_ok catTwo (by decide) oneQ9 oneQ9_ok (by decide) _ hto (-1)
  rw [bestR9 (.inl rfl) b9_j] at hB1
  have hB2 := Best_ok catTwo (by decide) oneQ9 oneQ9_ok (by decide) _ hto 0
  rw [bestR9 (.inr rfl) b9_js] at hB2
  have hW := Ways_ok oneQ9 oneQ9_ok 1 2 (-1)
  rw [ways9] at hW
  have hF := First2_ok
  have hT := Two13_ok
  dsimp only at hB1 hB2
  generalize Tr.join (.leaf 0) (.leaf 1) = t at hB1 hB2 hF
  rw [encPl_mk] at hB1 hB2
  generalize [Pl.mk 0 0 0 0 [], Pl.mk 0 1 0 0 []] = l1 at hB1
  generalize [Pl.mk 2 0 0 4 _] = l2 at hB2
  generalize oneQ9 = q at hB1 hB2 hW hT
  refine quiet_of (rs := #[.tmp 0]) Go.Proofs.Tryz.func41 rfl rfl rfl mixed rfl rfl fun H hs => ?_
  simp -implicitDefEqProofs only [push_cast, Nat.reduceAdd, Nat.reduceSub, Nat.reduceMul, Nat.reduceLT, Nat.reduceLeDiff, Nat.reduceEqDiff, Nat.reduceBEq, reduceCtorEq, reduceIte, Int.reduceLE, Int.reduceLT, Int.reduceNeg, Int.reduceToNat]
  refine callq Two_ok ?_
  simp -implicitDefEqProofs only [push_cast, Nat.reduceAdd, Nat.reduceSub, Nat.reduceMul, Nat.reduceLT, Nat.reduceLeDiff, Nat.reduceEqDiff, Nat.reduceBEq, reduceCtorEq, reduceIte, Int.reduceLE, Int.reduceLT, Int.reduceNeg, Int.reduceToNat]
  refine ⟨rfl, ?_⟩
  refine areg_at 12 (by kernel_rfl) (by kernel_rfl) ?_
  simp -implicitDefEqProofs only [push_cast, Nat.reduceAdd, Nat.reduceSub, Nat.reduceMul, Nat.reduceLT, Nat.reduceLeDiff, Nat.reduceEqDiff, Nat.reduceBEq, reduceCtorEq, reduceIte, Int.reduceLE, Int.reduceLT, Int.reduceNeg, Int.reduceToNat]
  refine ahdq hT ?_
  simp -implicitDefEqProofs only [push_cast, Nat.reduceAdd, Nat.reduceSub, Nat.reduceMul, Nat.reduceLT, Nat.reduceLeDiff, Nat.reduceEqDiff, Nat.reduceBEq, reduceCtorEq, reduceIte, Int.reduceLE, Int.reduceLT, Int.reduceNeg, Int.reduceToNat]
  refine ahdq hF ?_
  simp -implicitDefEqProofs only [push_cast, Nat.reduceAdd, Nat.reduceSub, Nat.reduceMul, Nat.reduceLT, Nat.reduceLeDiff, Nat.reduceEqDiff, Nat.reduceBEq, reduceCtorEq, reduceIte, Int.reduceLE, Int.reduceLT, Int.reduceNeg, Int.reduceToNat]
  refine ahdq hB1 ?_
  simp -implicitDefEqProofs only [push_cast, Nat.reduceAdd, Nat.reduceSub, Nat.reduceMul, Nat.reduceLT, Nat.reduceLeDiff, Nat.reduceEqDiff, Nat.reduceBEq, reduceCtorEq, reduceIte, Int.reduceLE, Int.reduceLT, Int.reduceNeg, Int.reduceToNat]
  refine areg_at 12 (by kernel_rfl) (by kernel_rfl) ?_
  simp -implicitDefEqProofs only [push_cast, Nat.reduceAdd, Nat.reduceSub, Nat.reduceMul, Nat.reduceLT, Nat.reduceLeDiff, Nat.reduceEqDiff, Nat.reduceBEq, reduceCtorEq, reduceIte, Int.reduceLE, Int.reduceLT, Int.reduceNeg, Int.reduceToNat]
  refine ahdq hT ?_
  simp -implicitDefEqProofs only [push_cast, Nat.reduceAdd, Nat.reduceSub, Nat.reduceMul, Nat.reduceLT, Nat.reduceLeDiff, Nat.reduceEqDiff, Nat.reduceBEq, reduceCtorEq, reduceIte, Int.reduceLE, Int.reduceLT, Int.reduceNeg, Int.reduceToNat]
  refine ahdq hF ?_
  simp -implicitDefEqProofs only [push_cast, Nat.reduceAdd, Nat.reduceSub, Nat.reduceMul, Nat.reduceLT, Nat.reduceLeDiff, Nat.reduceEqDiff, Nat.reduceBEq, reduceCtorEq, reduceIte, Int.reduceLE, Int.reduceLT, Int.reduceNeg, Int.reduceToNat]
  refine ahdq hB2 ?_
  simp -implicitDefEqProofs only [push_cast, Nat.reduceAdd, Nat.reduceSub, Nat.reduceMul, Nat.reduceLT, Nat.reduceLeDiff, Nat.reduceEqDiff, Nat.reduceBEq, reduceCtorEq, reduceIte, Int.reduceLE, Int.reduceLT, Int.reduceNeg, Int.reduceToNat, Int.reduceEq]
  refine gcallq' (.agg (encQ q)) (fun _ => trivial) (fun _ => hT) ?_
  simp -implicitDefEqProofs only [push_cast, Nat.reduceAdd, Nat.reduceSub, Nat.reduceMul, Nat.reduceLT, Nat.reduceLeDiff, Nat.reduceEqDiff, Nat.reduceBEq, reduceCtorEq, reduceIte, Int.reduceLE, Int.reduceLT, Int.reduceNeg, Int.reduceToNat]
  refine gcallq' _ (fun _ => trivial) (fun _ => hW) ?_
  simp -implicitDefEqProofs only [push_cast, Nat.reduceAdd, Nat.reduceSub, Nat.reduceMul, Nat.reduceLT, Nat.reduceLeDiff, Nat.reduceEqDiff, Nat.reduceBEq, reduceCtorEq, reduceIte, Int.reduceLE, Int.reduceLT, Int.reduceNeg, Int.reduceToNat, Int.reduceAdd, Int.reduceEq]
mutual
theorem sameT_eq : ∀ p q : Tr, sameT p q = true → p = q
  | .mk o l, .mk o' m, h => by
    simp only [sameT, Bool.and_eq_true, decide_eq_true_eq] at h
    obtain ⟨rfl, h⟩ := h
    rw [sameTL_eq l m h]
theorem sameTL_eq : ∀ l m : List Tr, sameTL l m = true → l = m
  | [], [], _ => rfl
  | x :: l, y :: m, h => by
    simp only [sameTL, Bool.and_eq_true] at h
    rw [sameT_eq x y h.1, sameTL_eq l m h.2]
  | [], _ :: _, h => by simp [sameTL] at h
  | _ :: _, [], h => by simp [sameTL] at h
end
theorem bytesT : Program.bytesOf Go.Proofs.Tryz.prog 39 = 32 := by kernel_rfl
theorem shp_T : ∀ (n : Nat) {vs : List AV}, Shp Go.Proofs.Tryz.prog n 39 vs → ∃ p : Tr, vs = encT p ∧ p.Ok := by
  intro n
  induction n using Nat.strongRecOn with
  | ind n ih =>
  intro vs h
  obtain ⟨m, parts, hn, rfl, hl, hp⟩ := shp_struct Go.Proofs.Tryz.underlying39 h
  match parts, hl with
  | [p0, p1], _ =>
    obtain ⟨occ, rfl, _⟩ := shp_int Go.Proofs.Tryz.underlying3 (hp 0 _ p0 rfl rfl).2
    obtain ⟨m', es, hm, rfl, hle, hpe⟩ := shp_slice Go.Proofs.Tryz.underlying37 (hp 1 _ p1 rfl rfl).2
    rw [bytesT] at hle
    obtain ⟨l, rfl, hq⟩ := map_of (f := encT) (q := fun e => e.Ok) fun x hx => ih m' (by omega) (hpe x hx).2
    refine ⟨.mk occ l, by rw [encT_mk]; rfl, .mk ?_ fun x hx => hq x hx⟩
    simp [reachBytes] at hle
    omega
theorem asV_T (vs : List AV) : asV Go.Proofs.Tryz.prog 39 vs = .agg vs := by simp only [asV, Go.Proofs.Tryz.underlying39]
theorem told_T {ts : List TypeId} {us : List AV} (h : ToldAll Go.Proofs.Tryz.prog (39 :: ts) us) : ∃ (p : Tr) (us' : List AV), us = .agg (encT p) :: us' ∧ p.Ok ∧ ToldAll Go.Proofs.Tryz.prog ts us' := by
  simp only [ToldAll] at h
  obtain ⟨n, vs, us1, rfl, h1, h3⟩ := h
  obtain ⟨p, rfl, hk⟩ := shp_T n h1
  exact ⟨p, us1, by rw [asV_T], hk, h3⟩
theorem few_ok' (p : Pl) : p.few = true → p.Ok := by
  induction p using Pl.ind with
  | h op occ a b l ih =>
  intro h
  have hl := form_len (few_own h)
  exact .mk (by simp only [Pl.l] at hl; omega) fun x hx => ih x hx (few_part h hx)
theorem valid_split {c : List Df} {q : Qy} {t : Tr} {col : Int} (h : validT c q t col = true) : q.may c = true ∧ t.may = true ∧ t.set < 2 ^ q.occ.length ∧ (col = -1 ∨ (q.cols c t.set).contains col = true) := by
  unfold validT at h
  simp only [Bool.and_eq_true, Bool.or_eq_true, decide_eq_true_eq] at h
  exact ⟨h.1.1.1, h.1.1.2, h.1.2, h.2⟩
theorem valid_good {c : List Df} {q : Qy} {t : Tr} {col : Int} (h : validT c q t col = true) : Good c q 4 t col (bestF c q 4 t col) := by
  obtain ⟨h1, h2, h3, h4⟩ := valid_split h
  exact best_good h1 4 t col (Nat.le_refl _) h2 h3 h4
end
section
attribute [local push_cast] encPl_mk encPl_take encPl_len encPl_one encPls_pure encPl_pure encT_pure encT_len encT_one encT_take
theorem band_zero {a b : Tr} (h : (Tr.join a b).may = true) : band .i64 a.set b.set = 0 := (join_may h).2.2.1
theorem two_valid {c : List Df} {q : Qy} {s t : Tr} : validT c q (.join s t) (-1) = (validT c q s (-1) && validT c q t (-1) && decide (band .i64 s.set t.set = 0)) := by
  have v : ∀ u : Tr, validT c q u (-1) = (q.may c && u.may && decide (u.set < 2 ^ q.occ.length)) := fun u => by unfold validT; simp
  rw [v, v, v]
  cases hm : q.may c
  · rfl
  have hn := may_len hm
  rw [Bool.eq_iff_iff]
  simp only [Bool.true_and, Bool.and_eq_true, decide_eq_true_eq]
  have rs := s.set_range
  have rt := t.set_range
  constructor
  · rintro ⟨h1, h2⟩
    obtain ⟨m1, m2, h0, he⟩ := join_may h1
    rw [he, bor_lt rs.1 rs.2 rt.1 rt.2 hn] at h2
    exact ⟨⟨⟨m1, h2.1⟩, m2, h2.2⟩, h0⟩
  · rintro ⟨⟨⟨m1, l1⟩, m2, l2⟩, h0⟩
    have hj := may_join m1 m2 h0
    exact ⟨hj, by rw [(join_may hj).2.2.2, bor_lt rs.1 rs.2 rt.1 rt.2 hn]; exact ⟨l1, l2⟩⟩
theorem two_law {c : List Df} {q : Qy} {s t : Tr} (h : validT c q (.join s t) (-1) = true) :
    (bestF c q 4 s (-1)).1 ≤ (bestF c q 4 (.join s t) (-1)).1 ∧ (bestF c q 4 t (-1)).1 ≤ (bestF c q 4 (.join s t) (-1)).1 ∧
    (bestF c q 4 (.join s t) (-1)).1 ≤ addK [(bestF c q 4 s (-1)).1, (bestF c q 4 t (-1)).1, nestK (rowsQ c q s.set) (rowsQ c q t.set)] ∧
    ((q.pairs s.set t.set).length ≠ 0 → (bestF c q 4 (.join s t) (-1)).1 ≤ addK [(bestF c q 4 s (-1)).1, (bestF c q 4 t (-1)).1, hashK (rowsQ c q s.set) (rowsQ c q t.set)]) := by
  have h2 := h
  rw [two_valid] at h2
  simp only [Bool.and_eq_true, decide_eq_true_eq] at h2
  obtain ⟨⟨hs, ht⟩, h0⟩ := h2
  obtain ⟨g1, g2, g3, _, _⟩ := valid_good h
  obtain ⟨s1, s2, s3, _, s5⟩ := valid_good hs
  obtain ⟨t1, t2, t3, _, t5⟩ := valid_good ht
  obtain ⟨v1, v2, _, _⟩ := valid_split h
  obtain ⟨_, vs, _, _⟩ := valid_split hs
  obtain ⟨_, vt, _, _⟩ := valid_split ht
  have below : ∀ p : Pl, mayP c q p = true → treeP p = .join s t → (bestF c q 4 s (-1)).1 ≤ costP c q p ∧ (bestF c q 4 t (-1)).1 ≤ costP c q p := by
    intro p
    induction p using Pl.ind with
    | h op occ a b l ih =>
    intro hm htr
    have hsub := mayP_part hm
    have hcs := (cost_sub hm).1
    rcases form_split (few_own (mayP_iff.1 hm).2.1) with ⟨rfl, rfl⟩ | ⟨rfl, x, rfl⟩ | ⟨_, x, y, rfl⟩
    · rw [treeP] at htr
      simp [Tr.leaf, Tr.join] at htr
    · rw [treeP] at htr
      have := ih x (by simp) (hsub x (by simp)) htr
      have := hcs x (by simp)
      omega
    · rw [treeP, Tr.join, Tr.join] at htr
      injection htr with _ htr
      injection htr with e1 htr
      injection htr with e2 _
      have b1 := best_le x 4 (-1) (Nat.le_refl _) (by rw [e1]; exact vs) (hsub x (by simp)) (.inl rfl)
      have b2 := best_le y 4 (-1) (Nat.le_refl _) (by rw [e2]; exact vt) (hsub y (by simp)) (.inl rfl)
      rw [e1] at b1
      rw [e2] at b2
      have := hcs x (by simp)
      have := hcs y (by simp)
      omega
  obtain ⟨b1, b2⟩ := below _ g1 g2
  rw [g3] at b1 b2
  have hl : (lvsT 4 s).1.length + (lvsT 4 t).1.length ≤ 4 := by
    have hj := (lv_may.1 v2).1
    have e3 : (lvsT 4 (.join s t)).1 = (lvsT 3 s).1 ++ (lvsT 3 t).1 := by rw [Tr.join, lvsT_two, if_pos rfl]
    have hl4 := lv4 (d := 4) (t := .join s t) v2
    rw [e3, List.length_append] at hl4
    have h3 : (lvsT 3 s).2 = true ∧ (lvsT 3 t).2 = true := by
      rw [Tr.join, lvsT_two, if_pos rfl, Bool.and_eq_true] at hj
      exact hj
    rw [lvsT_le (by omega) h3.1, lvsT_le (by omega) h3.2]
    exact hl4
  have cand : ∀ (op u v : Int), (Pl.mk op 0 u v [(bestF c q 4 s (-1)).2, (bestF c q 4 t (-1)).2]).form = true → fitP c q (.mk op 0 u v [(bestF c q 4 s (-1)).2, (bestF c q 4 t (-1)).2]) = true →
      (bestF c q 4 (.join s t) (-1)).1 ≤ addK [(bestF c q 4 s (-1)).1, (bestF c q 4 t (-1)).1, ownC c q (.mk op 0 u v [(bestF c q 4 s (-1)).2, (bestF c q 4 t (-1)).2])] := by
    intro op u v hf hfit
    rw [if_pos rfl] at s5 t5
    have hm := two_of s1 t1 (by rw [s2, t2]; exact h0) hf (by omega) hfit
    have e : treeP (.mk op 0 u v [(bestF c q 4 s (-1)).2, (bestF c q 4 t (-1)).2]) = .join s t := by rw [treeP, s2, t2]
    have := best_le _ 4 (-1) (Nat.le_refl _) (by rw [e]; exact v2) hm (.inl rfl)
    rw [e, costP_mk hm] at this
    rw [← s3, ← t3]
    exact this
  refine ⟨b1, b2, ?_, fun hp => ?_⟩
  · have := cand 1 0 0 rfl rfl
    have e : ownC c q (.mk 1 0 0 0 [(bestF c q 4 s (-1)).2, (bestF c q 4 t (-1)).2]) = nestK (rowsQ c q s.set) (rowsQ c q t.set) := by
      show nestK (rowsQ c q (treeP _).set) (rowsQ c q (treeP _).set) = _
      rw [s2, t2]
    rw [e] at this
    exact this
  · obtain ⟨p, l, hpl⟩ : ∃ p l, q.pairs s.set t.set = p :: l := by
      cases hq : q.pairs s.set t.set with
      | nil => rw [hq] at hp; exact absurd rfl hp
      | cons p l => exact ⟨p, l, rfl⟩
    have hcon : (q.pairs s.set t.set).contains (p.1, p.2) = true := by rw [hpl]; simp
    have := cand 2 p.1 p.2 (form_two (.inl rfl)) (fit_of (by rw [s2, t2]; exact hcon) (.inl rfl))
    have e : ownC c q (.mk 2 0 p.1 p.2 [(bestF c q 4 s (-1)).2, (bestF c q 4 t (-1)).2]) = hashK (rowsQ c q s.set) (rowsQ c q t.set) := by
      show hashK (rowsQ c q (treeP _).set) (rowsQ c q (treeP _).set) = _
      rw [s2, t2]
    rw [e] at this
    exact this
theorem best_some (c : List Df) (hcl : c.length ≤ 1000000) (q : Qy) (hq : q.Ok) (hp8 : q.p.length ≤ 8) (t : Tr) (ht : t.Ok) (col : Int) : ∃ (n : Int) (p : Pl), Quiet Go.Proofs.Tryz.prog 44 [.agg [.sl (c.map encD)], .agg (encQ q), .agg (encT t), .int col] (.tup [.int n, .agg (encPl p), .bool (validT c q t col)]) ∧ (validT c q t col = true → n = (bestF c q 4 t col).1) := by
  have hB := Best_ok c hcl q hq hp8 t ht col
  unfold bestR at hB
  cases hv : validT c q t col
  · rw [hv] at hB
    simp only [Bool.false_eq_true, if_false] at hB
    exact ⟨_, _, hB, fun h => by cases h⟩
  · rw [hv] at hB
    simp only [if_true] at hB
    exact ⟨_, _, hB, fun _ => rfl⟩
set_option maxHeartbeats 8000000 in
theorem implTwo_ok (c : List Df) (q : Qy) (s t : Tr) (hr : q.Raw c) (hso : s.Ok) (hto : t.Ok) : Quiet Go.Proofs.Tryz.prog 12 [.agg [.sl (c.map encD)], .agg (encQ q), .agg (encT s), .agg (encT t)] (.bool true) := by
  have hfar := Far_ok c q hr
  have hzs := sizeT_ok s 30 (by omega) (by omega) hso
  have hzt := sizeT_ok t 30 (by omega) (by omega) hto
  generalize szT s 30 = zs at hzs
  generalize szT t 30 = zt at hzt
  refine quiet_of (rs := #[.tmp 8]) Go.Proofs.Tryz.func12 rfl rfl rfl mixed rfl rfl fun H hs => ?_
  simp -implicitDefEqProofs only [push_cast, Nat.reduceAdd, Nat.reduceSub, Nat.reduceMul, Nat.reduceLT, Nat.reduceLeDiff, Nat.reduceEqDiff, Nat.reduceBEq, reduceCtorEq, reduceIte, Int.reduceLE, Int.reduceLT, Int.reduceNeg, Int.reduceToNat, encQ]
  refine callq awake13_ok ?_
  simp -implicitDefEqProofs only [push_cast, Nat.reduceAdd, Nat.reduceSub, Nat.reduceMul, Nat.reduceLT, Nat.reduceLeDiff, Nat.reduceEqDiff, Nat.reduceBEq, reduceCtorEq, reduceIte, Int.reduceLE, Int.reduceLT, Int.reduceNeg, Int.reduceToNat, encQ]
  refine gcall trivial (callq hfar ?_)
  cases hf : fewQ c q
  · simp -implicitDefEqProofs only [push_cast, Nat.reduceAdd, Nat.reduceSub, Nat.reduceMul, Nat.reduceLT, Nat.reduceLeDiff, Nat.reduceEqDiff, Nat.reduceBEq, reduceCtorEq, reduceIte, Int.reduceLE, Int.reduceLT, Int.reduceNeg, Int.reduceToNat, encQ, Bool.false_eq_true, if_false, Int.reduceEq]
    refine gcallq' (.int 0) (fun h => by cases h) (fun h => by cases h) ?_
    simp -implicitDefEqProofs only [push_cast, Nat.reduceAdd, Nat.reduceSub, Nat.reduceMul, Nat.reduceLT, Nat.reduceLeDiff, Nat.reduceEqDiff, Nat.reduceBEq, reduceCtorEq, reduceIte, Int.reduceLE, Int.reduceLT, Int.reduceNeg, Int.reduceToNat, encQ]
    refine gcallq' (.int 0) (fun h => by cases h) (fun h => by cases h) ?_
    simp -implicitDefEqProofs only [push_cast, Nat.reduceAdd, Nat.reduceSub, Nat.reduceMul, Nat.reduceLT, Nat.reduceLeDiff, Nat.reduceEqDiff, Nat.reduceBEq, reduceCtorEq, reduceIte, Int.reduceLE, Int.reduceLT, Int.reduceNeg, Int.reduceToNat, encQ]
  have hcl : c.length ≤ 1000000 := by have := (fewQ_split hf).1; omega
  have hq := ok_of_few hr hf
  have hp8 := (fewQ_split hf).2.2.1
  simp -implicitDefEqProofs only [push_cast, Nat.reduceAdd, Nat.reduceSub, Nat.reduceMul, Nat.reduceLT, Nat.reduceLeDiff, Nat.reduceEqDiff, Nat.reduceBEq, reduceCtorEq, reduceIte, Int.reduceLE, Int.reduceLT, Int.reduceNeg, Int.reduceToNat, encQ, if_true, Int.reduceEq]
  refine gcallq' (.int zs) (fun _ => by simp) (fun _ => hzs) ?_
  by_cases hzs1 : 30 < zs
  · have hd : decide (30 < zs) = true := decide_eq_true hzs1
    simp -implicitDefEqProofs only [push_cast, Nat.reduceAdd, Nat.reduceSub, Nat.reduceMul, Nat.reduceLT, Nat.reduceLeDiff, Nat.reduceEqDiff, Nat.reduceBEq, reduceCtorEq, reduceIte, Int.reduceLE, Int.reduceLT, Int.reduceNeg, Int.reduceToNat, encQ, hd]
    refine gcallq' (.int 0) (fun h => by cases h) (fun h => by cases h) ?_
    simp -implicitDefEqProofs only [push_cast, Nat.reduceAdd, Nat.reduceSub, Nat.reduceMul, Nat.reduceLT, Nat.reduceLeDiff, Nat.reduceEqDiff, Nat.reduceBEq, reduceCtorEq, reduceIte, Int.reduceLE, Int.reduceLT, Int.reduceNeg, Int.reduceToNat, encQ]
  have hd : decide (30 < zs) = false := decide_eq_false hzs1
  simp -implicitDefEqProofs only [push_cast, Nat.reduceAdd, Nat.reduceSub, Nat.reduceMul, Nat.reduceLT, Nat.reduceLeDiff, Nat.reduceEqDiff, Nat.reduceBEq, reduceCtorEq, reduceIte, Int.reduceLE, Int.reduceLT, Int.reduceNeg, Int.reduceToNat, encQ, hd]
  refine gcallq' (.int zt) (fun _ => by simp) (fun _ => hzt) ?_
  by_cases hzt1 : 30 < zt
  · have hd2 : decide (30 < zt) = true := decide_eq_true hzt1
    simp -implicitDefEqProofs only [push_cast, Nat.reduceAdd, Nat.reduceSub, Nat.reduceMul, Nat.reduceLT, Nat.reduceLeDiff, Nat.reduceEqDiff, Nat.reduceBEq, reduceCtorEq, reduceIte, Int.reduceLE, Int.reduceLT, Int.reduceNeg, Int.reduceToNat, encQ, hd2]
  have hd2 : decide (30 < zt) = false := decide_eq_false hzt1
  simp -implicitDefEqProofs only [push_cast, Nat.reduceAdd, Nat.reduceSub, Nat.reduceMul, Nat.reduceLT, Nat.reduceLeDiff, Nat.reduceEqDiff, Nat.reduceBEq, reduceCtorEq, reduceIte, Int.reduceLE, Int.reduceLT, Int.reduceNeg, Int.reduceToNat, encQ, hd2]
  have hjo : (Tr.join s t).Ok := .mk (by simp) (by
    intro x hx
    simp only [List.mem_cons, List.not_mem_nil, or_false] at hx
    rcases hx with rfl | rfl
    · exact hso
    · exact hto)
  obtain ⟨n1, p1, hB1, hn1⟩ := best_some c hcl q hq hp8 s hso (-1)
  obtain ⟨n2, p2, hB2, hn2⟩ := best_some c hcl q hq hp8 t hto (-1)
  obtain ⟨n3, p3, hB3, hn3⟩ := best_some c hcl q hq hp8 (.join s t) hjo (-1)
  have hv := two_valid (c := c) (q := q) (s := s) (t := t)
  have hlaw := two_law (c := c) (q := q) (s := s) (t := t)
  have hJ := Join_ok s t
  have hSs := SetT_ok s hso
  have hSt := SetT_ok t hto
  have hRs := Rows_ok c hcl q hq s.set
  have hRt := Rows_ok c hcl q hq t.set
  have hPr := Pairs_ok q hq s.set t.set
  generalize (bestF c q 4 s (-1)).1 = m1 at hn1 hlaw
  generalize (bestF c q 4 t (-1)).1 = m2 at hn2 hlaw
  generalize (bestF c q 4 (.join s t) (-1)).1 = m3 at hn3 hlaw
  generalize validT c q s (-1) = v1 at hB1 hn1 hv
  generalize validT c q t (-1) = v2 at hB2 hn2 hv
  generalize validT c q (.join s t) (-1) = v3 at hB3 hn3 hv hlaw
  refine callq hB1 ?_
  simp -implicitDefEqProofs only [push_cast, Nat.reduceAdd, Nat.reduceSub, Nat.reduceMul, Nat.reduceLT, Nat.reduceLeDiff, Nat.reduceEqDiff, Nat.reduceBEq, reduceCtorEq, reduceIte, Int.reduceLE, Int.reduceLT, Int.reduceNeg, Int.reduceToNat, encQ]
  refine callq hB2 ?_
  simp -implicitDefEqProofs only [push_cast, Nat.reduceAdd, Nat.reduceSub, Nat.reduceMul, Nat.reduceLT, Nat.reduceLeDiff, Nat.reduceEqDiff, Nat.reduceBEq, reduceCtorEq, reduceIte, Int.reduceLE, Int.reduceLT, Int.reduceNeg, Int.reduceToNat, encQ]
  refine areg_at 14 (by kernel_rfl) (by kernel_rfl) ?_
  simp -implicitDefEqProofs only [push_cast, Nat.reduceAdd, Nat.reduceSub, Nat.reduceMul, Nat.reduceLT, Nat.reduceLeDiff, Nat.reduceEqDiff, Nat.reduceBEq, reduceCtorEq, reduceIte, Int.reduceLE, Int.reduceLT, Int.reduceNeg, Int.reduceToNat, encQ]
  refine ahdq hJ ?_
  simp -implicitDefEqProofs only [push_cast, Nat.reduceAdd, Nat.reduceSub, Nat.reduceMul, Nat.reduceLT, Nat.reduceLeDiff, Nat.reduceEqDiff, Nat.reduceBEq, reduceCtorEq, reduceIte, Int.reduceLE, Int.reduceLT, Int.reduceNeg, Int.reduceToNat, encQ]
  refine ahdq hB3 ?_
  generalize s.set = ss at hSs hRs hPr hv hlaw
  generalize t.set = st at hSt hRt hPr hv hlaw
  cases hv3 : v3
  · rw [hv3] at hv
    simp -implicitDefEqProofs only [push_cast, Nat.reduceAdd, Nat.reduceSub, Nat.reduceMul, Nat.reduceLT, Nat.reduceLeDiff, Nat.reduceEqDiff, Nat.reduceBEq, reduceCtorEq, reduceIte, Int.reduceLE, Int.reduceLT, Int.reduceNeg, Int.reduceToNat, encQ]
    refine areg_at 15 (by kernel_rfl) (by kernel_rfl) ?_
    simp -implicitDefEqProofs only [push_cast, Nat.reduceAdd, Nat.reduceSub, Nat.reduceMul, Nat.reduceLT, Nat.reduceLeDiff, Nat.reduceEqDiff, Nat.reduceBEq, reduceCtorEq, reduceIte, Int.reduceLE, Int.reduceLT, Int.reduceNeg, Int.reduceToNat, encQ]
    refine gcallq (.int ss) (fun _ => hSs) ?_
    simp -implicitDefEqProofs only [push_cast, Nat.reduceAdd, Nat.reduceSub, Nat.reduceMul, Nat.reduceLT, Nat.reduceLeDiff, Nat.reduceEqDiff, Nat.reduceBEq, reduceCtorEq, reduceIte, Int.reduceLE, Int.reduceLT, Int.reduceNeg, Int.reduceToNat, encQ]
    refine gcallq (.int st) (fun _ => hSt) ?_
    simp -implicitDefEqProofs only [push_cast, Nat.reduceAdd, Nat.reduceSub, Nat.reduceMul, Nat.reduceLT, Nat.reduceLeDiff, Nat.reduceEqDiff, Nat.reduceBEq, reduceCtorEq, reduceIte, Int.reduceLE, Int.reduceLT, Int.reduceNeg, Int.reduceToNat, encQ]
    clear hlaw hn1 hn2 hn3 hB1 hB2 hB3
    revert hv
    cases v1 <;> cases v2 <;> cases decide (band .i64 ss st = 0) <;> simp
  · obtain ⟨l1, l2, l3, l4⟩ := hlaw hv3
    have e3 := hn3 hv3
    rw [hv3] at hv
    have hb : (v1 = true ∧ v2 = true) ∧ decide (band .i64 ss st = 0) = true := by
      have h := hv.symm
      rw [Bool.and_eq_true, Bool.and_eq_true] at h
      exact h
    obtain ⟨⟨rfl, rfl⟩, hb0⟩ := hb
    have e1 := hn1 rfl
    have e2 := hn2 rfl
    subst e1
    subst e2
    subst e3
    simp -implicitDefEqProofs only [push_cast, Nat.reduceAdd, Nat.reduceSub, Nat.reduceMul, Nat.reduceLT, Nat.reduceLeDiff, Nat.reduceEqDiff, Nat.reduceBEq, reduceCtorEq, reduceIte, Int.reduceLE, Int.reduceLT, Int.reduceNeg, Int.reduceToNat, encQ]
    refine areg_at 6 (by kernel_rfl) (by kernel_rfl) ?_
    simp -implicitDefEqProofs only [push_cast, Nat.reduceAdd, Nat.reduceSub, Nat.reduceMul, Nat.reduceLT, Nat.reduceLeDiff, Nat.reduceEqDiff, Nat.reduceBEq, reduceCtorEq, reduceIte, Int.reduceLE, Int.reduceLT, Int.reduceNeg, Int.reduceToNat, encQ]
    refine ahdq hSs ?_
    simp -implicitDefEqProofs only [push_cast, Nat.reduceAdd, Nat.reduceSub, Nat.reduceMul, Nat.reduceLT, Nat.reduceLeDiff, Nat.reduceEqDiff, Nat.reduceBEq, reduceCtorEq, reduceIte, Int.reduceLE, Int.reduceLT, Int.reduceNeg, Int.reduceToNat, encQ]
    refine ahdq hRs ?_
    simp -implicitDefEqProofs only [push_cast, Nat.reduceAdd, Nat.reduceSub, Nat.reduceMul, Nat.reduceLT, Nat.reduceLeDiff, Nat.reduceEqDiff, Nat.reduceBEq, reduceCtorEq, reduceIte, Int.reduceLE, Int.reduceLT, Int.reduceNeg, Int.reduceToNat, encQ]
    refine areg_at 6 (by kernel_rfl) (by kernel_rfl) ?_
    simp -implicitDefEqProofs only [push_cast, Nat.reduceAdd, Nat.reduceSub, Nat.reduceMul, Nat.reduceLT, Nat.reduceLeDiff, Nat.reduceEqDiff, Nat.reduceBEq, reduceCtorEq, reduceIte, Int.reduceLE, Int.reduceLT, Int.reduceNeg, Int.reduceToNat, encQ]
    refine ahdq hSt ?_
    simp -implicitDefEqProofs only [push_cast, Nat.reduceAdd, Nat.reduceSub, Nat.reduceMul, Nat.reduceLT, Nat.reduceLeDiff, Nat.reduceEqDiff, Nat.reduceBEq, reduceCtorEq, reduceIte, Int.reduceLE, Int.reduceLT, Int.reduceNeg, Int.reduceToNat, encQ]
    refine ahdq hRt ?_
    have d1 : decide (n3 < n1) = false := decide_eq_false (by omega)
    have d2 : decide (n3 < n2) = false := decide_eq_false (by omega)
    simp -implicitDefEqProofs only [push_cast, Nat.reduceAdd, Nat.reduceSub, Nat.reduceMul, Nat.reduceLT, Nat.reduceLeDiff, Nat.reduceEqDiff, Nat.reduceBEq, reduceCtorEq, reduceIte, Int.reduceLE, Int.reduceLT, Int.reduceNeg, Int.reduceToNat, encQ, d1, d2]
    refine gcallq' (.int (nestK (rowsQ c q ss) (rowsQ c q st))) (fun _ => trivial) (fun _ => NestK_ok _ _) ?_
    simp -implicitDefEqProofs only [push_cast, Nat.reduceAdd, Nat.reduceSub, Nat.reduceMul, Nat.reduceLT, Nat.reduceLeDiff, Nat.reduceEqDiff, Nat.reduceBEq, reduceCtorEq, reduceIte, Int.reduceLE, Int.reduceLT, Int.reduceNeg, Int.reduceToNat, encQ]
    refine gdo (by decide) ?_
    simp -implicitDefEqProofs only [push_cast, Nat.reduceAdd, Nat.reduceSub, Nat.reduceMul, Nat.reduceLT, Nat.reduceLeDiff, Nat.reduceEqDiff, Nat.reduceBEq, reduceCtorEq, reduceIte, Int.reduceLE, Int.reduceLT, Int.reduceNeg, Int.reduceToNat, encQ]
    refine gcall trivial ?_
    have hA1 := AddK_ok [n1, n2, nestK (rowsQ c q ss) (rowsQ c q st)] (by simp)
    have hA2 := AddK_ok [n1, n2, hashK (rowsQ c q ss) (rowsQ c q st)] (by simp)
    generalize addK [n1, n2, nestK (rowsQ c q ss) (rowsQ c q st)] = k1 at hA1 l3
    generalize addK [n1, n2, hashK (rowsQ c q ss) (rowsQ c q st)] = k2 at hA2 l4
    refine fzk H 7 3 [.sl ([n1, n2, nestK (rowsQ c q ss) (rowsQ c q st)].map encI)] (by rfl) (by omega) (by simp) ?_ ?_
    · (try simp -implicitDefEqProofs only [push_cast, Nat.reduceAdd, Nat.reduceSub, Nat.reduceMul, Nat.reduceLT, Nat.reduceLeDiff, Nat.reduceEqDiff, Nat.reduceBEq, reduceCtorEq, reduceIte, Int.reduceLE, Int.reduceLT, Int.reduceNeg, Int.reduceToNat, encI, Int.reduceEq, if_false, if_true, or_true, or_false, true_or, false_or, List.map_cons, List.map_nil, List.length_cons, List.length_nil, Int.reduceAdd])
    have d3 : decide (k1 < n3) = false := decide_eq_false (by omega)
    refine callq hA1 ?_
    simp -implicitDefEqProofs only [push_cast, Nat.reduceAdd, Nat.reduceSub, Nat.reduceMul, Nat.reduceLT, Nat.reduceLeDiff, Nat.reduceEqDiff, Nat.reduceBEq, reduceCtorEq, reduceIte, Int.reduceLE, Int.reduceLT, Int.reduceNeg, Int.reduceToNat, encQ, d3, Int.reduceEq, if_false, if_true, or_true, or_false, true_or, false_or, List.map_cons, List.map_nil, List.length_cons, List.length_nil, Int.reduceAdd]
    have hlz : decide (((q.pairs ss st).length : Int) = 0) = decide ((q.pairs ss st).length = 0) := by rw [decide_eq_decide]; omega
    by_cases hpl : (q.pairs ss st).length = 0
    · rw [decide_eq_true hpl] at hlz
      refine areg_im [135] 20 (by kernel_rfl) (by kernel_rfl) ?_
      simp -implicitDefEqProofs only [push_cast, Nat.reduceAdd, Nat.reduceSub, Nat.reduceMul, Nat.reduceLT, Nat.reduceLeDiff, Nat.reduceEqDiff, Nat.reduceBEq, reduceCtorEq, reduceIte, Int.reduceLE, Int.reduceLT, Int.reduceNeg, Int.reduceToNat, encQ, Int.reduceEq, if_false, if_true, or_true, or_false, true_or, false_or, List.map_cons, List.map_nil, List.length_cons, List.length_nil, Int.reduceAdd]
      refine ahdq hSs ?_
      simp -implicitDefEqProofs only [push_cast, Nat.reduceAdd, Nat.reduceSub, Nat.reduceMul, Nat.reduceLT, Nat.reduceLeDiff, Nat.reduceEqDiff, Nat.reduceBEq, reduceCtorEq, reduceIte, Int.reduceLE, Int.reduceLT, Int.reduceNeg, Int.reduceToNat, encQ, Int.reduceEq, if_false, if_true, or_true, or_false, true_or, false_or, List.map_cons, List.map_nil, List.length_cons, List.length_nil, Int.reduceAdd]
      refine ahdq hSt ?_
      simp -implicitDefEqProofs only [push_cast, Nat.reduceAdd, Nat.reduceSub, Nat.reduceMul, Nat.reduceLT, Nat.reduceLeDiff, Nat.reduceEqDiff, Nat.reduceBEq, reduceCtorEq, reduceIte, Int.reduceLE, Int.reduceLT, Int.reduceNeg, Int.reduceToNat, encQ, Int.reduceEq, if_false, if_true, or_true, or_false, true_or, false_or, List.map_cons, List.map_nil, List.length_cons, List.length_nil, Int.reduceAdd]
      refine ahdq hPr ?_
      simp -implicitDefEqProofs only [push_cast, Nat.reduceAdd, Nat.reduceSub, Nat.reduceMul, Nat.reduceLT, Nat.reduceLeDiff, Nat.reduceEqDiff, Nat.reduceBEq, reduceCtorEq, reduceIte, Int.reduceLE, Int.reduceLT, Int.reduceNeg, Int.reduceToNat, encQ, Int.reduceEq, if_false, if_true, or_true, or_false, true_or, false_or, List.map_cons, List.map_nil, List.length_cons, List.length_nil, Int.reduceAdd, hlz]
      refine gcallq (.int 0) (fun h => by cases h) ?_
      simp -implicitDefEqProofs only [push_cast, Nat.reduceAdd, Nat.reduceSub, Nat.reduceMul, Nat.reduceLT, Nat.reduceLeDiff, Nat.reduceEqDiff, Nat.reduceBEq, reduceCtorEq, reduceIte, Int.reduceLE, Int.reduceLT, Int.reduceNeg, Int.reduceToNat, encQ, Int.reduceEq, if_false, if_true, or_true, or_false, true_or, false_or, List.map_cons, List.map_nil, List.length_cons, List.length_nil, Int.reduceAdd]
      refine gcallq (.int 0) (fun h => by cases h) ?_
      simp -implicitDefEqProofs only [push_cast, Nat.reduceAdd, Nat.reduceSub, Nat.reduceMul, Nat.reduceLT, Nat.reduceLeDiff, Nat.reduceEqDiff, Nat.reduceBEq, reduceCtorEq, reduceIte, Int.reduceLE, Int.reduceLT, Int.reduceNeg, Int.reduceToNat, encQ, Int.reduceEq, if_false, if_true, or_true, or_false, true_or, false_or, List.map_cons, List.map_nil, List.length_cons, List.length_nil, Int.reduceAdd]
    · rw [decide_eq_false hpl] at hlz
      have d4 : decide (n3 ≤ k2) = true := decide_eq_true (l4 hpl)
      refine areg_im [135] 20 (by kernel_rfl) (by kernel_rfl) ?_
      simp -implicitDefEqProofs only [push_cast, Nat.reduceAdd, Nat.reduceSub, Nat.reduceMul, Nat.reduceLT, Nat.reduceLeDiff, Nat.reduceEqDiff, Nat.reduceBEq, reduceCtorEq, reduceIte, Int.reduceLE, Int.reduceLT, Int.reduceNeg, Int.reduceToNat, encQ, Int.reduceEq, if_false, if_true, or_true, or_false, true_or, false_or, List.map_cons, List.map_nil, List.length_cons, List.length_nil, Int.reduceAdd]
      refine ahdq hSs ?_
      simp -implicitDefEqProofs only [push_cast, Nat.reduceAdd, Nat.reduceSub, Nat.reduceMul, Nat.reduceLT, Nat.reduceLeDiff, Nat.reduceEqDiff, Nat.reduceBEq, reduceCtorEq, reduceIte, Int.reduceLE, Int.reduceLT, Int.reduceNeg, Int.reduceToNat, encQ, Int.reduceEq, if_false, if_true, or_true, or_false, true_or, false_or, List.map_cons, List.map_nil, List.length_cons, List.length_nil, Int.reduceAdd]
      refine ahdq hSt ?_
      simp -implicitDefEqProofs only [push_cast, Nat.reduceAdd, Nat.reduceSub, Nat.reduceMul, Nat.reduceLT, Nat.reduceLeDiff, Nat.reduceEqDiff, Nat.reduceBEq, reduceCtorEq, reduceIte, Int.reduceLE, Int.reduceLT, Int.reduceNeg, Int.reduceToNat, encQ, Int.reduceEq, if_false, if_true, or_true, or_false, true_or, false_or, List.map_cons, List.map_nil, List.length_cons, List.length_nil, Int.reduceAdd]
      refine ahdq hPr ?_
      simp -implicitDefEqProofs only [push_cast, Nat.reduceAdd, Nat.reduceSub, Nat.reduceMul, Nat.reduceLT, Nat.reduceLeDiff, Nat.reduceEqDiff, Nat.reduceBEq, reduceCtorEq, reduceIte, Int.reduceLE, Int.reduceLT, Int.reduceNeg, Int.reduceToNat, encQ, Int.reduceEq, if_false, if_true, or_true, or_false, true_or, false_or, List.map_cons, List.map_nil, List.length_cons, List.length_nil, Int.reduceAdd, hlz]
      refine gcallq (.int (hashK (rowsQ c q ss) (rowsQ c q st))) (fun _ => HashK_ok _ _) ?_
      simp -implicitDefEqProofs only [push_cast, Nat.reduceAdd, Nat.reduceSub, Nat.reduceMul, Nat.reduceLT, Nat.reduceLeDiff, Nat.reduceEqDiff, Nat.reduceBEq, reduceCtorEq, reduceIte, Int.reduceLE, Int.reduceLT, Int.reduceNeg, Int.reduceToNat, encQ, Int.reduceEq, if_false, if_true, or_true, or_false, true_or, false_or, List.map_cons, List.map_nil, List.length_cons, List.length_nil, Int.reduceAdd]
      refine gcallq (.int k2) (fun _ => hA2) ?_
      simp -implicitDefEqProofs only [push_cast, Nat.reduceAdd, Nat.reduceSub, Nat.reduceMul, Nat.reduceLT, Nat.reduceLeDiff, Nat.reduceEqDiff, Nat.reduceBEq, reduceCtorEq, reduceIte, Int.reduceLE, Int.reduceLT, Int.reduceNeg, Int.reduceToNat, encQ, Int.reduceEq, if_false, if_true, or_true, or_false, true_or, false_or, List.map_cons, List.map_nil, List.length_cons, List.length_nil, Int.reduceAdd, d4]
theorem implTwo_law (us : List AV) (h : ToldAll Go.Proofs.Tryz.prog Go.Proofs.Tryz.f12.params.toList us) : Quiet Go.Proofs.Tryz.prog 12 us (.bool true) := by
  have e1 : Go.Proofs.Tryz.f12.params.toList = [24, 28, 39, 39] := by kernel_rfl
  rw [e1] at h
  obtain ⟨c, q, us, rfl, _, hr, hin, h⟩ := told_CQ h
  obtain ⟨s, us, rfl, hso, h⟩ := told_T h
  obtain ⟨t, us, rfl, hto, h⟩ := told_T h
  obtain rfl := told_nil h
  exact implTwo_ok c q s t hr hso hto
end
end Go.Sim.Tryz
