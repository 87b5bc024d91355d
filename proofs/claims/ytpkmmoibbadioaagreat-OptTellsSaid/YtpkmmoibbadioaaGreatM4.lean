/- What the row rests on, part 4. Conditions: none. -/
import Derived.Test.YtpkmmoibbadioaaGreatM3
set_option linter.unusedSimpArgs false
set_option linter.unusedVariables false
set_option maxRecDepth 100000
namespace Go.Sim.Tryz
open Go Go.Sim
attribute [local push_cast] aops_cons aops_nil aopG_none aopG_some aopP_eq aopE_eq aopC_eq aopE?_eq aopC?_eq aopB_eq aopB?_eq abr anilq gopP_eq gopL_eq ahead_cons ahead_nil ahdG_none ahdG_some ahdP_eq ahdN_eq ahdC_eq ahdN?_eq ahdS_eq ahdS?_eq astoreN ahdC?_eq ghdP_eq ghdC_eq ghdC?_eq ghdZ_f ghdZ_t ahdI_eq ahdI?_eq ghdN?_eq aim_nil aim_cons isIn_nil isIn_none isIn_cons aimm aheP_eq aheA_eq aheC_eq aheC?_eq aheI?_eq aheA?_eq gheP_eq gheC_eq gheC?_eq gheZ_eq aheG_none aheG_some aheff_cons aheff_nil aapp gro_rsl gro_lit gro_esl opt_some opt_none no_eq acondT_true acondT_false acondT_lit aw_skip aw_region aw_regionD aw_seq aw_cond aw_block aw_loop aw_exit aw_label aw_ret thn_normal thn_exit thn_ret inb_normal inb_exit inb_ret qret_ret qret_normal gcond apure aeff anew acallee ares aresT aresL aresC ares1 qfin_eq ev ofV evL gokL tget tput_some tput_none initT abin aint aun aload afaddr aiaddr afield aindex aextract apick pickv_lit Bool.or_false Bool.false_or Bool.or_true Bool.true_or imp_self aslice chunk roomB abound aconv abuild afill splice alen aminmax abuiltin anil apart Value.oneCell' astore aappend srcEs abuildSlice amakeSlice amapPut alookup aput afind mget keyV sameV_int Option.isSome_some Option.isSome_none cond_true cond_false asets isEq plus_obj plus_nxt plus_add plus_set plus_del IntKind.bits Option.map_some Option.map_none Option.bind_some Option.bind_none Option.join_some Option.getD_some Option.getD_none Option.toList List.getElem?_toArray List.getElem?_cons_zero List.getElem?_cons_succ List.getElem?_nil List.length_cons List.length_nil List.length_map List.head?_cons List.cons_append List.nil_append List.append_nil List.map_cons List.map_nil List.getD_cons_zero List.getD_cons_succ List.replicate_succ List.replicate_zero List.set_cons_zero List.set_cons_succ List.take_succ_cons List.take_zero List.drop_succ_cons List.drop_zero List.all_cons List.all_nil Nat.zero_add if_true if_false true_and and_true false_and and_false true_implies implies_true forall_const Bool.and_true Bool.true_and Bool.false_and Bool.and_false Bool.true_beq Bool.false_beq Bool.not_not beq_tt beq_ff Int.toNat_natCast decide_true decide_false Bool.not_true Bool.not_false Bool.true_eq_false Bool.false_eq_true false_implies exists_prop eq_self bne_self_eq_false beq_self_eq_true decide_eq_true_eq decide_eq_false_iff_not Bool.not_eq_true' Bool.not_eq_false' AV.int AV.bool AV.nilS ne_eq not_false_eq_true not_true_eq_false exists_eq_left exists_eq_left' Nat.lt_irrefl core_lit grd_lit acells_lit one_lit core_agg grd_agg acells_agg one_agg core_tup grd_tup acells_tup one_tup core_sl grd_sl acells_sl one_sl core_esl grd_esl acells_esl one_esl core_rsl grd_rsl acells_rsl one_rsl core_ptr grd_ptr acells_ptr one_ptr core_iptr grd_iptr acells_iptr one_iptr core_clo grd_clo acells_clo one_clo core_mp grd_mp acells_mp one_mp core_any grd_any acells_any one_any core_gv grd_gv fit_agg fit_lit fit_sl fit_esl fit_rsl fit_ptr fit_iptr fit_clo fit_mp retq_ret retq_normal set_nxt set_set plus_obj_set plus_set_set app_get0 app_get app_set0 app_set List.append_assoc List.length_append List.length_set Nat.lt_add_one Nat.add_lt_add_iff_right Nat.lt_add_right_iff_pos Nat.add_lt_add_iff_left List.mem_cons List.not_mem_nil or_false forall_eq forall_eq_or_imp lt_s0 lt_s1 lt_s2 lt_s3 lt_s4 lt_s5 lt_s6 lt_s7 lt_s8 pickv_t pickv_f or_nand or_nand2 imp_and_l SealT SealOs sealO_cells sl_lit sl_any sl_agg sl_tup sl_sl sl_rsl slO sl_esl sl_nil sl_eslesl sl_eslnil sl_rslrsl sl_eslrsl sl_nilrsl sl_ptr sl_iptr sl_ptri slP sl_clo sl_mp sl_gv sll_nil sll_cons slll_nil slll_cons shut_eq shutO Option.join_none Fn.func.injEq and_self sealL_self sealLL_self seal_self PureL PureLL Pure Nat.le_refl Nat.zero_le AV.lit.injEq Value.int.injEq Value.bool.injEq false_or or_true true_or Int.natCast_zero Int.ofNat_zero Int.cast_ofNat_Int Int.natCast_add Int.natCast_one Option.some.injEq piL_is sop_nil sop_cons sop_none sop_some sopO_some sop_new shut_pi shutL_nil shutL_cons exQ_exit exQ_ret exQ_normal Go.Sim.Tryz.ty_load1 Go.Sim.Tryz.ty_zero1 Go.Sim.Tryz.ty_load2 Go.Sim.Tryz.ty_zero2 Go.Sim.Tryz.ty_und2 Go.Sim.Tryz.ty_load3 Go.Sim.Tryz.ty_zero3 Go.Sim.Tryz.ty_und3 Go.Sim.Tryz.ty_load4 Go.Sim.Tryz.ty_zero4 Go.Sim.Tryz.ty_und4 Go.Sim.Tryz.ty_load5 Go.Sim.Tryz.ty_zero5 Go.Sim.Tryz.ty_und5 Go.Sim.Tryz.ty_load9 Go.Sim.Tryz.ty_zero9 Go.Sim.Tryz.ty_und9 Go.Sim.Tryz.ty_load22 Go.Sim.Tryz.ty_zero22 Go.Sim.Tryz.ty_el22 Go.Sim.Tryz.ty_zeroE22 Go.Sim.Tryz.ty_load24 Go.Sim.Tryz.ty_zero24 Go.Sim.Tryz.ty_fld24_0 Go.Sim.Tryz.ty_part24_0 Go.Sim.Tryz.ty_struct24 Go.Sim.Tryz.ty_load25 Go.Sim.Tryz.ty_zero25 Go.Sim.Tryz.ty_el25 Go.Sim.Tryz.ty_zeroE25 Go.Sim.Tryz.ty_load26 Go.Sim.Tryz.ty_zero26 Go.Sim.Tryz.ty_el26 Go.Sim.Tryz.ty_zeroE26 Go.Sim.Tryz.ty_load28 Go.Sim.Tryz.ty_zero28 Go.Sim.Tryz.ty_fld28_0 Go.Sim.Tryz.ty_part28_0 Go.Sim.Tryz.ty_fld28_1 Go.Sim.Tryz.ty_part28_1 Go.Sim.Tryz.ty_fld28_2 Go.Sim.Tryz.ty_part28_2 Go.Sim.Tryz.ty_fld28_3 Go.Sim.Tryz.ty_part28_3 Go.Sim.Tryz.ty_fld28_4 Go.Sim.Tryz.ty_part28_4 Go.Sim.Tryz.ty_fld28_5 Go.Sim.Tryz.ty_part28_5 Go.Sim.Tryz.ty_struct28 Go.Sim.Tryz.ty_load29 Go.Sim.Tryz.ty_zero29 Go.Sim.Tryz.ty_arr29 Go.Sim.Tryz.ty_part29_0 Go.Sim.Tryz.ty_part29_1 Go.Sim.Tryz.ty_struct29 Go.Sim.Tryz.ty_load30 Go.Sim.Tryz.ty_zero30 Go.Sim.Tryz.ty_el30 Go.Sim.Tryz.ty_zeroE30 Go.Sim.Tryz.ty_load32 Go.Sim.Tryz.ty_zero32 Go.Sim.Tryz.ty_fld32_0 Go.Sim.Tryz.ty_part32_0 Go.Sim.Tryz.ty_fld32_1 Go.Sim.Tryz.ty_part32_1 Go.Sim.Tryz.ty_fld32_2 Go.Sim.Tryz.ty_part32_2 Go.Sim.Tryz.ty_fld32_3 Go.Sim.Tryz.ty_part32_3 Go.Sim.Tryz.ty_struct32 Go.Sim.Tryz.ty_load34 Go.Sim.Tryz.ty_zero34 Go.Sim.Tryz.ty_fld34_0 Go.Sim.Tryz.ty_part34_0 Go.Sim.Tryz.ty_fld34_1 Go.Sim.Tryz.ty_part34_1 Go.Sim.Tryz.ty_fld34_2 Go.Sim.Tryz.ty_part34_2 Go.Sim.Tryz.ty_struct34 Go.Sim.Tryz.ty_load41 Go.Sim.Tryz.ty_zero41 Go.Sim.Tryz.ty_el41 Go.Sim.Tryz.ty_zeroE41 Go.Sim.Tryz.ty_load47 Go.Sim.Tryz.ty_zero47 Go.Sim.Tryz.ty_el47 Go.Sim.Tryz.ty_zeroE47 Go.Sim.Tryz.ty_load52 Go.Sim.Tryz.ty_zero52 Go.Sim.Tryz.ty_fld52_0 Go.Sim.Tryz.ty_part52_0 Go.Sim.Tryz.ty_fld52_1 Go.Sim.Tryz.ty_part52_1 Go.Sim.Tryz.ty_struct52 Go.Sim.Tryz.ty_load58 Go.Sim.Tryz.ty_zero58 Go.Sim.Tryz.ty_fld58_0 Go.Sim.Tryz.ty_part58_0 Go.Sim.Tryz.ty_fld58_1 Go.Sim.Tryz.ty_part58_1 Go.Sim.Tryz.ty_struct58 Go.Sim.Tryz.ty_load60 Go.Sim.Tryz.ty_zero60 Go.Sim.Tryz.ty_fld60_0 Go.Sim.Tryz.ty_part60_0 Go.Sim.Tryz.ty_fld60_1 Go.Sim.Tryz.ty_part60_1 Go.Sim.Tryz.ty_struct60 Go.Sim.Tryz.ty_load62 Go.Sim.Tryz.ty_zero62 Go.Sim.Tryz.ty_fld62_0 Go.Sim.Tryz.ty_part62_0 Go.Sim.Tryz.ty_fld62_1 Go.Sim.Tryz.ty_part62_1 Go.Sim.Tryz.ty_fld62_2 Go.Sim.Tryz.ty_part62_2 Go.Sim.Tryz.ty_fld62_3 Go.Sim.Tryz.ty_part62_3 Go.Sim.Tryz.ty_struct62 Go.Sim.Tryz.ty_load73 Go.Sim.Tryz.ty_zero73 Go.Sim.Tryz.ty_el73 Go.Sim.Tryz.ty_zeroE73 Go.Sim.Tryz.ty_load75 Go.Sim.Tryz.ty_zero75 Go.Sim.Tryz.ty_fld75_0 Go.Sim.Tryz.ty_part75_0 Go.Sim.Tryz.ty_struct75 Go.Sim.Tryz.ty_load79 Go.Sim.Tryz.ty_zero79 Go.Sim.Tryz.ty_load80 Go.Sim.Tryz.ty_zero80 Go.Sim.Tryz.ty_el80 Go.Sim.Tryz.ty_zeroE80 Go.Sim.Tryz.ty_load82 Go.Sim.Tryz.ty_zero82 Go.Sim.Tryz.ty_fld82_0 Go.Sim.Tryz.ty_part82_0 Go.Sim.Tryz.ty_fld82_1 Go.Sim.Tryz.ty_part82_1 Go.Sim.Tryz.ty_fld82_2 Go.Sim.Tryz.ty_part82_2 Go.Sim.Tryz.ty_struct82 Go.Sim.Tryz.ty_load87 Go.Sim.Tryz.ty_zero87 Go.Sim.Tryz.ty_fld87_0 Go.Sim.Tryz.ty_part87_0 Go.Sim.Tryz.ty_fld87_1 Go.Sim.Tryz.ty_part87_1 Go.Sim.Tryz.ty_struct87 Go.Sim.Tryz.ty_load90 Go.Sim.Tryz.ty_zero90 Go.Sim.Tryz.ty_arr90 Go.Sim.Tryz.ty_part90_0 Go.Sim.Tryz.ty_part90_1 Go.Sim.Tryz.ty_struct90 Go.Sim.Tryz.ty_load92 Go.Sim.Tryz.ty_zero92 Go.Sim.Tryz.ty_load103 Go.Sim.Tryz.ty_zero103 Go.Sim.Tryz.ty_fld103_0 Go.Sim.Tryz.ty_part103_0 Go.Sim.Tryz.ty_fld103_1 Go.Sim.Tryz.ty_part103_1 Go.Sim.Tryz.ty_struct103 Go.Sim.Tryz.ty_load107 Go.Sim.Tryz.ty_zero107 Go.Sim.Tryz.ty_und107 Go.Sim.Tryz.ty_load110 Go.Sim.Tryz.ty_zero110 Go.Sim.Tryz.ty_und110 Go.Sim.Tryz.ty_load116 Go.Sim.Tryz.ty_zero116 Go.Sim.Tryz.ty_fld116_0 Go.Sim.Tryz.ty_part116_0 Go.Sim.Tryz.ty_struct116 Go.Sim.Tryz.ty_load117 Go.Sim.Tryz.ty_zero117 Go.Sim.Tryz.ty_load118 Go.Sim.Tryz.ty_zero118 Go.Sim.Tryz.ty_el118 Go.Sim.Tryz.ty_zeroE118 Go.Sim.Tryz.ty_load119 Go.Sim.Tryz.ty_zero119 Go.Sim.Tryz.ty_el119 Go.Sim.Tryz.ty_zeroE119 Go.Sim.Tryz.ty_load120 Go.Sim.Tryz.ty_zero120 Go.Sim.Tryz.ty_load131 Go.Sim.Tryz.ty_zero131 Go.Sim.Tryz.ty_load137 Go.Sim.Tryz.ty_zero137 Go.Sim.Tryz.ty_el137 Go.Sim.Tryz.ty_zeroE137 Go.Sim.Tryz.ty_load144 Go.Sim.Tryz.ty_zero144 Go.Sim.Tryz.ty_load147 Go.Sim.Tryz.ty_zero147 Go.Sim.Tryz.ty_und147 Go.Sim.Tryz.ty_load151 Go.Sim.Tryz.ty_zero151 Go.Sim.Tryz.ty_el151 Go.Sim.Tryz.ty_zeroE151 Go.Sim.Tryz.ty_load154 Go.Sim.Tryz.ty_zero154 Go.Sim.Tryz.ty_fld154_0 Go.Sim.Tryz.ty_part154_0 Go.Sim.Tryz.ty_struct154 Go.Sim.Tryz.ty_load164 Go.Sim.Tryz.ty_zero164 Go.Sim.Tryz.ty_load168 Go.Sim.Tryz.ty_zero168 Go.Sim.Tryz.ty_und168 Go.Sim.Tryz.ty_vzero154 Go.Sim.Tryz.ty_load171 Go.Sim.Tryz.ty_zero171 Go.Sim.Tryz.ty_fld171_0 Go.Sim.Tryz.ty_part171_0 Go.Sim.Tryz.ty_fld171_1 Go.Sim.Tryz.ty_part171_1 Go.Sim.Tryz.ty_fld171_2 Go.Sim.Tryz.ty_part171_2 Go.Sim.Tryz.ty_struct171 Go.Sim.Tryz.ty_load173 Go.Sim.Tryz.ty_zero173 Go.Sim.Tryz.ty_load175 Go.Sim.Tryz.ty_zero175 Go.Sim.Tryz.ty_und175 Go.Sim.Tryz.ty_load182 Go.Sim.Tryz.ty_zero182 Go.Sim.Tryz.ty_und182 Go.Sim.Tryz.ty_load185 Go.Sim.Tryz.ty_zero185 Go.Sim.Tryz.ty_load188 Go.Sim.Tryz.ty_zero188 Go.Sim.Tryz.ty_und188 Go.Sim.Tryz.ty_load192 Go.Sim.Tryz.ty_zero192 Go.Sim.Tryz.ty_load195 Go.Sim.Tryz.ty_zero195
section
attribute [local push_cast] encPl_mk encPl_take encPl_len encPl_one encPls_pure encPl_pure
def setOfP (p:Pl):Int:=if p.tree.2 then p.tree.1.set else 0
theorem tree_ok (p:Pl):p.tree.1.Ok:=by
 unfold Pl.tree
 split
 ·exact treeP_ok p
 ·exact .mk (by simp) (by simp)
theorem few_own {op occ a b:Int} {l:List Pl} (h:(Pl.mk op occ a b l).few = true):(Pl.mk op occ a b l).form = true:=by
 unfold Pl.few at h
 rw [Bool.and_eq_true] at h
 exact forms_own h.2
theorem OrderR_ok (p:Pl):p.Ok → Quiet Go.Proofs.Tryz.prog 186 [.agg (encPl p)] (.int p.order):=by
 induction p using Pl.ind with
 | h op occ a b l ih =>
 intro hok
 have hF:=FewR_ok _ hok
 obtain ⟨hl,hlo⟩:=hok
 unfold Pl.order
 refine quiet_of (rs:=#[.tmp 2]) Go.Proofs.Tryz.func186 rfl rfl rfl mixed rfl rfl fun H hs=>?_
 simp -implicitDefEqProofs only [push_cast,Nat.reduceAdd,Nat.reduceSub,Nat.reduceMul,Nat.reduceLT,Nat.reduceLeDiff,Nat.reduceEqDiff,Nat.reduceBEq,reduceCtorEq,reduceIte,Int.reduceLE,Int.reduceLT,Int.reduceNeg,Int.reduceToNat]
 rw [encPl_mk] at hF
 refine callq hF ?_
 cases hf:(Pl.mk op occ a b l).few
 ·simp -implicitDefEqProofs only [push_cast,Nat.reduceAdd,Nat.reduceSub,Nat.reduceMul,Nat.reduceLT,Nat.reduceLeDiff,Nat.reduceEqDiff,Nat.reduceBEq,reduceCtorEq,reduceIte,Int.reduceLE,Int.reduceLT,Int.reduceNeg,Int.reduceToNat,Bool.false_eq_true,if_false]
 rcases form_split (few_own hf) with ⟨rfl,rfl⟩ | ⟨rfl,x,rfl⟩ | ⟨ho,x,y,rfl⟩
 ·simp -implicitDefEqProofs only [push_cast,Nat.reduceAdd,Nat.reduceSub,Nat.reduceMul,Nat.reduceLT,Nat.reduceLeDiff,Nat.reduceEqDiff,Nat.reduceBEq,reduceCtorEq,reduceIte,Int.reduceLE,Int.reduceLT,Int.reduceNeg,Int.reduceToNat,if_true,orderL,Int.reduceEq,or_self,if_false]
 ·simp -implicitDefEqProofs only [push_cast,Nat.reduceAdd,Nat.reduceSub,Nat.reduceMul,Nat.reduceLT,Nat.reduceLeDiff,Nat.reduceEqDiff,Nat.reduceBEq,reduceCtorEq,reduceIte,Int.reduceLE,Int.reduceLT,Int.reduceNeg,Int.reduceToNat,if_true,orderL,Int.reduceEq,or_false,or_true,true_or,if_false]
  decide
 ·have hx:=ih x (by simp) (hlo x (by simp))
  have hfx:x.few = true:=few_part hf (by simp)
  have hox:x.order = orderL x:=by unfold Pl.order; rw [if_pos hfx]
  rw [hox] at hx
  rcases ho with rfl | rfl | rfl
  ·simp -implicitDefEqProofs only [push_cast,Nat.reduceAdd,Nat.reduceSub,Nat.reduceMul,Nat.reduceLT,Nat.reduceLeDiff,Nat.reduceEqDiff,Nat.reduceBEq,reduceCtorEq,reduceIte,Int.reduceLE,Int.reduceLT,Int.reduceNeg,Int.reduceToNat,if_true,orderL,Int.reduceEq,List.map_cons,List.map_nil,List.length_cons,List.length_nil,Int.reduceAdd]
   refine callq hx ?_
   simp -implicitDefEqProofs only [push_cast,Nat.reduceAdd,Nat.reduceSub,Nat.reduceMul,Nat.reduceLT,Nat.reduceLeDiff,Nat.reduceEqDiff,Nat.reduceBEq,reduceCtorEq,reduceIte,Int.reduceLE,Int.reduceLT,Int.reduceNeg,Int.reduceToNat]
  ·simp -implicitDefEqProofs only [push_cast,Nat.reduceAdd,Nat.reduceSub,Nat.reduceMul,Nat.reduceLT,Nat.reduceLeDiff,Nat.reduceEqDiff,Nat.reduceBEq,reduceCtorEq,reduceIte,Int.reduceLE,Int.reduceLT,Int.reduceNeg,Int.reduceToNat,if_true,orderL,Int.reduceEq,or_self,if_false]
  ·simp -implicitDefEqProofs only [push_cast,Nat.reduceAdd,Nat.reduceSub,Nat.reduceMul,Nat.reduceLT,Nat.reduceLeDiff,Nat.reduceEqDiff,Nat.reduceBEq,reduceCtorEq,reduceIte,Int.reduceLE,Int.reduceLT,Int.reduceNeg,Int.reduceToNat,if_true,orderL,Int.reduceEq,or_true,or_false,true_or,if_false]
   decide
theorem SetP_ok (p:Pl) (hok:p.Ok):Quiet Go.Proofs.Tryz.prog 165 [.agg (encPl p)] (.int (setOfP p)):=by
 have hT:=TreeR_ok p hok
 have hS:=SetR_ok _ (tree_ok p)
 unfold setOfP
 generalize p.tree = tr at hT hS ⊢
 obtain ⟨t,is⟩:=tr
 dsimp only at hT hS ⊢
 refine quiet_of (rs:=#[.tmp 2]) Go.Proofs.Tryz.func165 rfl rfl rfl mixed rfl rfl fun H hs=>?_
 push_cast -implicitDefEqProofs [eq_self,iff_self]
 refine callq hT ?_
 cases is
 ·push_cast -implicitDefEqProofs [eq_self,iff_self,encT_pure,encT_len,encT_one,encT_take,Bool.false_eq_true,if_false]
 ·push_cast -implicitDefEqProofs [eq_self,iff_self,encT_pure,encT_len,encT_one,encT_take,if_true]
  refine callq hS ?_
  push_cast -implicitDefEqProofs [eq_self,iff_self]
end
section
attribute [local push_cast] encPl_mk encPl_take encPl_len encPl_one encPls_pure encPl_pure
theorem partSet_ok (p:Pl) (hf:(parts p).all Pl.form = true):Quiet Go.Proofs.Tryz.prog 133 [.agg (encPl p)] (.int (treeP p).set):=by
 have hT:=treeOf_ok p hf
 have hS:=SetT_ok (treeP p) (treeP_ok p)
 refine quiet_of (rs:=#[.tmp 2]) Go.Proofs.Tryz.func133 rfl rfl rfl mixed rfl rfl fun H hs=>?_
 push_cast -implicitDefEqProofs [eq_self,iff_self]
 refine callq hT ?_
 push_cast -implicitDefEqProofs [eq_self,iff_self]
 refine callq hS ?_
 push_cast -implicitDefEqProofs [eq_self,iff_self]
theorem Order_ok (p:Pl) (hok:p.Ok):Quiet Go.Proofs.Tryz.prog 37 [.agg (encPl p)] (.int p.order):=by
 have hF:=Few_ok p hok
 unfold Pl.order
 refine quiet_of (rs:=#[.tmp 2]) Go.Proofs.Tryz.func37 rfl rfl rfl mixed rfl rfl fun H hs=>?_
 simp -implicitDefEqProofs only [push_cast,Nat.reduceAdd,Nat.reduceSub,Nat.reduceMul,Nat.reduceLT,Nat.reduceLeDiff,Nat.reduceEqDiff,Nat.reduceBEq,reduceCtorEq,reduceIte,Int.reduceLE,Int.reduceLT,Int.reduceNeg,Int.reduceToNat]
 refine callq hF ?_
 cases hf:p.few
 ·simp -implicitDefEqProofs only [push_cast,Nat.reduceAdd,Nat.reduceSub,Nat.reduceMul,Nat.reduceLT,Nat.reduceLeDiff,Nat.reduceEqDiff,Nat.reduceBEq,reduceCtorEq,reduceIte,Int.reduceLE,Int.reduceLT,Int.reduceNeg,Int.reduceToNat,Bool.false_eq_true,if_false]
 rw [if_pos rfl]
 simp -implicitDefEqProofs only [push_cast,Nat.reduceAdd,Nat.reduceSub,Nat.reduceMul,Nat.reduceLT,Nat.reduceLeDiff,Nat.reduceEqDiff,Nat.reduceBEq,reduceCtorEq,reduceIte,Int.reduceLE,Int.reduceLT,Int.reduceNeg,Int.reduceToNat]
 refine loop_at hs (σ:=Pl) (fun q=>q.few = true ∧ orderL q = orderL p) (fun q=>(parts q).length)
  (fun q=>[(1, .ptr (H.nxt + 0) 5 0 0)]) (fun q=>[some (.cells 5 [encPl q] 0)]) [some 0] p ⟨hf,rfl⟩ rfl ?_ ?_ ?_
 ·(try simp -implicitDefEqProofs only [push_cast,Nat.reduceAdd,Nat.reduceSub,Nat.reduceMul,Nat.reduceLT,Nat.reduceLeDiff,Nat.reduceEqDiff,Nat.reduceBEq,reduceCtorEq,reduceIte,Int.reduceLE,Int.reduceLT,Int.reduceNeg,Int.reduceToNat])
 ·(try simp -implicitDefEqProofs only [push_cast,Nat.reduceAdd,Nat.reduceSub,Nat.reduceMul,Nat.reduceLT,Nat.reduceLeDiff,Nat.reduceEqDiff,Nat.reduceBEq,reduceCtorEq,reduceIte,Int.reduceLE,Int.reduceLT,Int.reduceNeg,Int.reduceToNat])
 rintro ⟨op,occ,a,b,l⟩ ⟨hq,ho⟩
 rw [← ho]
 rcases form_split (few_own hq) with ⟨rfl,rfl⟩ | ⟨rfl,x,rfl⟩ | ⟨hop,x,y,rfl⟩
 ·simp -implicitDefEqProofs only [push_cast,Nat.reduceAdd,Nat.reduceSub,Nat.reduceMul,Nat.reduceLT,Nat.reduceLeDiff,Nat.reduceEqDiff,Nat.reduceBEq,reduceCtorEq,reduceIte,Int.reduceLE,Int.reduceLT,Int.reduceNeg,Int.reduceToNat,orderL,Int.reduceEq,or_self,if_false]
 ·simp -implicitDefEqProofs only [push_cast,Nat.reduceAdd,Nat.reduceSub,Nat.reduceMul,Nat.reduceLT,Nat.reduceLeDiff,Nat.reduceEqDiff,Nat.reduceBEq,reduceCtorEq,reduceIte,Int.reduceLE,Int.reduceLT,Int.reduceNeg,Int.reduceToNat,orderL,Int.reduceEq,or_false,or_true,true_or,if_false,if_true]
  decide
 ·rcases hop with rfl | rfl | rfl
  ·simp -implicitDefEqProofs only [push_cast,Nat.reduceAdd,Nat.reduceSub,Nat.reduceMul,Nat.reduceLT,Nat.reduceLeDiff,Nat.reduceEqDiff,Nat.reduceBEq,reduceCtorEq,reduceIte,Int.reduceLE,Int.reduceLT,Int.reduceNeg,Int.reduceToNat,Int.reduceEq,List.map_cons,List.map_nil,List.length_cons,List.length_nil,Int.reduceAdd]
   refine next_at [some 0] x ⟨few_part hq (by simp), ?_⟩ ?_ rfl ?_ ?_
   ·simp [orderL]
   ·rw [parts_mk,List.length_cons]; have:=partsPl_len (l:=[x,y]) (x:=x) (by simp); omega
   ·(try simp -implicitDefEqProofs only [push_cast,Nat.reduceAdd,Nat.reduceSub,Nat.reduceMul,Nat.reduceLT,Nat.reduceLeDiff,Nat.reduceEqDiff,Nat.reduceBEq,reduceCtorEq,reduceIte,Int.reduceLE,Int.reduceLT,Int.reduceNeg,Int.reduceToNat])
   ·(try simp -implicitDefEqProofs only [push_cast,Nat.reduceAdd,Nat.reduceSub,Nat.reduceMul,Nat.reduceLT,Nat.reduceLeDiff,Nat.reduceEqDiff,Nat.reduceBEq,reduceCtorEq,reduceIte,Int.reduceLE,Int.reduceLT,Int.reduceNeg,Int.reduceToNat])
  ·simp -implicitDefEqProofs only [push_cast,Nat.reduceAdd,Nat.reduceSub,Nat.reduceMul,Nat.reduceLT,Nat.reduceLeDiff,Nat.reduceEqDiff,Nat.reduceBEq,reduceCtorEq,reduceIte,Int.reduceLE,Int.reduceLT,Int.reduceNeg,Int.reduceToNat,orderL,Int.reduceEq,or_self,if_false]
  ·simp -implicitDefEqProofs only [push_cast,Nat.reduceAdd,Nat.reduceSub,Nat.reduceMul,Nat.reduceLT,Nat.reduceLeDiff,Nat.reduceEqDiff,Nat.reduceBEq,reduceCtorEq,reduceIte,Int.reduceLE,Int.reduceLT,Int.reduceNeg,Int.reduceToNat,orderL,Int.reduceEq,or_true,or_false,true_or,if_false,if_true]
   decide
end
section
attribute [local push_cast] encE_mk encE_take encE_len encV encE_one encEs_pure encE_pure
theorem mayR_ok (v:Vl):Quiet Go.Proofs.Tryz.prog 183 [.agg (encV v)] (.bool v.may):=by
 refine quiet_of (rs:=#[.tmp 2]) Go.Proofs.Tryz.func183 rfl rfl rfl mixed rfl rfl fun H hs=>?_
 push_cast -implicitDefEqProofs [eq_self,iff_self]
 (try push_cast -implicitDefEqProofs [eq_self,iff_self])
 simp only [Vl.may]
 grind
end
section
attribute [local push_cast] encE_mk encE_take encE_len encV encE_one encEs_pure encE_pure
/- What may be is fine in each part. -/
mutual
theorem may_fineS:∀ (e:Ex) (d n:Int),(eachS mayStep e d n).2 = true → e.Fine
 | .mk op col k n l,d,s,h=>by
  rw [eachS] at h
  split at h
  ·rename_i h1
   refine ⟨?_,may_fineL l _ _ h⟩
   simp only [mayStep,Bool.and_eq_true] at h1
   exact h1.2
  ·cases h
theorem may_fineL:∀ (l:List Ex) (d n:Int),(eachL mayStep l d n).2 = true → ∀ x ∈ l,x.Fine
 | [],_,_,_=>by simp
 | x :: l,d,s,h=>by
  rw [eachL] at h
  split at h
  ·rename_i h1
   intro y hy
   rcases List.mem_cons.1 hy with h2 | hy
   ·rw [h2]; exact may_fineS x _ _ h1
   ·exact may_fineL l _ _ h y hy
  ·cases h
end
theorem may_fine {e:Ex} (h:e.may = true):e.Fine:=may_fineS e 1 0 h
def Ex.eval (e:Ex) (cols:List Int) (row:List Vl):Vl:=if e.may then evalE cols row e else .bad
def Ex.keeps (e:Ex) (cols:List Int) (row:List Vl):Bool:=(e.eval cols row).true?
theorem few_ok (e:Ex) (hok:e.Ok) (m:Int) (h0:0 ≤ m) (h1:m ≤ 1000):Quiet Go.Proofs.Tryz.prog 81 [.agg (encE e), .int m] (.bool (decide (sz e m ≤ m))):=by
 refine quiet_of (rs:=#[.tmp 4]) Go.Proofs.Tryz.func81 rfl rfl rfl mixed rfl rfl fun H hs=>?_
 push_cast -implicitDefEqProofs [eq_self,iff_self]
 refine callq (size_ok e m h0 h1 hok) ?_
 push_cast -implicitDefEqProofs [eq_self,iff_self]
 (try push_cast -implicitDefEqProofs [eq_self,iff_self])
def Ex.pair (e:Ex):Int × Int × Bool :=
 match e with
 | .mk op _ _ _ [a,b]=>if e.may && decide (op = 6) && decide (a.op = 1) && decide (b.op = 1) && !decide (a.col = b.col) then (a.col,b.col,true) else (0,0,false)
 | _=>(0,0,false)
theorem Pair_ok (e:Ex) (hok:e.Ok):Quiet Go.Proofs.Tryz.prog 129 [.agg (encE e)] (.tup [.int e.pair.1, .int e.pair.2.1, .bool e.pair.2.2]):=by
 obtain ⟨op,col,k,n,l⟩:=e
 refine quiet_of (rs:=#[.tmp 2, .tmp 3, .tmp 4]) Go.Proofs.Tryz.func129 rfl rfl rfl mixed rfl rfl fun H hs=>?_
 have hm:=mayE_ok _ hok
 simp only [encE_mk] at hm
 simp -implicitDefEqProofs only [push_cast,Nat.reduceAdd,Nat.reduceSub,Nat.reduceMul,Nat.reduceLT,Nat.reduceLeDiff,Nat.reduceEqDiff,Nat.reduceBEq,reduceCtorEq,reduceIte,Int.reduceLE,Int.reduceLT,Int.reduceNeg,Int.reduceToNat]
 refine callq hm ?_
 simp -implicitDefEqProofs only [push_cast,Nat.reduceAdd,Nat.reduceSub,Nat.reduceMul,Nat.reduceLT,Nat.reduceLeDiff,Nat.reduceEqDiff,Nat.reduceBEq,reduceCtorEq,reduceIte,Int.reduceLE,Int.reduceLT,Int.reduceNeg,Int.reduceToNat]
 refine ⟨fun h=>?_,fun h=>?_⟩
 ·have hz:(Ex.mk op col k n l).pair = (0,0,false):=by
   unfold Ex.pair
   split
   ·rename_i a b heq
    injection heq with e1 e2 e3 e4 e5
    subst e1 e2 e3 e4 e5
    rw [if_neg (by grind)]
   ·rfl
  rw [hz]
  (try simp -implicitDefEqProofs only [push_cast,Nat.reduceAdd,Nat.reduceSub,Nat.reduceMul,Nat.reduceLT,Nat.reduceLeDiff,Nat.reduceEqDiff,Nat.reduceBEq,reduceCtorEq,reduceIte,Int.reduceLE,Int.reduceLT,Int.reduceNeg,Int.reduceToNat])
 ·have hmay:(Ex.mk op col k n l).may = true:=by grind
  have hop:op = 6:=by grind
  have h2:l.length = 2:=by
   obtain ⟨hp,_⟩:=may_fine hmay
   simp only [Ex.part,Ex.op,Ex.l,Bool.and_eq_true,hop] at hp
   have h3:=of_decide_eq_true hp.1.1.2.1
   have h4:=of_decide_eq_true hp.1.1.2.2
   simp [wayLo,wayHi] at h3 h4
   omega
  obtain ⟨a,b,rfl⟩:∃ a b,l = [a,b]:=by
   match l,h2 with
   | [a,b],_=>exact ⟨a,b,rfl⟩
  refine areg_at 12 (by kernel_rfl) (by kernel_rfl) ?_
  obtain ⟨ao,ac,ak,an,al⟩:=a
  obtain ⟨bo,bc,bk,bn,bl⟩:=b
  simp -implicitDefEqProofs only [push_cast,Nat.reduceAdd,Nat.reduceSub,Nat.reduceMul,Nat.reduceLT,Nat.reduceLeDiff,Nat.reduceEqDiff,Nat.reduceBEq,reduceCtorEq,reduceIte,Int.reduceLE,Int.reduceLT,Int.reduceNeg,Int.reduceToNat]
  refine ⟨by simp,by simp,fun h1=>?_,fun h1=>?_⟩
  ·have hz:(Ex.mk op col k n [Ex.mk ao ac ak an al,Ex.mk bo bc bk bn bl]).pair = (0,0,false):=by
    simp only [Ex.pair,hmay,hop,Ex.op,Ex.col]
    rw [if_neg (by grind)]
   rw [hz]
   (try simp -implicitDefEqProofs only [push_cast,Nat.reduceAdd,Nat.reduceSub,Nat.reduceMul,Nat.reduceLT,Nat.reduceLeDiff,Nat.reduceEqDiff,Nat.reduceBEq,reduceCtorEq,reduceIte,Int.reduceLE,Int.reduceLT,Int.reduceNeg,Int.reduceToNat])
  ·have hz:(Ex.mk op col k n [Ex.mk ao ac ak an al,Ex.mk bo bc bk bn bl]).pair = (ac,bc,true):=by
    simp only [Ex.pair,hmay,hop,Ex.op,Ex.col]
    rw [if_pos (by grind)]
   rw [hz]
   refine areg_at 7 (by kernel_rfl) (by kernel_rfl) ?_
   simp -implicitDefEqProofs only [push_cast,Nat.reduceAdd,Nat.reduceSub,Nat.reduceMul,Nat.reduceLT,Nat.reduceLeDiff,Nat.reduceEqDiff,Nat.reduceBEq,reduceCtorEq,reduceIte,Int.reduceLE,Int.reduceLT,Int.reduceNeg,Int.reduceToNat]
   (try simp -implicitDefEqProofs only [push_cast,Nat.reduceAdd,Nat.reduceSub,Nat.reduceMul,Nat.reduceLT,Nat.reduceLeDiff,Nat.reduceEqDiff,Nat.reduceBEq,reduceCtorEq,reduceIte,Int.reduceLE,Int.reduceLT,Int.reduceNeg,Int.reduceToNat])
mutual
def hasE (c:Int):Ex → Bool
 | .mk op col _ _ l=>(decide (op = 1) && decide (col = c)) || hasL c l
def hasL (c:Int):List Ex → Bool
 | []=>false
 | x :: l=>hasE c x || hasL c l
end
theorem has_ok (e:Ex) (c:Int):e.Ok → Quiet Go.Proofs.Tryz.prog 139 [.agg (encE e), .int c] (.bool (hasE c e)):=by
 induction e using Ex.ind with
 | h op col k n l ih =>
 intro hok
 obtain ⟨hl,hlo⟩:=hok
 refine quiet_of (rs:=#[.tmp 4]) Go.Proofs.Tryz.func139 rfl rfl rfl mixed rfl rfl fun H hs=>?_
 push_cast -implicitDefEqProofs [eq_self,iff_self]
 refine ⟨fun h=>?_,fun h=>?_⟩
 ·(try push_cast -implicitDefEqProofs [eq_self,iff_self])
  rw [hasE,h]; rfl
 ·refine loop_rule hs (σ:=Nat) (fun i=>i ≤ l.length ∧ hasL c (l.drop i) = hasL c l) (fun i=>l.length - i)
   (fun i=>[(2, .ptr (H.nxt + 0) 5 0 0),(1, .int c),(5, .int i)]) (fun _=>[some (.cells 5 [encE (.mk op col k n l)] 0)]) 0 ⟨by omega,rfl⟩ ?_ ?_ ?_
  ·(try push_cast -implicitDefEqProofs [eq_self,iff_self])
  ·(try push_cast -implicitDefEqProofs [eq_self,iff_self])
  ·rintro i ⟨h2,h3⟩
   by_cases hi:i < l.length
   ·have hi':((i:Int) < (l.length:Int)) = True:=by simp; omega
    have hi0:(0 ≤ (i:Int)) = True:=by simp
    have hd:=List.drop_eq_getElem_cons hi
    push_cast -implicitDefEqProofs [eq_self,iff_self,hi',hi0,encEs_get l i hi]
    refine callq (ih _ (List.getElem_mem hi) (hlo _ (List.getElem_mem hi))) ?_
    push_cast -implicitDefEqProofs [eq_self,iff_self]
    refine ⟨fun hb=>?_,fun hb=>?_⟩
    ·(try push_cast -implicitDefEqProofs [eq_self,iff_self])
     rw [hasE,← h3,hd,hasL,hb]
     simp
    ·rw [wrap64 (n:=(i:Int) + 1) (by omega) (by omega)]
     refine next_intro (i + 1) ⟨by omega, ?_⟩ (by omega) ?_ ?_
     ·rw [← h3,hd,hasL,hb]; rfl
     ·(try push_cast -implicitDefEqProofs [eq_self,iff_self])
     ·(try push_cast -implicitDefEqProofs [eq_self,iff_self])
   ·have hi':((i:Int) < (l.length:Int)) = False:=by simp; omega
    push_cast -implicitDefEqProofs [eq_self,iff_self,hi']
    (try push_cast -implicitDefEqProofs [eq_self,iff_self])
    rw [hasE,← h3,List.drop_eq_nil_of_le (by omega),hasL,h]; rfl
end
section
attribute [local push_cast] encE_mk encE_take encE_len encV encE_one encEs_pure encE_pure
mutual
def partsR:Ex → Int → Int
 | .mk _ _ _ _ l,d=>if 6 < d then 100 else partsL l (d + 1) 1
def partsL:List Ex → Int → Int → Int
 | [],_,n=>n
 | x :: l,d,n=>if n < 31 then partsL l d (IntKind.wrap .i64 (n + partsR x d)) else n
end
theorem partsR_ok (e:Ex):∀ (d:Int),0 ≤ d → e.Ok → Quiet Go.Proofs.Tryz.prog 160 [.agg (encE e), .int d] (.int (partsR e d)):=by
 induction e using Ex.ind with
 | h op col k n l ih =>
 intro d h0 hok
 refine quiet_of (rs:=#[.tmp 4]) Go.Proofs.Tryz.func160 rfl rfl rfl mixed rfl rfl fun H hs=>?_
 obtain ⟨hl,hlo⟩:=hok
 rw [partsR]
 by_cases hd:6 < d
 ·push_cast -implicitDefEqProofs [eq_self,iff_self,hd]
  (try push_cast -implicitDefEqProofs [eq_self,iff_self])
 ·push_cast -implicitDefEqProofs [eq_self,iff_self,hd]
  refine loop_at hs (σ:=Nat × Int) (fun s=>s.1 ≤ l.length ∧ partsL (l.drop s.1) (d + 1) s.2 = partsL l (d + 1) 1) (fun s=>l.length - s.1)
   (fun s=>[(2, .ptr (H.nxt + 0) 5 0 0),(1, .int d),(5, .int s.2),(6, .int s.1)]) (fun _=>[some (.cells 5 [encE (.mk op col k n l)] 0)]) [some 0] (0,1) ⟨by simp,rfl⟩ rfl ?_ ?_ ?_
  ·(try push_cast -implicitDefEqProofs [eq_self,iff_self])
  ·(try push_cast -implicitDefEqProofs [eq_self,iff_self])
  ·rintro ⟨i,m⟩ ⟨h2,h5⟩
   dsimp only at h2 h5
   by_cases hi:i < l.length
   ·have hi':((i:Int) < (l.length:Int)) = True:=by simp; omega
    have hi0:(0 ≤ (i:Int)) = True:=by simp
    by_cases hm:m < 31
    ·push_cast -implicitDefEqProofs [eq_self,iff_self,hi',hi0,hm,encEs_get l i hi]
     rw [wrap64 (n:=d + 1) (by omega) (by omega)]
     refine callq (ih _ (List.getElem_mem hi) _ (by omega) (hlo _ (List.getElem_mem hi))) ?_
     push_cast -implicitDefEqProofs [eq_self,iff_self]
     rw [wrap64 (n:=(i:Int) + 1) (by omega) (by omega)]
     refine next_at [some 0] (i + 1,IntKind.wrap .i64 (m + partsR l[i] (d + 1))) ⟨by omega, ?_⟩ (by dsimp only; omega) rfl ?_ ?_
     ·rw [← h5,List.drop_eq_getElem_cons hi,partsL,if_pos hm]
     ·(try push_cast -implicitDefEqProofs [eq_self,iff_self])
     ·(try push_cast -implicitDefEqProofs [eq_self,iff_self])
    ·push_cast -implicitDefEqProofs [eq_self,iff_self,hi',hi0,hm]; (try push_cast -implicitDefEqProofs [eq_self,iff_self])
     rw [← h5,List.drop_eq_getElem_cons hi,partsL,if_neg hm]
   ·have hi':((i:Int) < (l.length:Int)) = False:=by simp; omega
    push_cast -implicitDefEqProofs [eq_self,iff_self,hi']; (try push_cast -implicitDefEqProofs [eq_self,iff_self])
    rw [← h5,List.drop_eq_nil_of_le (by omega),partsL]
def manyR (op n:Int):Bool:=if op = 0 ∨ op = 1 then decide (n = 0) else if op = 10 then decide (n = 1) else if op = 8 ∨ op = 9 then decide (n ≤ 4) else decide (n = 2)
theorem manyR_ok (op n:Int):Quiet Go.Proofs.Tryz.prog 182 [.int op, .int n] (.bool (manyR op n)):=by
 refine quiet_of (rs:=#[.tmp 4]) Go.Proofs.Tryz.func182 rfl rfl rfl mixed rfl rfl fun H hs=>?_
 by_cases h0:op = 0
 ·push_cast -implicitDefEqProofs [eq_self,iff_self,h0]
  (try push_cast -implicitDefEqProofs [eq_self,iff_self])
  simp [manyR,h0]
 by_cases h1:op = 1
 ·push_cast -implicitDefEqProofs [eq_self,iff_self,h0,h1]
  (try push_cast -implicitDefEqProofs [eq_self,iff_self])
  simp [manyR,h1]
 by_cases h10:op = 10
 ·push_cast -implicitDefEqProofs [eq_self,iff_self,h0,h1,h10]
  (try push_cast -implicitDefEqProofs [eq_self,iff_self])
  simp [manyR,h10]
 by_cases h8:op = 8
 ·push_cast -implicitDefEqProofs [eq_self,iff_self,h0,h1,h10,h8]
  (try push_cast -implicitDefEqProofs [eq_self,iff_self])
  simp [manyR,h8]
 by_cases h9:op = 9
 ·push_cast -implicitDefEqProofs [eq_self,iff_self,h0,h1,h10,h8,h9]
  (try push_cast -implicitDefEqProofs [eq_self,iff_self])
  simp [manyR,h9]
 push_cast -implicitDefEqProofs [eq_self,iff_self,h0,h1,h10,h8,h9]
 (try push_cast -implicitDefEqProofs [eq_self,iff_self])
 simp [manyR,h0,h1,h10,h8,h9]
def headR (op col k n:Int) (len:Nat):Bool :=
 decide (0 ≤ op) && decide (op ≤ 10) && manyR op len && (Vl.mk k n).may && decide (0 ≤ col) && decide (col ≤ 15) && (decide (op = 1) || decide (col = 0)) && (decide (op = 0) || (decide (k = 0) && decide (n = 0)))
mutual
def fineR:Ex → Bool
 | .mk op col k n l=>headR op col k n l.length && fineRL l
def fineRL:List Ex → Bool
 | []=>true
 | x :: l=>fineR x && fineRL l
end
theorem fineRL_all:∀ l,fineRL l = l.all fineR
 | []=>rfl
 | x :: l=>by rw [fineRL,List.all_cons,fineRL_all l]
theorem head_not (op col k n:Int) (mn mv:Bool):(decide (0 ≤ op) && decide (op ≤ 10) && mn && mv && decide (0 ≤ col) && decide (col ≤ 15) && (decide (op = 1) || decide (col = 0)) && (decide (op = 0) || (decide (k = 0) && decide (n = 0)))) =
  !(decide (op < 0) || decide (10 < op) || !mn || !mv || decide (col < 0) || decide (15 < col) || !decide (op = 1) && !decide (col = 0) || !decide (op = 0) && !(decide (k = 0) && decide (n = 0))):=by
 have h1:decide (op < 0) = !decide (0 ≤ op):=by by_cases h:0 ≤ op <;> simp [h] <;> omega
 have h2:decide (10 < op) = !decide (op ≤ 10):=by by_cases h:op ≤ 10 <;> simp [h] <;> omega
 have h3:decide (col < 0) = !decide (0 ≤ col):=by by_cases h:0 ≤ col <;> simp [h] <;> omega
 have h4:decide (15 < col) = !decide (col ≤ 15):=by by_cases h:col ≤ 15 <;> simp [h] <;> omega
 rw [h1,h2,h3,h4]
 simp only [Bool.not_or,Bool.not_not,Bool.not_and]
theorem fineE_ok (e:Ex):e.Ok → Quiet Go.Proofs.Tryz.prog 161 [.agg (encE e)] (.bool (fineR e)):=by
 induction e using Ex.ind with
 | h op col k n l ih =>
 intro hok
 refine quiet_of (rs:=#[.tmp 2]) Go.Proofs.Tryz.func161 rfl rfl rfl mixed rfl rfl fun H hs=>?_
 obtain ⟨hl,hlo⟩:=hok
 have hm:=manyR_ok op l.length
 have hv:=mayR_ok ⟨k,n⟩
 rw [fineR,headR]
 generalize manyR op l.length = mn at hm ⊢
 generalize Vl.may ⟨k,n⟩ = mv at hv ⊢
 push_cast -implicitDefEqProofs [eq_self,iff_self]
 refine callq hm ?_
 push_cast -implicitDefEqProofs [eq_self,iff_self]
 refine callq hv ?_
 push_cast -implicitDefEqProofs [eq_self,iff_self,lits,cellsEq,cellEq,cmpV]
 refine ⟨fun h1 h2=>by simp [h1,h2],fun h1 h2=>by simp [h1,h2],fun h=>?_,fun h=>?_⟩
 ·rw [head_not,h]; rfl
 rw [head_not,h,Bool.not_false,Bool.true_and]
 refine loop_at hs (σ:=Nat) (fun i=>i ≤ l.length ∧ (l.take i).all fineR = true) (fun i=>l.length - i)
  (fun i=>[(1, .ptr (H.nxt + 0) 5 0 0),(5, .int i)]) (fun _=>[some (.cells 5 [encE (.mk op col k n l)] 0)]) [some 0] 0 ⟨by omega,by simp⟩ rfl ?_ ?_ ?_
 ·(try push_cast -implicitDefEqProofs [eq_self,iff_self])
 ·(try push_cast -implicitDefEqProofs [eq_self,iff_self])
 ·rintro i ⟨h2,h3⟩
  by_cases hi:i < l.length
  ·have hi':((i:Int) < (l.length:Int)) = True:=by simp; omega
   have hi0:(0 ≤ (i:Int)) = True:=by simp
   push_cast -implicitDefEqProofs [eq_self,iff_self,hi',hi0,encEs_get l i hi]
   refine callq (ih _ (List.getElem_mem hi) (hlo _ (List.getElem_mem hi))) ?_
   push_cast -implicitDefEqProofs [eq_self,iff_self]
   refine ⟨fun hb=>?_,fun hb=>?_⟩
   ·(try push_cast -implicitDefEqProofs [eq_self,iff_self])
    rw [fineRL_all]
    symm
    rw [List.all_eq_false]
    exact ⟨l[i],List.getElem_mem hi,by simp [hb]⟩
   ·rw [wrap64 (n:=(i:Int) + 1) (by omega) (by omega)]
    refine next_at [some 0] (i + 1) ⟨by omega, ?_⟩ (by omega) rfl ?_ ?_
    ·rw [List.take_succ_eq_append_getElem hi,List.all_append,h3]
     simpa using hb
    ·(try push_cast -implicitDefEqProofs [eq_self,iff_self])
    ·(try push_cast -implicitDefEqProofs [eq_self,iff_self])
  ·have hi':((i:Int) < (l.length:Int)) = False:=by simp; omega
   rw [List.take_of_length_le (by omega)] at h3
   push_cast -implicitDefEqProofs [eq_self,iff_self,hi']
   (try push_cast -implicitDefEqProofs [eq_self,iff_self])
   rw [fineRL_all,h3]
def Ex.mayR (e:Ex):Bool:=decide (partsR e 1 ≤ 30) && fineR e
theorem MayR_ok (e:Ex) (hok:e.Ok):Quiet Go.Proofs.Tryz.prog 138 [.agg (encE e)] (.bool e.mayR):=by
 refine quiet_of (rs:=#[.tmp 2]) Go.Proofs.Tryz.func138 rfl rfl rfl mixed rfl rfl fun H hs=>?_
 push_cast -implicitDefEqProofs [eq_self,iff_self]
 refine callq (partsR_ok e 1 (by decide) hok) ?_
 push_cast -implicitDefEqProofs [eq_self,iff_self]
 refine ⟨fun h=>?_,fun h=>callq (fineE_ok e hok) ?_⟩
 ·(try push_cast -implicitDefEqProofs [eq_self,iff_self])
  simp only [Ex.mayR,decide_eq_false (show ¬ partsR e 1 ≤ 30 by omega),Bool.false_and]
 ·push_cast -implicitDefEqProofs [eq_self,iff_self]
  (try push_cast -implicitDefEqProofs [eq_self,iff_self])
  simp only [Ex.mayR,decide_eq_true (show partsR e 1 ≤ 30 by omega),Bool.true_and]
end
end Go.Sim.Tryz
namespace Go.Proofs
def Tryz.laysSort_ren:Go.Shelf.Ren :=
{
 f:=fun x =>
  match x with
  | 189=>115
  | 125=>150
  | 257=>149
  | 128=>178
  | 129=>71
  | 294=>169
  | 295=>170
  | 296=>171
  | 297=>172
  | 298=>173
  | 299=>174
  | 216=>175
  | 300=>176
  | 301=>177
  | 328=>200
  | 329=>201
  | 330=>202
  | 331=>203
  | 332=>204
  | 215=>205
  | 343=>220
  | n=>n,
 t:=fun x =>
  match x with
  | 28=>25
  | 3=>3
  | 46=>147
  | 0=>0
  | 51=>182
  | 53=>110
  | 4=>4
  | 183=>176
  | 182=>175
  | 131=>105
  | 5=>5
  | 9=>9
  | 218=>188
  | 222=>192
  | 228=>202
  | 229=>139
  | n=>n,
 g:=fun x=>x }
theorem Tryz.laysSort:Go.Proofs.Lays.n189 Go.Proofs.Tryz.prog Go.Proofs.Tryz.laysSort_ren:={
 mixed:=(by kernel_rfl),
 f125:=Eq.trans Go.Proofs.Tryz.func150 ((by kernel_rfl)),
 f128:=Eq.trans Go.Proofs.Tryz.func178 ((by kernel_rfl)),
 f129:=Eq.trans Go.Proofs.Tryz.func71 ((by kernel_rfl)),
 f189:=Eq.trans Go.Proofs.Tryz.func115 ((by kernel_rfl)),
 f215:=Eq.trans Go.Proofs.Tryz.func205 ((by kernel_rfl)),
 f216:=Eq.trans Go.Proofs.Tryz.func175 ((by kernel_rfl)),
 f257:=Eq.trans Go.Proofs.Tryz.func149 ((by kernel_rfl)),
 f294:=Eq.trans Go.Proofs.Tryz.func169 ((by kernel_rfl)),
 f295:=Eq.trans Go.Proofs.Tryz.func170 ((by kernel_rfl)),
 f296:=Eq.trans Go.Proofs.Tryz.func171 ((by kernel_rfl)),
 f297:=Eq.trans Go.Proofs.Tryz.func172 ((by kernel_rfl)),
 f298:=Eq.trans Go.Proofs.Tryz.func173 ((by kernel_rfl)),
 f299:=Eq.trans Go.Proofs.Tryz.func174 ((by kernel_rfl)),
 f300:=Eq.trans Go.Proofs.Tryz.func176 ((by kernel_rfl)),
 f301:=Eq.trans Go.Proofs.Tryz.func177 ((by kernel_rfl)),
 f328:=Eq.trans Go.Proofs.Tryz.func200 ((by kernel_rfl)),
 f329:=Eq.trans Go.Proofs.Tryz.func201 ((by kernel_rfl)),
 f330:=Eq.trans Go.Proofs.Tryz.func202 ((by kernel_rfl)),
 f331:=Eq.trans Go.Proofs.Tryz.func203 ((by kernel_rfl)),
 f332:=Eq.trans Go.Proofs.Tryz.func204 ((by kernel_rfl)),
 f343:=Eq.trans Go.Proofs.Tryz.func220 ((by kernel_rfl)),
 t0:=Go.Proofs.Tryz.underlying0,
 a0:=Go.Proofs.Tryz.isAgg0,
 z0:=Go.Proofs.Tryz.sizeOf0,
 v0:=Go.Proofs.Tryz.zeroValue0,
 t3:=Go.Proofs.Tryz.underlying3,
 a3:=Go.Proofs.Tryz.isAgg3,
 z3:=Go.Proofs.Tryz.sizeOf3,
 v3:=Go.Proofs.Tryz.zeroValue3,
 t4:=Go.Proofs.Tryz.underlying4,
 a4:=Go.Proofs.Tryz.isAgg4,
 z4:=Go.Proofs.Tryz.sizeOf4,
 v4:=Go.Proofs.Tryz.zeroValue4,
 t5:=Go.Proofs.Tryz.underlying5,
 a5:=Go.Proofs.Tryz.isAgg5,
 z5:=Go.Proofs.Tryz.sizeOf5,
 v5:=Go.Proofs.Tryz.zeroValue5,
 t9:=Go.Proofs.Tryz.underlying9,
 a9:=Go.Proofs.Tryz.isAgg9,
 z9:=Go.Proofs.Tryz.sizeOf9,
 v9:=Go.Proofs.Tryz.zeroValue9,
 t28:=Go.Proofs.Tryz.underlying25,
 a28:=Go.Proofs.Tryz.isAgg25,
 z28:=Go.Proofs.Tryz.sizeOf25,
 v28:=Go.Proofs.Tryz.zeroValue25,
 t46:=Go.Proofs.Tryz.underlying147,
 a46:=Go.Proofs.Tryz.isAgg147,
 z46:=Go.Proofs.Tryz.sizeOf147,
 v46:=Go.Proofs.Tryz.zeroValue147,
 t51:=Go.Proofs.Tryz.underlying182,
 a51:=Go.Proofs.Tryz.isAgg182,
 z51:=Go.Proofs.Tryz.sizeOf182,
 v51:=Go.Proofs.Tryz.zeroValue182,
 t53:=Go.Proofs.Tryz.underlying110,
 a53:=Go.Proofs.Tryz.isAgg110,
 z53:=Go.Proofs.Tryz.sizeOf110,
 v53:=Go.Proofs.Tryz.zeroValue110,
 t131:=Go.Proofs.Tryz.underlying105,
 a131:=Go.Proofs.Tryz.isAgg105,
 z131:=Go.Proofs.Tryz.sizeOf105,
 v131:=Go.Proofs.Tryz.zeroValue105,
 t182:=Go.Proofs.Tryz.underlying175,
 a182:=Go.Proofs.Tryz.isAgg175,
 z182:=Go.Proofs.Tryz.sizeOf175,
 v182:=Go.Proofs.Tryz.zeroValue175,
 t183:=Go.Proofs.Tryz.underlying176,
 a183:=Go.Proofs.Tryz.isAgg176,
 z183:=Go.Proofs.Tryz.sizeOf176,
 v183:=Go.Proofs.Tryz.zeroValue176,
 t218:=Go.Proofs.Tryz.underlying188,
 a218:=Go.Proofs.Tryz.isAgg188,
 z218:=Go.Proofs.Tryz.sizeOf188,
 v218:=Go.Proofs.Tryz.zeroValue188,
 t222:=Go.Proofs.Tryz.underlying192,
 a222:=Go.Proofs.Tryz.isAgg192,
 z222:=Go.Proofs.Tryz.sizeOf192,
 v222:=Go.Proofs.Tryz.zeroValue192,
 t228:=Go.Proofs.Tryz.underlying202,
 a228:=Go.Proofs.Tryz.isAgg202,
 z228:=Go.Proofs.Tryz.sizeOf202,
 v228:=Go.Proofs.Tryz.zeroValue202,
 t229:=Go.Proofs.Tryz.underlying139,
 a229:=Go.Proofs.Tryz.isAgg139,
 z229:=Go.Proofs.Tryz.sizeOf139,
 v229:=Go.Proofs.Tryz.zeroValue139 }
def Tryz.laysCompact_ren:Go.Shelf.Ren :=
{
 f:=fun x =>
  match x with
  | 20=>116
  | n=>n,
 t:=fun x =>
  match x with
  | 22=>25
  | 3=>3
  | 4=>4
  | 0=>0
  | n=>n,
 g:=fun x=>x }
theorem Tryz.laysCompact:Go.Proofs.Lays2.n20 Go.Proofs.Tryz.prog Go.Proofs.Tryz.laysCompact_ren:={
 mixed:=(by kernel_rfl),
 f20:=Eq.trans Go.Proofs.Tryz.func116 ((by kernel_rfl)),
 t0:=Go.Proofs.Tryz.underlying0,
 a0:=Go.Proofs.Tryz.isAgg0,
 z0:=Go.Proofs.Tryz.sizeOf0,
 v0:=Go.Proofs.Tryz.zeroValue0,
 t3:=Go.Proofs.Tryz.underlying3,
 a3:=Go.Proofs.Tryz.isAgg3,
 z3:=Go.Proofs.Tryz.sizeOf3,
 v3:=Go.Proofs.Tryz.zeroValue3,
 t4:=Go.Proofs.Tryz.underlying4,
 a4:=Go.Proofs.Tryz.isAgg4,
 z4:=Go.Proofs.Tryz.sizeOf4,
 v4:=Go.Proofs.Tryz.zeroValue4,
 t22:=Go.Proofs.Tryz.underlying25,
 a22:=Go.Proofs.Tryz.isAgg25,
 z22:=Go.Proofs.Tryz.sizeOf25,
 v22:=Go.Proofs.Tryz.zeroValue25,
 i3:=(by kernel_rfl)}
end Go.Proofs
namespace Go.Sim.Tryz
open Go Go.Sim
attribute [local push_cast] aops_cons aops_nil aopG_none aopG_some aopP_eq aopE_eq aopC_eq aopE?_eq aopC?_eq aopB_eq aopB?_eq abr anilq gopP_eq gopL_eq ahead_cons ahead_nil ahdG_none ahdG_some ahdP_eq ahdN_eq ahdC_eq ahdN?_eq ahdS_eq ahdS?_eq astoreN ahdC?_eq ghdP_eq ghdC_eq ghdC?_eq ghdZ_f ghdZ_t ahdI_eq ahdI?_eq ghdN?_eq aim_nil aim_cons isIn_nil isIn_none isIn_cons aimm aheP_eq aheA_eq aheC_eq aheC?_eq aheI?_eq aheA?_eq gheP_eq gheC_eq gheC?_eq gheZ_eq aheG_none aheG_some aheff_cons aheff_nil aapp gro_rsl gro_lit gro_esl opt_some opt_none no_eq acondT_true acondT_false acondT_lit aw_skip aw_region aw_regionD aw_seq aw_cond aw_block aw_loop aw_exit aw_label aw_ret thn_normal thn_exit thn_ret inb_normal inb_exit inb_ret qret_ret qret_normal gcond apure aeff anew acallee ares aresT aresL aresC ares1 qfin_eq ev ofV evL gokL tget tput_some tput_none initT abin aint aun aload afaddr aiaddr afield aindex aextract apick pickv_lit Bool.or_false Bool.false_or Bool.or_true Bool.true_or imp_self aslice chunk roomB abound aconv abuild afill splice alen aminmax abuiltin anil apart Value.oneCell' astore aappend srcEs abuildSlice amakeSlice amapPut alookup aput afind mget keyV sameV_int Option.isSome_some Option.isSome_none cond_true cond_false asets isEq plus_obj plus_nxt plus_add plus_set plus_del IntKind.bits Option.map_some Option.map_none Option.bind_some Option.bind_none Option.join_some Option.getD_some Option.getD_none Option.toList List.getElem?_toArray List.getElem?_cons_zero List.getElem?_cons_succ List.getElem?_nil List.length_cons List.length_nil List.length_map List.head?_cons List.cons_append List.nil_append List.append_nil List.map_cons List.map_nil List.getD_cons_zero List.getD_cons_succ List.replicate_succ List.replicate_zero List.set_cons_zero List.set_cons_succ List.take_succ_cons List.take_zero List.drop_succ_cons List.drop_zero List.all_cons List.all_nil Nat.zero_add if_true if_false true_and and_true false_and and_false true_implies implies_true forall_const Bool.and_true Bool.true_and Bool.false_and Bool.and_false Bool.true_beq Bool.false_beq Bool.not_not beq_tt beq_ff Int.toNat_natCast decide_true decide_false Bool.not_true Bool.not_false Bool.true_eq_false Bool.false_eq_true false_implies exists_prop eq_self bne_self_eq_false beq_self_eq_true decide_eq_true_eq decide_eq_false_iff_not Bool.not_eq_true' Bool.not_eq_false' AV.int AV.bool AV.nilS ne_eq not_false_eq_true not_true_eq_false exists_eq_left exists_eq_left' Nat.lt_irrefl core_lit grd_lit acells_lit one_lit core_agg grd_agg acells_agg one_agg core_tup grd_tup acells_tup one_tup core_sl grd_sl acells_sl one_sl core_esl grd_esl acells_esl one_esl core_rsl grd_rsl acells_rsl one_rsl core_ptr grd_ptr acells_ptr one_ptr core_iptr grd_iptr acells_iptr one_iptr core_clo grd_clo acells_clo one_clo core_mp grd_mp acells_mp one_mp core_any grd_any acells_any one_any core_gv grd_gv fit_agg fit_lit fit_sl fit_esl fit_rsl fit_ptr fit_iptr fit_clo fit_mp retq_ret retq_normal set_nxt set_set plus_obj_set plus_set_set app_get0 app_get app_set0 app_set List.append_assoc List.length_append List.length_set Nat.lt_add_one Nat.add_lt_add_iff_right Nat.lt_add_right_iff_pos Nat.add_lt_add_iff_left List.mem_cons List.not_mem_nil or_false forall_eq forall_eq_or_imp lt_s0 lt_s1 lt_s2 lt_s3 lt_s4 lt_s5 lt_s6 lt_s7 lt_s8 pickv_t pickv_f or_nand or_nand2 imp_and_l SealT SealOs sealO_cells sl_lit sl_any sl_agg sl_tup sl_sl sl_rsl slO sl_esl sl_nil sl_eslesl sl_eslnil sl_rslrsl sl_eslrsl sl_nilrsl sl_ptr sl_iptr sl_ptri slP sl_clo sl_mp sl_gv sll_nil sll_cons slll_nil slll_cons shut_eq shutO Option.join_none Fn.func.injEq and_self sealL_self sealLL_self seal_self PureL PureLL Pure Nat.le_refl Nat.zero_le AV.lit.injEq Value.int.injEq Value.bool.injEq false_or or_true true_or Int.natCast_zero Int.ofNat_zero Int.cast_ofNat_Int Int.natCast_add Int.natCast_one Option.some.injEq piL_is sop_nil sop_cons sop_none sop_some sopO_some sop_new shut_pi shutL_nil shutL_cons exQ_exit exQ_ret exQ_normal Go.Sim.Tryz.ty_load1 Go.Sim.Tryz.ty_zero1 Go.Sim.Tryz.ty_load2 Go.Sim.Tryz.ty_zero2 Go.Sim.Tryz.ty_und2 Go.Sim.Tryz.ty_load3 Go.Sim.Tryz.ty_zero3 Go.Sim.Tryz.ty_und3 Go.Sim.Tryz.ty_load4 Go.Sim.Tryz.ty_zero4 Go.Sim.Tryz.ty_und4 Go.Sim.Tryz.ty_load5 Go.Sim.Tryz.ty_zero5 Go.Sim.Tryz.ty_und5 Go.Sim.Tryz.ty_load9 Go.Sim.Tryz.ty_zero9 Go.Sim.Tryz.ty_und9 Go.Sim.Tryz.ty_load22 Go.Sim.Tryz.ty_zero22 Go.Sim.Tryz.ty_el22 Go.Sim.Tryz.ty_zeroE22 Go.Sim.Tryz.ty_load24 Go.Sim.Tryz.ty_zero24 Go.Sim.Tryz.ty_fld24_0 Go.Sim.Tryz.ty_part24_0 Go.Sim.Tryz.ty_struct24 Go.Sim.Tryz.ty_load25 Go.Sim.Tryz.ty_zero25 Go.Sim.Tryz.ty_el25 Go.Sim.Tryz.ty_zeroE25 Go.Sim.Tryz.ty_load26 Go.Sim.Tryz.ty_zero26 Go.Sim.Tryz.ty_el26 Go.Sim.Tryz.ty_zeroE26 Go.Sim.Tryz.ty_load28 Go.Sim.Tryz.ty_zero28 Go.Sim.Tryz.ty_fld28_0 Go.Sim.Tryz.ty_part28_0 Go.Sim.Tryz.ty_fld28_1 Go.Sim.Tryz.ty_part28_1 Go.Sim.Tryz.ty_fld28_2 Go.Sim.Tryz.ty_part28_2 Go.Sim.Tryz.ty_fld28_3 Go.Sim.Tryz.ty_part28_3 Go.Sim.Tryz.ty_fld28_4 Go.Sim.Tryz.ty_part28_4 Go.Sim.Tryz.ty_fld28_5 Go.Sim.Tryz.ty_part28_5 Go.Sim.Tryz.ty_struct28 Go.Sim.Tryz.ty_load29 Go.Sim.Tryz.ty_zero29 Go.Sim.Tryz.ty_arr29 Go.Sim.Tryz.ty_part29_0 Go.Sim.Tryz.ty_part29_1 Go.Sim.Tryz.ty_struct29 Go.Sim.Tryz.ty_load30 Go.Sim.Tryz.ty_zero30 Go.Sim.Tryz.ty_el30 Go.Sim.Tryz.ty_zeroE30 Go.Sim.Tryz.ty_load32 Go.Sim.Tryz.ty_zero32 Go.Sim.Tryz.ty_fld32_0 Go.Sim.Tryz.ty_part32_0 Go.Sim.Tryz.ty_fld32_1 Go.Sim.Tryz.ty_part32_1 Go.Sim.Tryz.ty_fld32_2 Go.Sim.Tryz.ty_part32_2 Go.Sim.Tryz.ty_fld32_3 Go.Sim.Tryz.ty_part32_3 Go.Sim.Tryz.ty_struct32 Go.Sim.Tryz.ty_load34 Go.Sim.Tryz.ty_zero34 Go.Sim.Tryz.ty_fld34_0 Go.Sim.Tryz.ty_part34_0 Go.Sim.Tryz.ty_fld34_1 Go.Sim.Tryz.ty_part34_1 Go.Sim.Tryz.ty_fld34_2 Go.Sim.Tryz.ty_part34_2 Go.Sim.Tryz.ty_struct34 Go.Sim.Tryz.ty_load41 Go.Sim.Tryz.ty_zero41 Go.Sim.Tryz.ty_el41 Go.Sim.Tryz.ty_zeroE41 Go.Sim.Tryz.ty_load47 Go.Sim.Tryz.ty_zero47 Go.Sim.Tryz.ty_el47 Go.Sim.Tryz.ty_zeroE47 Go.Sim.Tryz.ty_load52 Go.Sim.Tryz.ty_zero52 Go.Sim.Tryz.ty_fld52_0 Go.Sim.Tryz.ty_part52_0 Go.Sim.Tryz.ty_fld52_1 Go.Sim.Tryz.ty_part52_1 Go.Sim.Tryz.ty_struct52 Go.Sim.Tryz.ty_load58 Go.Sim.Tryz.ty_zero58 Go.Sim.Tryz.ty_fld58_0 Go.Sim.Tryz.ty_part58_0 Go.Sim.Tryz.ty_fld58_1 Go.Sim.Tryz.ty_part58_1 Go.Sim.Tryz.ty_struct58 Go.Sim.Tryz.ty_load60 Go.Sim.Tryz.ty_zero60 Go.Sim.Tryz.ty_fld60_0 Go.Sim.Tryz.ty_part60_0 Go.Sim.Tryz.ty_fld60_1 Go.Sim.Tryz.ty_part60_1 Go.Sim.Tryz.ty_struct60 Go.Sim.Tryz.ty_load62 Go.Sim.Tryz.ty_zero62 Go.Sim.Tryz.ty_fld62_0 Go.Sim.Tryz.ty_part62_0 Go.Sim.Tryz.ty_fld62_1 Go.Sim.Tryz.ty_part62_1 Go.Sim.Tryz.ty_fld62_2 Go.Sim.Tryz.ty_part62_2 Go.Sim.Tryz.ty_fld62_3 Go.Sim.Tryz.ty_part62_3 Go.Sim.Tryz.ty_struct62 Go.Sim.Tryz.ty_load73 Go.Sim.Tryz.ty_zero73 Go.Sim.Tryz.ty_el73 Go.Sim.Tryz.ty_zeroE73 Go.Sim.Tryz.ty_load75 Go.Sim.Tryz.ty_zero75 Go.Sim.Tryz.ty_fld75_0 Go.Sim.Tryz.ty_part75_0 Go.Sim.Tryz.ty_struct75 Go.Sim.Tryz.ty_load79 Go.Sim.Tryz.ty_zero79 Go.Sim.Tryz.ty_load80 Go.Sim.Tryz.ty_zero80 Go.Sim.Tryz.ty_el80 Go.Sim.Tryz.ty_zeroE80 Go.Sim.Tryz.ty_load82 Go.Sim.Tryz.ty_zero82 Go.Sim.Tryz.ty_fld82_0 Go.Sim.Tryz.ty_part82_0 Go.Sim.Tryz.ty_fld82_1 Go.Sim.Tryz.ty_part82_1 Go.Sim.Tryz.ty_fld82_2 Go.Sim.Tryz.ty_part82_2 Go.Sim.Tryz.ty_struct82 Go.Sim.Tryz.ty_load87 Go.Sim.Tryz.ty_zero87 Go.Sim.Tryz.ty_fld87_0 Go.Sim.Tryz.ty_part87_0 Go.Sim.Tryz.ty_fld87_1 Go.Sim.Tryz.ty_part87_1 Go.Sim.Tryz.ty_struct87 Go.Sim.Tryz.ty_load90 Go.Sim.Tryz.ty_zero90 Go.Sim.Tryz.ty_arr90 Go.Sim.Tryz.ty_part90_0 Go.Sim.Tryz.ty_part90_1 Go.Sim.Tryz.ty_struct90 Go.Sim.Tryz.ty_load92 Go.Sim.Tryz.ty_zero92 Go.Sim.Tryz.ty_load103 Go.Sim.Tryz.ty_zero103 Go.Sim.Tryz.ty_fld103_0 Go.Sim.Tryz.ty_part103_0 Go.Sim.Tryz.ty_fld103_1 Go.Sim.Tryz.ty_part103_1 Go.Sim.Tryz.ty_struct103 Go.Sim.Tryz.ty_load107 Go.Sim.Tryz.ty_zero107 Go.Sim.Tryz.ty_und107 Go.Sim.Tryz.ty_load110 Go.Sim.Tryz.ty_zero110 Go.Sim.Tryz.ty_und110 Go.Sim.Tryz.ty_load116 Go.Sim.Tryz.ty_zero116 Go.Sim.Tryz.ty_fld116_0 Go.Sim.Tryz.ty_part116_0 Go.Sim.Tryz.ty_struct116 Go.Sim.Tryz.ty_load117 Go.Sim.Tryz.ty_zero117 Go.Sim.Tryz.ty_load118 Go.Sim.Tryz.ty_zero118 Go.Sim.Tryz.ty_el118 Go.Sim.Tryz.ty_zeroE118 Go.Sim.Tryz.ty_load119 Go.Sim.Tryz.ty_zero119 Go.Sim.Tryz.ty_el119 Go.Sim.Tryz.ty_zeroE119 Go.Sim.Tryz.ty_load120 Go.Sim.Tryz.ty_zero120 Go.Sim.Tryz.ty_load131 Go.Sim.Tryz.ty_zero131 Go.Sim.Tryz.ty_load137 Go.Sim.Tryz.ty_zero137 Go.Sim.Tryz.ty_el137 Go.Sim.Tryz.ty_zeroE137 Go.Sim.Tryz.ty_load144 Go.Sim.Tryz.ty_zero144 Go.Sim.Tryz.ty_load147 Go.Sim.Tryz.ty_zero147 Go.Sim.Tryz.ty_und147 Go.Sim.Tryz.ty_load151 Go.Sim.Tryz.ty_zero151 Go.Sim.Tryz.ty_el151 Go.Sim.Tryz.ty_zeroE151 Go.Sim.Tryz.ty_load154 Go.Sim.Tryz.ty_zero154 Go.Sim.Tryz.ty_fld154_0 Go.Sim.Tryz.ty_part154_0 Go.Sim.Tryz.ty_struct154 Go.Sim.Tryz.ty_load164 Go.Sim.Tryz.ty_zero164 Go.Sim.Tryz.ty_load168 Go.Sim.Tryz.ty_zero168 Go.Sim.Tryz.ty_und168 Go.Sim.Tryz.ty_vzero154 Go.Sim.Tryz.ty_load171 Go.Sim.Tryz.ty_zero171 Go.Sim.Tryz.ty_fld171_0 Go.Sim.Tryz.ty_part171_0 Go.Sim.Tryz.ty_fld171_1 Go.Sim.Tryz.ty_part171_1 Go.Sim.Tryz.ty_fld171_2 Go.Sim.Tryz.ty_part171_2 Go.Sim.Tryz.ty_struct171 Go.Sim.Tryz.ty_load173 Go.Sim.Tryz.ty_zero173 Go.Sim.Tryz.ty_load175 Go.Sim.Tryz.ty_zero175 Go.Sim.Tryz.ty_und175 Go.Sim.Tryz.ty_load182 Go.Sim.Tryz.ty_zero182 Go.Sim.Tryz.ty_und182 Go.Sim.Tryz.ty_load185 Go.Sim.Tryz.ty_zero185 Go.Sim.Tryz.ty_load188 Go.Sim.Tryz.ty_zero188 Go.Sim.Tryz.ty_und188 Go.Sim.Tryz.ty_load192 Go.Sim.Tryz.ty_zero192 Go.Sim.Tryz.ty_load195 Go.Sim.Tryz.ty_zero195
section
attribute [local push_cast] encE_mk encE_take encE_len encV encE_one encEs_pure encE_pure
def stRow (i:Nat):St (List Int) where
 inv s H B:=(s = [] ∧ i < H.nxt ∧ H.obj i = some (.cells 1 [[.nilS]] 0) ∧ B = fun q=>q = i) ∨
  ∃ j,j ≠ i ∧ i < H.nxt ∧ j < H.nxt ∧ H.obj i = some (.cells 1 [[.rsl j 1 0 s.length]] 0) ∧ H.obj j = some (.cells 1 (rowI s) 0) ∧ B = fun q=>q = i ∨ q = j
 stable:=by
  rintro s H H' B (⟨h1,h2,h3,rfl⟩ | ⟨j,h1,h2,h3,h4,h5,rfl⟩) k1 k2
  ·exact .inl ⟨h1,by omega,by rw [k1 i rfl]; exact h3,rfl⟩
  ·exact .inr ⟨j,h1,by omega,by omega,by rw [k1 i (.inl rfl)]; exact h4,by rw [k1 j (.inr rfl)]; exact h5,rfl⟩
 low:=by
  rintro s H B (⟨h1,h2,h3,rfl⟩ | ⟨j,h1,h2,h3,h4,h5,rfl⟩) q hq
  ·rw [hq]; exact h2
  ·rcases hq with rfl | rfl
   ·exact h2
   ·exact h3
theorem stRow_push {H H1:AH} {i:Nat} {B:Nat → Prop} {s:List Int} {l:List (Option AObj)} (hn:H1.nxt = H.nxt) (hB:B i) (hq:∀ q,q < H.nxt → ¬ B q → H1.obj q = H.obj q) (hi:i < H.nxt) (k:Nat) (hk:l[k]? = some (some (.cells 1 (rowI s) 0)))
  (hio:H1.obj i = some (.cells 1 [[.rsl (H.nxt + k) 1 0 s.length]] 0)):Moves (stRow i) s H B (H1.plus l):=by
 have hkl:=(List.getElem?_eq_some_iff.1 hk).1
 have e:(H1.plus l).nxt = H.nxt + l.length:=by rw [plus_nxt,hn]
 refine ⟨by omega,fun q h1 h2=>?_,fun q=>q = i ∨ q = H.nxt + k, .inr ⟨H.nxt + k,by omega,by omega,by omega, ?_, ?_,rfl⟩,fun q h=>?_⟩
 ·rw [plus_low H1 l (by omega)]; exact hq q h1 h2
 ·rw [plus_low H1 l (by omega)]; exact hio
 ·rw [← hn,plus_obj,hk]; rfl
 ·rcases h with rfl | rfl
  ·exact .inl hB
  ·right; omega
theorem Moves.new {σ:Type} {I:St σ} {s:σ} {H:AH} {B:Nat → Prop} (h:I.inv s H B) (l:List (Option AObj)):Moves I s H B (H.plus l) :=
 ⟨Nat.le_add_right _ _,fun q hq _=>plus_low H l hq,B,St.grow h l,fun q hq=>.inl hq⟩
def colStep (s:List Int) (e:Ex) (d:Int):List Int × Bool:=(if e.op = 1 then s ++ [e.col] else s,true)
theorem cols1_ok (i:Nat) (s:List Int) (e:Ex) (d:Int) (H:AH) (B:Nat → Prop) (hs1:s.length < 1000000) (hI:(stRow i).inv s H B) :
  ACalls Go.Proofs.Tryz.prog 114 [.agg (encE e), .int d, .ptr i 1 0 0] H (fun r H'=>r = .bool (colStep s e d).2 ∧ Moves (stRow i) (colStep s e d).1 H B H'):=by
 obtain ⟨op,col,k,n,l⟩:=e
 refine acalls_sc (rs:=#[.tmp 5]) Go.Proofs.Tryz.func114 rfl rfl rfl mixed rfl (Nat.le_of_ble_eq_true rfl) fun hs _=>?_
 have hIc:=hI
 rcases hI with ⟨rfl,h2,h3,rfl⟩ | ⟨j,h1,h2,h3,h4,h5,rfl⟩
 ·have hob:∀ l,(H.plus l).obj i = some (.cells 1 [[.nilS]] 0):=fun l=>by rw [plus_low H l h2]; exact h3
  have hset:∀ l o,(H.plus l).set i o = (H.set i o).plus l:=fun l o=>plus_setlow H l h2 o
  push_cast -implicitDefEqProofs [eq_self,iff_self,hob,hset]
  refine ⟨fun h=>retk trivial ⟨rfl, ?_⟩,fun h=>retk trivial ⟨rfl, ?_⟩⟩
  ·simp only [colStep,Ex.op,Ex.col,h,if_true,List.nil_append]
   refine stRow_push rfl rfl (fun q hq hb=>?_) h2 2 rfl ?_
   ·show (if q = i then _ else H.obj q) = _
    rw [if_neg hb]
   ·show (if i = i then _ else H.obj i) = _
    rw [if_pos rfl]
    rfl
  ·simp only [colStep,Ex.op,h,if_false]
   exact Moves.new hIc _
 ·have hob:∀ l,(H.plus l).obj i = some (.cells 1 [[.rsl j 1 0 s.length]] 0):=fun l=>by rw [plus_low H l h2]; exact h4
  have hoj:∀ l,(H.plus l).obj j = some (.cells 1 (rowI s) 0):=fun l=>by rw [plus_low H l h3]; exact h5
  have hdel:∀ l,(H.plus l).del j = (H.del j).plus l:=fun l=>plus_dellow H l h3
  have hob2:∀ l,((H.del j).plus l).obj i = some (.cells 1 [[.rsl j 1 0 s.length]] 0):=fun l=>by
   rw [plus_low (H.del j) l h2]
   show (if i = j then none else H.obj i) = _
   rw [if_neg (Ne.symm h1),h4]
  have hset2:∀ l o,((H.del j).plus l).set i o = ((H.del j).set i o).plus l:=fun l o=>plus_setlow (H.del j) l h2 o
  push_cast -implicitDefEqProofs [eq_self,iff_self,hob,hoj,hdel,hob2,hset2,del_nxt]
  refine ⟨fun h=>⟨by omega,retk trivial ⟨rfl, ?_⟩⟩,fun h=>retk trivial ⟨rfl, ?_⟩⟩
  ·simp only [colStep,Ex.op,Ex.col,h,if_true]
   refine stRow_push rfl (.inl rfl) (fun q hq hb=>?_) h2 2 ?_ ?_
   ·show (if q = i then _ else (if q = j then none else H.obj q)) = _
    rw [if_neg (fun e=>hb (.inl e)),if_neg (fun e=>hb (.inr e))]
   ·simp only [List.getElem?_cons_succ,List.getElem?_cons_zero]
    rw [List.take_of_length_le (by simp [rowI]),rowI,rowI,List.map_append]
    rfl
   ·show (if i = i then _ else _) = _
    rw [if_pos rfl,List.length_append]
    rfl
  ·simp only [colStep,Ex.op,h,if_false]
   exact Moves.new hIc _
theorem sort_ok {i:Nat} {zs:List Int} {H:AH} (hz:zs.length < 4611686018427387904) (ho:H.obj i = some (.cells 1 (rowI zs) 0)) :
  ACalls Go.Proofs.Tryz.prog 115 [.rsl i 1 0 zs.length] H fun r H'=>r = .tup [] ∧ H' = H.set i (.cells 1 (rowI (zs.mergeSort fun x y=>decide (x ≤ y))) 0) :=
 sort_row Go.Proofs.Tryz.laysSort (by kernel_rfl) hz ho
theorem sortN_ok {H:AH}:ACalls Go.Proofs.Tryz.prog 115 [.nilS] H fun r H'=>r = .tup [] ∧ H' = H:=sort_nil Go.Proofs.Tryz.laysSort (by kernel_rfl)
theorem compact_ok {i:Nat} {zs:List Int} {H:AH} (hz:zs.length ≤ 9223372036854775807) (ho:H.obj i = some (.cells 1 (rowI zs) 0)) :
  ACalls Go.Proofs.Tryz.prog 116 [.rsl i 1 0 zs.length] H fun r H'=>r = .rsl i 1 0 (Lib.compact zs).length ∧ H' = H.set i (.cells 1 (rowI (compactAll zs)) 0) :=
 compact_row Go.Proofs.Tryz.laysCompact (by kernel_rfl) hz ho
theorem compactN_ok {H:AH}:ACalls Go.Proofs.Tryz.prog 116 [.nilS] H fun r H'=>r = .nilS ∧ H' = H:=compact_nil Go.Proofs.Tryz.laysCompact (by kernel_rfl)
def Ex.colsAll (e:Ex):List Int:=(eachS colStep e 1 []).1
def Ex.cols (e:Ex):List Int:=if e.may then Lib.compact (e.colsAll.mergeSort fun x y=>decide (x ≤ y)) else []
theorem colsAll_len (e:Ex):e.colsAll.length ≤ cnt e:=by
 have:=eachS_wt colStep List.length (fun s e d=>by simp only [colStep]; split <;> simp) e 1 []
 simpa [Ex.colsAll] using this
theorem Cols_ok (e:Ex) (hok:e.Ok) (hc:cnt e ≤ 1000000):Quiet Go.Proofs.Tryz.prog 60 [.agg (encE e)] (.sl (e.cols.map encI)):=by
 refine quiet_of (rs:=#[.tmp 2]) Go.Proofs.Tryz.func60 rfl rfl rfl mixed rfl rfl fun H hs=>?_
 push_cast -implicitDefEqProofs [eq_self,iff_self]
 refine callq (mayE_ok e hok) ?_
 push_cast -implicitDefEqProofs [eq_self,iff_self]
 refine ⟨fun h=>?_,fun h=>?_⟩
 ·(try push_cast -implicitDefEqProofs [eq_self,iff_self])
  simp [Ex.cols,h]
 ·have hcl:=(each_ok (stRow (H.nxt + 1)) colStep _ [.ptr (H.nxt + 1) 1 0 0] List.length (fun s e d=>by simp only [colStep]; split <;> simp) 1000000 (fun s e d H B _ hw hI=>cols1_ok _ s e d H B hw hI) e 1 []
   (H.plus [some (.cells 5 [encE e] 0),some (.cells 1 [[.nilS]] 0)]) (fun q=>q = H.nxt + 1) hok (by simpa using hc) (.inl ⟨rfl,by simp [plus_nxt],by rw [plus_obj]; rfl,rfl⟩)).hsc
  refine hcl.mono ?_
  rintro r H2 ⟨⟨rfl,hm⟩,hsc2,hle2,-⟩
  obtain ⟨l',rfl⟩:=hm.is_plus (fun q hq=>by omega) hsc2
  obtain ⟨hm1,hm2,B',hB',hBB⟩:=hm
  have hz:e.colsAll.length ≤ 1000000:=Nat.le_trans (colsAll_len e) hc
  have hec:e.cols = Lib.compact (e.colsAll.mergeSort fun x y=>decide (x ≤ y)):=by simp [Ex.cols,h]
  rcases hB' with ⟨hnil,_,hv,rfl⟩ | ⟨j,hj1,hj2,hj3,hv,hrow,rfl⟩
  ·rw [plus_obj] at hv
   push_cast -implicitDefEqProofs [eq_self,iff_self,hv]
   refine (sortN_ok).mono ?_
   rintro r H3 ⟨rfl,rfl⟩
   push_cast -implicitDefEqProofs [eq_self,iff_self,hv]
   refine (compactN_ok).mono ?_
   rintro r H3 ⟨rfl,rfl⟩
   push_cast -implicitDefEqProofs [eq_self,iff_self,hv]
   (try push_cast -implicitDefEqProofs [eq_self,iff_self])
   rw [hec,Ex.colsAll,hnil]
   simp [Lib.compact,Lib.compactUpTo]
  ·have hjn:H.nxt ≤ j:=by
    rcases hBB j (.inr rfl) with h1 | h1
    ·omega
    ·rw [plus_nxt] at h1; omega
   obtain ⟨k,rfl⟩:∃ k,j = H.nxt + k:=⟨j - H.nxt,by omega⟩
   have hkl:k < l'.length:=by rw [plus_nxt] at hj3; omega
   have hk1:k ≠ 1:=by omega
   have hrow':=hrow
   rw [plus_obj] at hv hrow
   have hs1:∀ x,(H.plus l').set (H.nxt + k) x = H.plus (l'.set k (some x)):=fun x=>plus_set H l' k x hkl
   have hv2:∀ x,((l'.set k x)[1]?).join = some (.cells 1 [[.rsl (H.nxt + k) 1 0 e.colsAll.length]] 0):=fun x=>by rw [List.getElem?_set_ne hk1]; exact hv
   have hr2:∀ x:AObj,((l'.set k (some x))[k]?).join = some x:=fun x=>by rw [List.getElem?_set_self hkl]; rfl
   have hs2:∀ x y,(H.plus (l'.set k (some x))).set (H.nxt + k) y = H.plus (l'.set k (some y)):=fun x y=>by
    rw [plus_set H _ k y (by rw [List.length_set]; exact hkl),List.set_set]
   push_cast -implicitDefEqProofs [eq_self,iff_self,hv]
   refine (sort_ok (i:=H.nxt + k) (zs:=e.colsAll) (by omega) hrow').mono ?_
   rintro r H3 ⟨rfl,rfl⟩
   push_cast -implicitDefEqProofs [eq_self,iff_self,hs1,hv2]
   have hcc:=compact_ok (i:=H.nxt + k) (zs:=e.colsAll.mergeSort fun x y=>decide (x ≤ y)) (H:=H.plus (l'.set k (some (.cells 1 (rowI (e.colsAll.mergeSort fun x y=>decide (x ≤ y))) 0)))) (by rw [List.length_mergeSort]; omega) (by rw [plus_obj]; exact hr2 _)
   rw [List.length_mergeSort] at hcc
   refine hcc.mono ?_
   rintro r H3 ⟨rfl,rfl⟩
   push_cast -implicitDefEqProofs [eq_self,iff_self,hs1,hs2,hv2]
   rw [hr2]
   dsimp only
   have hcl:=Lib.compact_length_le (e.colsAll.mergeSort fun x y=>decide (x ≤ y))
   refine ⟨rfl, ?_, ?_⟩
   ·simp [rowI,compactAll]
   ·have hfun:rowI = fun l:List Int=>l.map encI:=rfl
    have he:(rowI (compactAll (e.colsAll.mergeSort fun x y=>decide (x ≤ y)))).take (Lib.compact (e.colsAll.mergeSort fun x y=>decide (x ≤ y))).length = e.cols.map encI:=by
     rw [hec,hfun]
     simp only [← List.map_take,compactAll,List.take_left]
    rw [he]
    exact sealLL_pure _ _ _ (encIs_pure _)
end
section
theorem bytesE:Program.bytesOf Go.Proofs.Tryz.prog 62 = 56:=by kernel_rfl
theorem bytesI:Program.bytesOf Go.Proofs.Tryz.prog 3 = 8:=by kernel_rfl
end
section
/- How deep. -/
mutual
def hgt:Ex → Int
 | .mk _ _ _ _ l=>1 + hgtL l
def hgtL:List Ex → Int
 | []=>0
 | x :: l=>max (hgt x) (hgtL l)
end
mutual
theorem hgt_pos:∀ e,1 ≤ hgt e
 | .mk _ _ _ _ l=>by rw [hgt]; have:=hgtL_pos l; omega
theorem hgtL_pos:∀ l,0 ≤ hgtL l
 | []=>by rw [hgtL]; omega
 | x :: l=>by rw [hgtL]; have:=hgtL_pos l; omega
end
theorem cnt_pos:∀ e,1 ≤ cnt e
 | .mk _ _ _ _ l=>by rw [cnt]; omega
mutual
def fineE:Ex → Bool
 | .mk op col k n l=>(Ex.mk op col k n l).part && fineL l
def fineL:List Ex → Bool
 | []=>true
 | x :: l=>fineE x && fineL l
end
mutual
theorem each_may:∀ (e:Ex) (d n:Int),0 ≤ n → n ≤ 30 → 0 ≤ d → d ≤ 7 →
  ((eachS mayStep e d n).2 = (fineE e && decide (n + cnt e ≤ 30) && decide (d + hgt e ≤ 7))) ∧ ((eachS mayStep e d n).2 = true → (eachS mayStep e d n).1 = n + cnt e)
 | .mk op col k nn l,d,n,h0,h1,h2,h3=>by
  have hw1:IntKind.wrap .i64 (n + 1) = n + 1:=wrap64 (by omega) (by omega)
  have hw2:IntKind.wrap .i64 (d + 1) = d + 1:=wrap64 (by omega) (by omega)
  rw [eachS,fineE,cnt,hgt]
  simp only [mayStep,hw1,hw2]
  have hh:=hgtL_pos l
  by_cases hc:n + 1 ≤ 30 ∧ d ≤ 6 ∧ (Ex.mk op col k nn l).part = true
  ·obtain ⟨c1,c2,c3⟩:=hc
   have hs:(decide (n + 1 ≤ 30) && decide (d ≤ 6) && (Ex.mk op col k nn l).part) = true:=by simp [c1,c2,c3]
   rw [if_pos hs]
   obtain ⟨q1,q2⟩:=eachL_may l (d + 1) (n + 1) (by omega) (by omega) (by omega) (by omega)
   refine ⟨?_,fun h=>by rw [q2 h]; push_cast; omega⟩
   rw [q1,c3,Bool.true_and]
   congr 2
   ·rw [decide_eq_decide]; push_cast; omega
   ·exact propext (by omega)
  ·have hs:(decide (n + 1 ≤ 30) && decide (d ≤ 6) && (Ex.mk op col k nn l).part) = false:=by
    rw [Bool.eq_false_iff]
    intro h
    simp only [Bool.and_eq_true,decide_eq_true_eq] at h
    exact hc ⟨h.1.1,h.1.2,h.2⟩
   rw [if_neg (by simp [hs])]
   refine ⟨?_,fun h=>by cases h⟩
   symm
   rw [Bool.eq_false_iff]
   intro h
   simp only [Bool.and_eq_true,decide_eq_true_eq] at h
   obtain ⟨⟨⟨a1,a2⟩,a3⟩,a4⟩:=h
   exact hc ⟨by push_cast at a3; omega,by omega,a1⟩
theorem eachL_may:∀ (l:List Ex) (d n:Int),0 ≤ n → n ≤ 30 → 0 ≤ d → d ≤ 7 →
  ((eachL mayStep l d n).2 = (fineL l && decide (n + cntL l ≤ 30) && decide (d + hgtL l ≤ 7))) ∧ ((eachL mayStep l d n).2 = true → (eachL mayStep l d n).1 = n + cntL l)
 | [],d,n,h0,h1,h2,h3=>by
  rw [eachL,fineL,cntL,hgtL]
  refine ⟨by simp; omega,fun _=>by simp⟩
 | x :: l,d,n,h0,h1,h2,h3=>by
  obtain ⟨p1,p2⟩:=each_may x d n h0 h1 h2 h3
  have hx:=hgt_pos x
  have hl:=hgtL_pos l
  have hcx:=cnt_pos x
  rw [eachL,fineL,cntL,hgtL]
  by_cases hc:(eachS mayStep x d n).2 = true
  ·rw [if_pos hc,p2 hc]
   have hc':=hc
   rw [p1] at hc'
   simp only [Bool.and_eq_true,decide_eq_true_eq] at hc'
   obtain ⟨⟨c1,c2⟩,c3⟩:=hc'
   obtain ⟨q1,q2⟩:=eachL_may l d (n + cnt x) (by omega) c2 h2 h3
   refine ⟨?_,fun h=>by rw [q2 h]; push_cast; omega⟩
   rw [q1,c1,Bool.true_and]
   congr 2
   ·rw [decide_eq_decide]; push_cast; omega
   ·exact propext (by omega)
  ·rw [if_neg hc]
   refine ⟨?_,fun h=>by cases h⟩
   symm
   rw [Bool.eq_false_iff]
   intro h
   simp only [Bool.and_eq_true,decide_eq_true_eq] at h
   obtain ⟨⟨⟨a1,a2⟩,a3⟩,a4⟩:=h
   apply hc
   rw [p1]
   simp only [Bool.and_eq_true,decide_eq_true_eq]
   exact ⟨⟨a1,by push_cast at a3; omega⟩,by omega⟩
end
theorem may_eq (e:Ex):e.may = (fineE e && decide (cnt e ≤ 30) && decide (hgt e ≤ 6)):=by
 rw [Ex.may,(each_may e 1 0 (by omega) (by omega) (by omega) (by omega)).1]
 congr 2
 ·rw [decide_eq_decide]; omega
 ·exact propext (by omega)
theorem fineL_mem:∀ {l:List Ex} {x:Ex},fineL l = true → x ∈ l → fineE x = true ∧ cnt x ≤ cntL l ∧ hgt x ≤ hgtL l
 | [],x,_,h=>by simp at h
 | y :: l,x,hf,h=>by
  rw [fineL,Bool.and_eq_true] at hf
  rw [cntL,hgtL]
  rcases List.mem_cons.1 h with rfl | h
  ·exact ⟨hf.1,by omega,by omega⟩
  ·obtain ⟨h1,h2,h3⟩:=fineL_mem hf.2 h
   exact ⟨h1,by omega,by omega⟩
theorem may_part {op col k n:Int} {l:List Ex} (h:(Ex.mk op col k n l).may = true) {x:Ex} (hx:x ∈ l):x.may = true:=by
 rw [may_eq,fineE,cnt,hgt] at h
 rw [may_eq]
 simp only [Bool.and_eq_true,decide_eq_true_eq] at h ⊢
 obtain ⟨⟨⟨h1,h2⟩,h3⟩,h4⟩:=h
 obtain ⟨q1,q2,q3⟩:=fineL_mem h2 hx
 exact ⟨⟨q1,by omega⟩,by omega⟩
/- Its columns. -/
mutual
def colsOf:Ex → List Int
 | .mk op col _ _ l=>(if op = 1 then [col] else []) ++ colsOfL l
def colsOfL:List Ex → List Int
 | []=>[]
 | x :: l=>colsOf x ++ colsOfL l
end
mutual
theorem each_cols:∀ (e:Ex) (d:Int) (s:List Int),eachS colStep e d s = (s ++ colsOf e,true)
 | .mk op col k n l,d,s=>by
  rw [eachS,colsOf]
  have h1:colStep s (Ex.mk op col k n l) d = (if op = 1 then s ++ [col] else s,true):=rfl
  rw [h1,if_pos rfl,eachL_cols l]
  split <;> simp
theorem eachL_cols:∀ (l:List Ex) (d:Int) (s:List Int),eachL colStep l d s = (s ++ colsOfL l,true)
 | [],d,s=>by rw [eachL,colsOfL]; simp
 | x :: l,d,s=>by
  rw [eachL,each_cols x,if_pos rfl,eachL_cols l,colsOfL]
  simp
end
theorem colsAll_eq (e:Ex):e.colsAll = colsOf e:=by rw [Ex.colsAll,each_cols]; simp
theorem cols_eq (e:Ex):e.cols = if e.may then Lib.compact ((colsOf e).mergeSort fun x y=>decide (x ≤ y)) else []:=by rw [Ex.cols,colsAll_eq]
theorem compact_len (l:List Int):(Lib.compact l).length ≤ l.length:=by
 have:=compactAll_length l
 rw [compactAll,List.length_append] at this
 omega
theorem cols_len (e:Ex):e.cols.length ≤ cnt e:=by
 rw [Ex.cols]
 split
 ·refine Nat.le_trans (compact_len _) ?_
  rw [List.length_mergeSort]
  exact colsAll_len e
 ·simp
end
section
attribute [local push_cast] encE_mk encE_take encE_len encV encE_one encEs_pure encE_pure
def hasUpto (e:Ex) (n:Nat):List Int:=(upto n).filter fun c=>hasE c e
theorem hasUpto_zero (e:Ex):hasUpto e 0 = []:=rfl
theorem hasUpto_yes (e:Ex) (n:Nat) (h:hasE (n:Int) e = true):hasUpto e (n + 1) = hasUpto e n ++ [(n:Int)]:=by
 have:upto (n + 1) = upto n ++ [(n:Int)]:=by simp [upto,List.range_succ]
 simp [hasUpto,this,List.filter_append,h]
theorem hasUpto_no (e:Ex) (n:Nat) (h:hasE (n:Int) e = false):hasUpto e (n + 1) = hasUpto e n:=by
 have:upto (n + 1) = upto n ++ [(n:Int)]:=by simp [upto,List.range_succ]
 simp [hasUpto,this,List.filter_append,h]
theorem hasUpto_len (e:Ex) (n:Nat):(hasUpto e n).length ≤ n:=Nat.le_trans (List.length_filter_le _ _) (by rw [upto_len]; omega)
theorem snocI (l:List Int) (x:Int):rowI l ++ [[.lit (.int .i64 x)]] = rowI (l ++ [x]):=by rw [rowI,rowI,List.map_append]; rfl
def Ex.colsR (e:Ex):List Int:=if e.mayR then hasUpto e 16 else []
theorem ColsR_ok (e:Ex) (hok:e.Ok):Quiet Go.Proofs.Tryz.prog 83 [.agg (encE e)] (.sl (e.colsR.map encI)):=by
 refine quiet_of (rs:=#[.tmp 2]) Go.Proofs.Tryz.func83 rfl rfl rfl mixed rfl rfl fun H hs=>?_
 push_cast -implicitDefEqProofs [eq_self,iff_self]
 refine callq (MayR_ok e hok) ?_
 rw [Ex.colsR]
 generalize e.mayR = may
 cases may with
 | false =>
  push_cast -implicitDefEqProofs [eq_self,iff_self]
  refine loop_at hs (σ:=Unit) (fun _=>True) (fun _=>0) (fun _=>[(1, .ptr (H.nxt + 0) 5 0 0),(5, .int 0),(4, .bool false),(3, .nilS)]) (fun _=>[some (.cells 5 [encE e] 0)]) [some 0] () trivial rfl ?_ ?_ ?_
  ·(try push_cast -implicitDefEqProofs [eq_self,iff_self])
  ·(try push_cast -implicitDefEqProofs [eq_self,iff_self])
  ·intro _ _
   push_cast -implicitDefEqProofs [eq_self,iff_self]
   (try push_cast -implicitDefEqProofs [eq_self,iff_self])
 | true =>
  push_cast -implicitDefEqProofs [eq_self,iff_self]
  refine loop_at hs (σ:=Nat) (fun i=>i ≤ 16) (fun i=>16 - i)
   (fun i=>[(1, .ptr (H.nxt + 0) 5 0 0),(5, .int i),(4, .bool true),(3, .rsl (H.nxt + 1) 1 0 (hasUpto e i).length)]) (fun i=>[some (.cells 5 [encE e] 0),some (.cells 1 (rowI (hasUpto e i)) 0)]) [some 0,none] 0 (by omega) rfl ?_ ?_ ?_
  ·(try push_cast -implicitDefEqProofs [eq_self,iff_self,hasUpto_zero,rowI_nil])
  ·(try push_cast -implicitDefEqProofs [eq_self,iff_self,hasUpto_zero,rowI_nil])
  ·intro i hi2
   have hlen:=hasUpto_len e i
   by_cases hi:i < 16
   ·have hi':((i:Int) ≤ 15) = True:=by simp; omega
    push_cast -implicitDefEqProofs [eq_self,iff_self,hi']
    refine callq (has_ok e i hok) ?_
    push_cast -implicitDefEqProofs [eq_self,iff_self]
    refine ⟨fun h=>⟨by omega, ?_⟩,fun h=>?_⟩
    ·rw [wrap64 (n:=(i:Int) + 1) (by omega) (by omega)]
     refine next_at [some 0,some 3] (i + 1) (by omega) (by omega) rfl ?_ ?_
     ·(try push_cast -implicitDefEqProofs [eq_self,iff_self,hasUpto_yes e i h])
     ·(try push_cast -implicitDefEqProofs [eq_self,iff_self,hasUpto_yes e i h,take_rowI _ _ (Nat.le_refl _),snocI,rowI_pure,rowI_one])
    ·rw [wrap64 (n:=(i:Int) + 1) (by omega) (by omega)]
     refine next_at [some 0,some 1] (i + 1) (by omega) (by omega) rfl ?_ ?_
     ·(try push_cast -implicitDefEqProofs [eq_self,iff_self,hasUpto_no e i h])
     ·(try push_cast -implicitDefEqProofs [eq_self,iff_self,hasUpto_no e i h,rowI_pure,rowI_one])
   ·have hi':((i:Int) ≤ 15) = False:=by simp; omega
    push_cast -implicitDefEqProofs [eq_self,iff_self,hi']
    (try push_cast -implicitDefEqProofs [eq_self,iff_self])
    obtain rfl:i = 16:=by omega
    rw [take_rowI _ _ (Nat.le_refl _)]
    exact sealLL_pure _ _ _ (encIs_pure _)
end
end Go.Sim.Tryz
namespace Go.Sim.Tryz
open Go Go.Sim
attribute [local push_cast] aops_cons aops_nil aopG_none aopG_some aopP_eq aopE_eq aopC_eq aopE?_eq aopC?_eq aopB_eq aopB?_eq abr anilq gopP_eq gopL_eq ahead_cons ahead_nil ahdG_none ahdG_some ahdP_eq ahdN_eq ahdC_eq ahdN?_eq ahdS_eq ahdS?_eq astoreN ahdC?_eq ghdP_eq ghdC_eq ghdC?_eq ghdZ_f ghdZ_t ahdI_eq ahdI?_eq ghdN?_eq aim_nil aim_cons isIn_nil isIn_none isIn_cons aimm aheP_eq aheA_eq aheC_eq aheC?_eq aheI?_eq aheA?_eq gheP_eq gheC_eq gheC?_eq gheZ_eq aheG_none aheG_some aheff_cons aheff_nil aapp gro_rsl gro_lit gro_esl opt_some opt_none no_eq acondT_true acondT_false acondT_lit aw_skip aw_region aw_regionD aw_seq aw_cond aw_block aw_loop aw_exit aw_label aw_ret thn_normal thn_exit thn_ret inb_normal inb_exit inb_ret qret_ret qret_normal gcond apure aeff anew acallee ares aresT aresL aresC ares1 qfin_eq ev ofV evL gokL tget tput_some tput_none initT abin aint aun aload afaddr aiaddr afield aindex aextract apick pickv_lit Bool.or_false Bool.false_or Bool.or_true Bool.true_or imp_self aslice chunk roomB abound aconv abuild afill splice alen aminmax abuiltin anil apart Value.oneCell' astore aappend srcEs abuildSlice amakeSlice amapPut alookup aput afind mget keyV sameV_int Option.isSome_some Option.isSome_none cond_true cond_false asets isEq plus_obj plus_nxt plus_add plus_set plus_del IntKind.bits Option.map_some Option.map_none Option.bind_some Option.bind_none Option.join_some Option.getD_some Option.getD_none Option.toList List.getElem?_toArray List.getElem?_cons_zero List.getElem?_cons_succ List.getElem?_nil List.length_cons List.length_nil List.length_map List.head?_cons List.cons_append List.nil_append List.append_nil List.map_cons List.map_nil List.getD_cons_zero List.getD_cons_succ List.replicate_succ List.replicate_zero List.set_cons_zero List.set_cons_succ List.take_succ_cons List.take_zero List.drop_succ_cons List.drop_zero List.all_cons List.all_nil Nat.zero_add if_true if_false true_and and_true false_and and_false true_implies implies_true forall_const Bool.and_true Bool.true_and Bool.false_and Bool.and_false Bool.true_beq Bool.false_beq Bool.not_not beq_tt beq_ff Int.toNat_natCast decide_true decide_false Bool.not_true Bool.not_false Bool.true_eq_false Bool.false_eq_true false_implies exists_prop eq_self bne_self_eq_false beq_self_eq_true decide_eq_true_eq decide_eq_false_iff_not Bool.not_eq_true' Bool.not_eq_false' AV.int AV.bool AV.nilS ne_eq not_false_eq_true not_true_eq_false exists_eq_left exists_eq_left' Nat.lt_irrefl core_lit grd_lit acells_lit one_lit core_agg grd_agg acells_agg one_agg core_tup grd_tup acells_tup one_tup core_sl grd_sl acells_sl one_sl core_esl grd_esl acells_esl one_esl core_rsl grd_rsl acells_rsl one_rsl core_ptr grd_ptr acells_ptr one_ptr core_iptr grd_iptr acells_iptr one_iptr core_clo grd_clo acells_clo one_clo core_mp grd_mp acells_mp one_mp core_any grd_any acells_any one_any core_gv grd_gv fit_agg fit_lit fit_sl fit_esl fit_rsl fit_ptr fit_iptr fit_clo fit_mp retq_ret retq_normal set_nxt set_set plus_obj_set plus_set_set app_get0 app_get app_set0 app_set List.append_assoc List.length_append List.length_set Nat.lt_add_one Nat.add_lt_add_iff_right Nat.lt_add_right_iff_pos Nat.add_lt_add_iff_left List.mem_cons List.not_mem_nil or_false forall_eq forall_eq_or_imp lt_s0 lt_s1 lt_s2 lt_s3 lt_s4 lt_s5 lt_s6 lt_s7 lt_s8 pickv_t pickv_f or_nand or_nand2 imp_and_l SealT SealOs sealO_cells sl_lit sl_any sl_agg sl_tup sl_sl sl_rsl slO sl_esl sl_nil sl_eslesl sl_eslnil sl_rslrsl sl_eslrsl sl_nilrsl sl_ptr sl_iptr sl_ptri slP sl_clo sl_mp sl_gv sll_nil sll_cons slll_nil slll_cons shut_eq shutO Option.join_none Fn.func.injEq and_self sealL_self sealLL_self seal_self PureL PureLL Pure Nat.le_refl Nat.zero_le AV.lit.injEq Value.int.injEq Value.bool.injEq false_or or_true true_or Int.natCast_zero Int.ofNat_zero Int.cast_ofNat_Int Int.natCast_add Int.natCast_one Option.some.injEq piL_is sop_nil sop_cons sop_none sop_some sopO_some sop_new shut_pi shutL_nil shutL_cons exQ_exit exQ_ret exQ_normal Go.Sim.Tryz.ty_load1 Go.Sim.Tryz.ty_zero1 Go.Sim.Tryz.ty_load2 Go.Sim.Tryz.ty_zero2 Go.Sim.Tryz.ty_und2 Go.Sim.Tryz.ty_load3 Go.Sim.Tryz.ty_zero3 Go.Sim.Tryz.ty_und3 Go.Sim.Tryz.ty_load4 Go.Sim.Tryz.ty_zero4 Go.Sim.Tryz.ty_und4 Go.Sim.Tryz.ty_load5 Go.Sim.Tryz.ty_zero5 Go.Sim.Tryz.ty_und5 Go.Sim.Tryz.ty_load9 Go.Sim.Tryz.ty_zero9 Go.Sim.Tryz.ty_und9 Go.Sim.Tryz.ty_load22 Go.Sim.Tryz.ty_zero22 Go.Sim.Tryz.ty_el22 Go.Sim.Tryz.ty_zeroE22 Go.Sim.Tryz.ty_load24 Go.Sim.Tryz.ty_zero24 Go.Sim.Tryz.ty_fld24_0 Go.Sim.Tryz.ty_part24_0 Go.Sim.Tryz.ty_struct24 Go.Sim.Tryz.ty_load25 Go.Sim.Tryz.ty_zero25 Go.Sim.Tryz.ty_el25 Go.Sim.Tryz.ty_zeroE25 Go.Sim.Tryz.ty_load26 Go.Sim.Tryz.ty_zero26 Go.Sim.Tryz.ty_el26 Go.Sim.Tryz.ty_zeroE26 Go.Sim.Tryz.ty_load28 Go.Sim.Tryz.ty_zero28 Go.Sim.Tryz.ty_fld28_0 Go.Sim.Tryz.ty_part28_0 Go.Sim.Tryz.ty_fld28_1 Go.Sim.Tryz.ty_part28_1 Go.Sim.Tryz.ty_fld28_2 Go.Sim.Tryz.ty_part28_2 Go.Sim.Tryz.ty_fld28_3 Go.Sim.Tryz.ty_part28_3 Go.Sim.Tryz.ty_fld28_4 Go.Sim.Tryz.ty_part28_4 Go.Sim.Tryz.ty_fld28_5 Go.Sim.Tryz.ty_part28_5 Go.Sim.Tryz.ty_struct28 Go.Sim.Tryz.ty_load29 Go.Sim.Tryz.ty_zero29 Go.Sim.Tryz.ty_arr29 Go.Sim.Tryz.ty_part29_0 Go.Sim.Tryz.ty_part29_1 Go.Sim.Tryz.ty_struct29 Go.Sim.Tryz.ty_load30 Go.Sim.Tryz.ty_zero30 Go.Sim.Tryz.ty_el30 Go.Sim.Tryz.ty_zeroE30 Go.Sim.Tryz.ty_load32 Go.Sim.Tryz.ty_zero32 Go.Sim.Tryz.ty_fld32_0 Go.Sim.Tryz.ty_part32_0 Go.Sim.Tryz.ty_fld32_1 Go.Sim.Tryz.ty_part32_1 Go.Sim.Tryz.ty_fld32_2 Go.Sim.Tryz.ty_part32_2 Go.Sim.Tryz.ty_fld32_3 Go.Sim.Tryz.ty_part32_3 Go.Sim.Tryz.ty_struct32 Go.Sim.Tryz.ty_load34 Go.Sim.Tryz.ty_zero34 Go.Sim.Tryz.ty_fld34_0 Go.Sim.Tryz.ty_part34_0 Go.Sim.Tryz.ty_fld34_1 Go.Sim.Tryz.ty_part34_1 Go.Sim.Tryz.ty_fld34_2 Go.Sim.Tryz.ty_part34_2 Go.Sim.Tryz.ty_struct34 Go.Sim.Tryz.ty_load41 Go.Sim.Tryz.ty_zero41 Go.Sim.Tryz.ty_el41 Go.Sim.Tryz.ty_zeroE41 Go.Sim.Tryz.ty_load47 Go.Sim.Tryz.ty_zero47 Go.Sim.Tryz.ty_el47 Go.Sim.Tryz.ty_zeroE47 Go.Sim.Tryz.ty_load52 Go.Sim.Tryz.ty_zero52 Go.Sim.Tryz.ty_fld52_0 Go.Sim.Tryz.ty_part52_0 Go.Sim.Tryz.ty_fld52_1 Go.Sim.Tryz.ty_part52_1 Go.Sim.Tryz.ty_struct52 Go.Sim.Tryz.ty_load58 Go.Sim.Tryz.ty_zero58 Go.Sim.Tryz.ty_fld58_0 Go.Sim.Tryz.ty_part58_0 Go.Sim.Tryz.ty_fld58_1 Go.Sim.Tryz.ty_part58_1 Go.Sim.Tryz.ty_struct58 Go.Sim.Tryz.ty_load60 Go.Sim.Tryz.ty_zero60 Go.Sim.Tryz.ty_fld60_0 Go.Sim.Tryz.ty_part60_0 Go.Sim.Tryz.ty_fld60_1 Go.Sim.Tryz.ty_part60_1 Go.Sim.Tryz.ty_struct60 Go.Sim.Tryz.ty_load62 Go.Sim.Tryz.ty_zero62 Go.Sim.Tryz.ty_fld62_0 Go.Sim.Tryz.ty_part62_0 Go.Sim.Tryz.ty_fld62_1 Go.Sim.Tryz.ty_part62_1 Go.Sim.Tryz.ty_fld62_2 Go.Sim.Tryz.ty_part62_2 Go.Sim.Tryz.ty_fld62_3 Go.Sim.Tryz.ty_part62_3 Go.Sim.Tryz.ty_struct62 Go.Sim.Tryz.ty_load73 Go.Sim.Tryz.ty_zero73 Go.Sim.Tryz.ty_el73 Go.Sim.Tryz.ty_zeroE73 Go.Sim.Tryz.ty_load75 Go.Sim.Tryz.ty_zero75 Go.Sim.Tryz.ty_fld75_0 Go.Sim.Tryz.ty_part75_0 Go.Sim.Tryz.ty_struct75 Go.Sim.Tryz.ty_load79 Go.Sim.Tryz.ty_zero79 Go.Sim.Tryz.ty_load80 Go.Sim.Tryz.ty_zero80 Go.Sim.Tryz.ty_el80 Go.Sim.Tryz.ty_zeroE80 Go.Sim.Tryz.ty_load82 Go.Sim.Tryz.ty_zero82 Go.Sim.Tryz.ty_fld82_0 Go.Sim.Tryz.ty_part82_0 Go.Sim.Tryz.ty_fld82_1 Go.Sim.Tryz.ty_part82_1 Go.Sim.Tryz.ty_fld82_2 Go.Sim.Tryz.ty_part82_2 Go.Sim.Tryz.ty_struct82 Go.Sim.Tryz.ty_load87 Go.Sim.Tryz.ty_zero87 Go.Sim.Tryz.ty_fld87_0 Go.Sim.Tryz.ty_part87_0 Go.Sim.Tryz.ty_fld87_1 Go.Sim.Tryz.ty_part87_1 Go.Sim.Tryz.ty_struct87 Go.Sim.Tryz.ty_load90 Go.Sim.Tryz.ty_zero90 Go.Sim.Tryz.ty_arr90 Go.Sim.Tryz.ty_part90_0 Go.Sim.Tryz.ty_part90_1 Go.Sim.Tryz.ty_struct90 Go.Sim.Tryz.ty_load92 Go.Sim.Tryz.ty_zero92 Go.Sim.Tryz.ty_load103 Go.Sim.Tryz.ty_zero103 Go.Sim.Tryz.ty_fld103_0 Go.Sim.Tryz.ty_part103_0 Go.Sim.Tryz.ty_fld103_1 Go.Sim.Tryz.ty_part103_1 Go.Sim.Tryz.ty_struct103 Go.Sim.Tryz.ty_load107 Go.Sim.Tryz.ty_zero107 Go.Sim.Tryz.ty_und107 Go.Sim.Tryz.ty_load110 Go.Sim.Tryz.ty_zero110 Go.Sim.Tryz.ty_und110 Go.Sim.Tryz.ty_load116 Go.Sim.Tryz.ty_zero116 Go.Sim.Tryz.ty_fld116_0 Go.Sim.Tryz.ty_part116_0 Go.Sim.Tryz.ty_struct116 Go.Sim.Tryz.ty_load117 Go.Sim.Tryz.ty_zero117 Go.Sim.Tryz.ty_load118 Go.Sim.Tryz.ty_zero118 Go.Sim.Tryz.ty_el118 Go.Sim.Tryz.ty_zeroE118 Go.Sim.Tryz.ty_load119 Go.Sim.Tryz.ty_zero119 Go.Sim.Tryz.ty_el119 Go.Sim.Tryz.ty_zeroE119 Go.Sim.Tryz.ty_load120 Go.Sim.Tryz.ty_zero120 Go.Sim.Tryz.ty_load131 Go.Sim.Tryz.ty_zero131 Go.Sim.Tryz.ty_load137 Go.Sim.Tryz.ty_zero137 Go.Sim.Tryz.ty_el137 Go.Sim.Tryz.ty_zeroE137 Go.Sim.Tryz.ty_load144 Go.Sim.Tryz.ty_zero144 Go.Sim.Tryz.ty_load147 Go.Sim.Tryz.ty_zero147 Go.Sim.Tryz.ty_und147 Go.Sim.Tryz.ty_load151 Go.Sim.Tryz.ty_zero151 Go.Sim.Tryz.ty_el151 Go.Sim.Tryz.ty_zeroE151 Go.Sim.Tryz.ty_load154 Go.Sim.Tryz.ty_zero154 Go.Sim.Tryz.ty_fld154_0 Go.Sim.Tryz.ty_part154_0 Go.Sim.Tryz.ty_struct154 Go.Sim.Tryz.ty_load164 Go.Sim.Tryz.ty_zero164 Go.Sim.Tryz.ty_load168 Go.Sim.Tryz.ty_zero168 Go.Sim.Tryz.ty_und168 Go.Sim.Tryz.ty_vzero154 Go.Sim.Tryz.ty_load171 Go.Sim.Tryz.ty_zero171 Go.Sim.Tryz.ty_fld171_0 Go.Sim.Tryz.ty_part171_0 Go.Sim.Tryz.ty_fld171_1 Go.Sim.Tryz.ty_part171_1 Go.Sim.Tryz.ty_fld171_2 Go.Sim.Tryz.ty_part171_2 Go.Sim.Tryz.ty_struct171 Go.Sim.Tryz.ty_load173 Go.Sim.Tryz.ty_zero173 Go.Sim.Tryz.ty_load175 Go.Sim.Tryz.ty_zero175 Go.Sim.Tryz.ty_und175 Go.Sim.Tryz.ty_load182 Go.Sim.Tryz.ty_zero182 Go.Sim.Tryz.ty_und182 Go.Sim.Tryz.ty_load185 Go.Sim.Tryz.ty_zero185 Go.Sim.Tryz.ty_load188 Go.Sim.Tryz.ty_zero188 Go.Sim.Tryz.ty_und188 Go.Sim.Tryz.ty_load192 Go.Sim.Tryz.ty_zero192 Go.Sim.Tryz.ty_load195 Go.Sim.Tryz.ty_zero195 encE_mk encE_take encE_len encV encE_one encEs_pure encE_pure
mutual
theorem partsR_spec:∀ (e:Ex) (d:Int),1 ≤ d → d ≤ 7 → (1 ≤ partsR e d ∧ partsR e d ≤ 1000 - 100 * d) ∧ ((partsR e d ≤ 30) ↔ ((cnt e:Int) ≤ 30 ∧ d + hgt e ≤ 7)) ∧ (partsR e d ≤ 30 → partsR e d = cnt e)
 | .mk op col k n l,d,h1,h2=>by
  rw [partsR,cnt,hgt]
  have hh:=hgtL_pos l
  by_cases hd:6 < d
  ·rw [if_pos hd]
   exact ⟨by omega,⟨fun h=>by omega,fun h=>by omega⟩,fun h=>by omega⟩
  ·rw [if_neg hd]
   have:=partsL_spec l (d + 1) 1 (by omega) (by omega) (by omega) (by omega)
   push_cast
   omega
theorem partsL_spec:∀ (l:List Ex) (d n:Int),2 ≤ d → d ≤ 7 → 1 ≤ n → n ≤ 1100 - 100 * d → (n ≤ partsL l d n ∧ partsL l d n ≤ 1100 - 100 * d) ∧ ((partsL l d n ≤ 30) ↔ (n + cntL l ≤ 30 ∧ d + hgtL l ≤ 7)) ∧ (partsL l d n ≤ 30 → partsL l d n = n + cntL l)
 | [],d,n,h1,h2,h3,h4=>by
  rw [partsL,cntL,hgtL]
  push_cast
  omega
 | x :: l,d,n,h1,h2,h3,h4=>by
  rw [partsL,cntL,hgtL]
  have hx:=partsR_spec x d (by omega) h2
  have hp:=cnt_pos x
  have hh:=hgt_pos x
  by_cases hn:n < 31
  ·rw [if_pos hn,wrap64 (by omega) (by omega)]
   have:=partsL_spec l d (n + partsR x d) h1 h2 (by omega) (by omega)
   push_cast
   omega
  ·rw [if_neg hn]
   push_cast
   omega
end
theorem part_iff (op col k n:Int) (l:List Ex):(Ex.mk op col k n l).part = true ↔
  (0 ≤ op ∧ op < 11 ∧ (wayLo op ≤ l.length ∧ (l.length:Int) ≤ wayHi op) ∧ (col = 0 ∨ (op = 1 ∧ 0 < col ∧ col ≤ 15)) ∧ ((k = 0 ∧ n = 0) ∨ (op = 0 ∧ 0 ≤ k ∧ k < 3 ∧ (k = 0 ∨ n = 0)))):=by
 show ((decide (0 ≤ op) && decide (op < 11) && (decide (wayLo op ≤ l.length) && decide ((l.length:Int) ≤ wayHi op)) && (decide (col = 0) || (decide (op = 1) && decide (0 < col) && decide (col ≤ 15)))
  && ((decide (k = 0) && decide (n = 0)) || (decide (op = 0) && (decide (0 ≤ k) && decide (k < 3) && (decide (k = 0) || decide (n = 0)))))) = true) ↔ _
 simp only [Bool.and_eq_true,Bool.or_eq_true,decide_eq_true_eq,and_assoc]
theorem head_iff (op col k n:Int) (m:Nat):headR op col k n m = true ↔ (0 ≤ op ∧ op ≤ 10 ∧ manyR op m = true ∧ (0 ≤ k ∧ k < 3 ∧ (k = 0 ∨ n = 0)) ∧ 0 ≤ col ∧ col ≤ 15 ∧ (op = 1 ∨ col = 0) ∧ (op = 0 ∨ (k = 0 ∧ n = 0))):=by
 show ((decide (0 ≤ op) && decide (op ≤ 10) && manyR op m && (decide (0 ≤ k) && decide (k < 3) && (decide (k = 0) || decide (n = 0))) && decide (0 ≤ col) && decide (col ≤ 15) && (decide (op = 1) || decide (col = 0)) && (decide (op = 0) || (decide (k = 0) && decide (n = 0)))) = true) ↔ _
 simp only [Bool.and_eq_true,Bool.or_eq_true,decide_eq_true_eq,and_assoc]
theorem part_head (op col k n:Int) (l:List Ex):(Ex.mk op col k n l).part = headR op col k n l.length:=by
 rw [Bool.eq_iff_iff,part_iff,head_iff]
 by_cases hop:op < 0 ∨ 10 < op
 ·constructor
  ·intro h; omega
  ·intro h; omega
 ·have hc:op = 0 ∨ op = 1 ∨ op = 2 ∨ op = 3 ∨ op = 4 ∨ op = 5 ∨ op = 6 ∨ op = 7 ∨ op = 8 ∨ op = 9 ∨ op = 10:=by omega
  have key:(wayLo op ≤ l.length ∧ (l.length:Int) ≤ wayHi op) ↔ manyR op l.length = true:=by
   rcases hc with rfl | rfl | rfl | rfl | rfl | rfl | rfl | rfl | rfl | rfl | rfl <;> simp [wayLo,wayHi,manyR] <;> omega
  rw [key]
  constructor
  ·rintro ⟨h1,h2,h3,h4,h5⟩
   exact ⟨h1,by omega,h3,by omega,by omega,by omega,by omega,by omega⟩
  ·rintro ⟨h1,h2,h3,h4,h5,h6,h7,h8⟩
   exact ⟨h1,by omega,h3,by omega,by omega⟩
mutual
theorem fine_R:∀ e:Ex,fineR e = fineE e
 | .mk op col k n l=>by rw [fineR,fineE,part_head,fine_RL l]
theorem fine_RL:∀ l:List Ex,fineRL l = fineL l
 | []=>rfl
 | x :: l=>by rw [fineRL,fineL,fine_R x,fine_RL l]
end
theorem mayR_eq (e:Ex):e.mayR = e.may:=by
 rw [Ex.mayR,may_eq,fine_R]
 have:=(partsR_spec e 1 (by omega) (by omega)).2.1
 have h:decide (partsR e 1 ≤ 30) = (decide (cnt e ≤ 30) && decide (hgt e ≤ 6)):=by
  rw [Bool.eq_iff_iff,Bool.and_eq_true,decide_eq_true_eq,decide_eq_true_eq,decide_eq_true_eq,this]
  omega
 rw [h]
 cases fineE e <;> cases decide (cnt e ≤ 30) <;> cases decide (hgt e ≤ 6) <;> rfl
mutual
theorem has_cols (c:Int):∀ e:Ex,hasE c e = (colsOf e).contains c
 | .mk op col k n l=>by
  rw [hasE,colsOf,List.contains_append,has_colsL c l]
  by_cases h:op = 1
  ·subst h
   simp only [if_true,decide_true,Bool.true_and,List.contains_cons,List.contains_nil,Bool.or_false]
   by_cases h2:col = c
   ·simp [h2]
   ·have:(c == col) = false:=by simp; omega
    simp [h2,this]
  ·simp [h]
theorem has_colsL (c:Int):∀ l:List Ex,hasL c l = (colsOfL l).contains c
 | []=>by simp [hasL,colsOfL]
 | x :: l=>by rw [hasL,colsOfL,List.contains_append,has_cols c x,has_colsL c l]
end
mutual
theorem cols_range:∀ e:Ex,fineE e = true → ∀ c ∈ colsOf e,0 ≤ c ∧ c ≤ 15
 | .mk op col k n l,hf,c,hc=>by
  rw [fineE,Bool.and_eq_true,part_head,headR] at hf
  rw [colsOf,List.mem_append] at hc
  rcases hc with hc | hc
  ·simp only [Bool.and_eq_true,decide_eq_true_eq] at hf
   split at hc
   ·rw [List.mem_singleton] at hc
    subst hc
    exact ⟨hf.1.1.1.1.2,hf.1.1.1.2⟩
   ·simp at hc
  ·exact cols_rangeL l hf.2 c hc
theorem cols_rangeL:∀ l:List Ex,fineL l = true → ∀ c ∈ colsOfL l,0 ≤ c ∧ c ≤ 15
 | [],_,c,hc=>by simp [colsOfL] at hc
 | x :: l,hf,c,hc=>by
  rw [fineL,Bool.and_eq_true] at hf
  rw [colsOfL,List.mem_append] at hc
  rcases hc with hc | hc
  ·exact cols_range x hf.1 c hc
  ·exact cols_rangeL l hf.2 c hc
end
theorem upto_mem (n:Nat) (c:Int):c ∈ upto n ↔ 0 ≤ c ∧ c < n:=by
 simp only [upto,List.mem_map,List.mem_range]
 constructor
 ·rintro ⟨i,hi,rfl⟩
  exact ⟨by simp,by simpa using hi⟩
 ·rintro ⟨h1,h2⟩
  exact ⟨c.toNat,by omega,by simp; omega⟩
theorem upto_pw (n:Nat):(upto n).Pairwise (· < ·):=by
 rw [upto,List.pairwise_map]
 exact List.pairwise_lt_range.imp fun h=>by simpa using h
theorem colsR_eq (e:Ex):e.colsR = e.cols:=by
 rw [Ex.colsR,mayR_eq,cols_eq]
 by_cases h:e.may = true
 ·rw [if_pos h,if_pos h]
  have hf:fineE e = true:=by
   rw [may_eq] at h
   simp only [Bool.and_eq_true] at h
   exact h.1.1
  refine pw_ext ((upto_pw 16).filter _) (uniq_pw (colsOf e)) fun c=>?_
  show c ∈ hasUpto e 16 ↔ c ∈ uniq (colsOf e)
  rw [uniq_mem,hasUpto,List.mem_filter,upto_mem,has_cols,List.contains_iff_mem]
  constructor
  ·exact fun h=>h.2
  ·intro hc
   have:=cols_range e hf c hc
   exact ⟨by omega,hc⟩
 ·rw [if_neg h,if_neg h]
end Go.Sim.Tryz
namespace Go.Sim.Tryz
open Go Go.Sim
section
structure Df where
 cols:Int
 rows:Int
structure Qy where
 occ:List Int
 p:List Ex
 by_:Int
 sums:List Int
 out:List Int
 ord:Int
def Df.may (d:Df):Bool:=decide (1 ≤ d.cols) && decide (d.cols ≤ 4) && (decide (1 ≤ d.rows) && decide (d.rows ≤ 1000000))
def catMay (c:List Df):Bool:=decide (1 ≤ c.length) && decide (c.length ≤ 4) && c.all Df.may
def dfO:Df:=⟨0,0⟩
def tabCols (c:List Df) (t:Int):Int:=if 0 ≤ t ∧ t < c.length then (c.getD t.toNat dfO).cols else 0
def isCol (c:List Df) (q:Qy) (id:Int):Bool:=decide (0 ≤ id) && decide (id ≤ 15) && decide (id / 4 < q.occ.length) && decide (id % 4 < tabCols c (q.occ.getD (id / 4).toNat (-1)))
def colsIn (c:List Df) (q:Qy) (is:Nat → Bool):List Int:=(upto 16).filter fun id=>isCol c q id && is (id / 4).toNat
def tabOk (c:List Df) (t:Int):Bool:=decide (0 ≤ t) && decide (t < c.length)
def within (l of:List Int):Bool:=l.all fun n=>of.contains n
def endMay (q:Qy) (cols:List Int):Bool :=
 if q.by_ = -1 then decide (1 ≤ q.out.length) && decide (q.out.length ≤ 8) && decide q.out.Nodup && within q.out cols && decide (q.sums.length = 0) && (decide (q.ord = -1) || q.out.contains q.ord)
 else within [q.by_] cols && decide (q.sums.length ≤ 4) && within q.sums cols && decide (q.out.length = 0) && (decide (q.ord = -1) || decide (q.ord = q.by_))
def exIn (cols:List Int) (e:Ex):Bool:=!decide (e.cols.length = 0) && within e.cols cols
def Qy.may (c:List Df) (q:Qy):Bool :=
 catMay c && decide (1 ≤ q.occ.length) && decide (q.occ.length ≤ 4) && q.occ.all (tabOk c) && decide (q.p.length ≤ 6) && q.p.all (exIn (colsIn c q fun _=>true)) && endMay q (colsIn c q fun _=>true)
def hasOcc (e:Ex) (i:Nat):Bool:=e.cols.any fun c=>decide (c / 4 = i)
def setE (e:Ex):Int:=ofBits (hasOcc e)
def exO:Ex:=.mk 0 0 0 0 []
def idxF (p:Ex → Bool) (P:List Ex):List Int:=(upto P.length).filter fun i=>p (P.getD i.toNat exO)
def ownT (s:Int) (e:Ex):Bool:=holdsI s (setE e)
def newT (a b:Int) (e:Ex):Bool:=ownT (bor .i64 a b) e && !ownT a e && !ownT b e
def Qy.own (q:Qy) (s:Int):List Int:=idxF (ownT s) q.p
def Qy.new (q:Qy) (a b:Int):List Int:=idxF (newT a b) q.p
theorem setE_range (e:Ex):0 ≤ setE e ∧ setE e ≤ 15:=ofBits_range _
theorem setE_bit (e:Ex) (i:Nat) (hi:i < 4):bitI (setE e) i = hasOcc e i:=ofBits_bit _ i hi
theorem getD_left {α:Type} (l m:List α) (i:Nat) (d:α) (h:i < l.length):(l ++ m).getD i d = l.getD i d:=by
 rw [List.getD_eq_getElem?_getD,List.getD_eq_getElem?_getD,List.getElem?_append_left h]
theorem upto_snoc (n:Nat):upto (n + 1) = upto n ++ [(n:Int)]:=by simp [upto,List.range_succ]
theorem idxF_snoc (p:Ex → Bool) (P:List Ex) (e:Ex):idxF p (P ++ [e]) = idxF p P ++ (if p e then [(P.length:Int)] else []):=by
 unfold idxF
 rw [List.length_append,List.length_singleton,upto_snoc,List.filter_append]
 have h1:(upto P.length).filter (fun i=>p ((P ++ [e]).getD i.toNat exO)) = (upto P.length).filter fun i=>p (P.getD i.toNat exO):=by
  refine List.filter_congr fun i hi=>?_
  rw [upto_mem] at hi
  have:i.toNat < P.length:=by omega
  rw [getD_left _ _ _ _ this]
 rw [h1]
 congr 1
 have h2:(P ++ [e]).getD ((P.length:Int)).toNat exO = e:=by simp
 rw [List.filter_cons,h2]
 split <;> simp_all
theorem snoc_ind {α:Type} {M:List α → Prop} (h0:M []) (h1:∀ l x,M l → M (l ++ [x])) (l:List α):M l:=by
 rw [← List.reverse_reverse l]
 induction l.reverse with
 | nil=>exact h0
 | cons x l ih=>rw [List.reverse_cons]; exact h1 _ _ ih
theorem idxF_mem (p:Ex → Bool) (P:List Ex) (i:Int):i ∈ idxF p P ↔ 0 ≤ i ∧ i < P.length ∧ p (P.getD i.toNat exO) = true:=by
 rw [idxF,List.mem_filter,upto_mem,and_assoc]
theorem holdsI_iff (s t:Int):holdsI s t = true ↔ ∀ i,i < 4 → bitI t i = true → bitI s i = true:=by
 rw [holdsI,List.all_eq_true]
 constructor
 ·intro h i hi ht
  have:=h i (List.mem_range.2 hi)
  simpa [ht] using this
 ·intro h i hi
  have:=h i (List.mem_range.1 hi)
  cases ht:bitI t i
  ·rfl
  ·simp [this ht]
theorem ownT_iff (s:Int) (e:Ex):ownT s e = true ↔ ∀ i,i < 4 → hasOcc e i = true → bitI s i = true:=by
 rw [ownT,holdsI_iff]
 constructor
 ·intro h i hi ht
  exact h i hi (by rw [setE_bit e i hi]; exact ht)
 ·intro h i hi ht
  exact h i hi (by rw [← setE_bit e i hi]; exact ht)
def disjS (a b:Int):Prop:=∀ i,i < 4 → ¬ (bitI a i = true ∧ bitI b i = true)
theorem apart_band {a b:Int} (h:band .i64 a b = 0):disjS a b:=by
 intro i hi ⟨h1,h2⟩
 have:=band_bit a b i hi
 rw [h,h1,h2] at this
 have hz:bitI 0 i = false:=by simp [bitI]
 rw [hz] at this
 cases this
def ind (b:Bool):Nat:=if b then 1 else 0
def Qy.full (q:Qy):Prop:=∀ e ∈ q.p,∃ i,i < 4 ∧ hasOcc e i = true
theorem may_split {c:List Df} {q:Qy} (h:q.may c = true):catMay c = true ∧ 1 ≤ q.occ.length ∧ q.occ.length ≤ 4 ∧ (∀ t ∈ q.occ,0 ≤ t ∧ t < c.length) ∧ q.p.length ≤ 6 ∧ (∀ e ∈ q.p,e.cols ≠ [] ∧ ∀ x ∈ e.cols,isCol c q x = true) ∧ endMay q (colsIn c q fun _=>true) = true:=by
 simp only [Qy.may,Bool.and_eq_true,decide_eq_true_eq,List.all_eq_true] at h
 obtain ⟨⟨⟨⟨⟨⟨h1,h2⟩,h3⟩,h4⟩,h5⟩,h6⟩,h7⟩:=h
 refine ⟨h1,h2,h3,fun t ht=>?_,h5,fun e he=>?_,h7⟩
 ·have:=h4 t ht
  simpa [tabOk] using this
 ·have:=h6 e he
  simp only [exIn,Bool.and_eq_true,Bool.not_eq_true',decide_eq_false_iff_not,within,List.all_eq_true,List.contains_iff_mem] at this
  refine ⟨fun e0=>this.1 (by rw [e0]; rfl),fun x hx=>?_⟩
  have hx:=this.2 x hx
  simp only [colsIn,List.mem_filter,Bool.and_true] at hx
  exact hx.2
theorem isCol_range {c:List Df} {q:Qy} {id:Int} (h:isCol c q id = true):0 ≤ id ∧ id ≤ 15 ∧ id / 4 < q.occ.length:=by
 simp only [isCol,Bool.and_eq_true,decide_eq_true_eq] at h
 exact ⟨h.1.1.1,h.1.1.2,h.1.2⟩
end
section
theorem fine_of_may {e:Ex} (h:e.may = true):fineE e = true:=by
 rw [may_eq,Bool.and_eq_true,Bool.and_eq_true] at h
 exact h.1.1
theorem fine_col {c k n:Int} {l:List Ex} (h:fineE (Ex.mk 1 c k n l) = true):l = [] ∧ 0 ≤ c ∧ c ≤ 15:=by
 rw [fineE,Bool.and_eq_true] at h
 obtain ⟨_,_,h3,h4,_⟩:=(part_iff _ _ _ _ _).1 h.1
 have h5:wayHi 1 = 0:=by decide
 rw [h5] at h3
 refine ⟨List.length_eq_zero_iff.1 (by omega),by omega,by omega⟩
theorem cols_mem {e:Ex} (h:e.may = true) (c:Int):c ∈ e.cols ↔ c ∈ colsOf e:=by
 rw [cols_eq,if_pos h]
 exact uniq_mem _ c
theorem pair_spec {e:Ex} (his:e.pair.2.2 = true):e.may = true ∧ e.pair.1 ≠ e.pair.2.1 ∧ (0 ≤ e.pair.1 ∧ e.pair.1 ≤ 15) ∧ (0 ≤ e.pair.2.1 ∧ e.pair.2.1 ≤ 15) ∧ ∀ c,c ∈ e.cols ↔ c = e.pair.1 ∨ c = e.pair.2.1:=by
 obtain ⟨op,col,k,n,l⟩:=e
 unfold Ex.pair at his
 split at his
 ·rename_i op' col' k' n' x y heq
  injection heq with e1 e2 e3 e4 e5
  subst e1 e2 e3 e4 e5
  split at his
  ·rename_i hc
   have hp:(Ex.mk op col k n [x,y]).pair = (x.col,y.col,true):=by rw [Ex.pair,if_pos hc]
   simp only [Bool.and_eq_true,decide_eq_true_eq,Bool.not_eq_true',decide_eq_false_iff_not] at hc
   obtain ⟨⟨⟨⟨hmay,c1⟩,c2⟩,c3⟩,c4⟩:=hc
   have hx:=fine_of_may (may_part hmay (x:=x) (by simp))
   have hy:=fine_of_may (may_part hmay (x:=y) (by simp))
   obtain ⟨xo,xc,xk,xn,xl⟩:=x
   obtain ⟨yo,yc,yk,yn,yl⟩:=y
   simp only [Ex.op] at c2 c3
   subst c1 c2 c3
   obtain ⟨rfl,x1,x2⟩:=fine_col hx
   obtain ⟨rfl,y1,y2⟩:=fine_col hy
   rw [hp]
   dsimp only [Ex.col] at c4 ⊢
   refine ⟨hmay,c4,⟨x1,x2⟩,⟨y1,y2⟩,fun c=>?_⟩
   rw [cols_mem hmay]
   simp [colsOf,colsOfL]
  ·cases his
 ·cases his
theorem pair_occ {e:Ex} (his:e.pair.2.2 = true) (i:Nat):hasOcc e i = (decide (e.pair.1 / 4 = i) || decide (e.pair.2.1 / 4 = i)):=by
 obtain ⟨_,_,_,_,h⟩:=pair_spec his
 rw [Bool.eq_iff_iff,hasOcc,List.any_eq_true,Bool.or_eq_true,decide_eq_true_eq,decide_eq_true_eq]
 constructor
 ·rintro ⟨c,hc,hd⟩
  rw [decide_eq_true_eq] at hd
  rcases (h c).1 hc with rfl | rfl
  ·exact .inl hd
  ·exact .inr hd
 ·rintro (h1 | h1)
  ·exact ⟨_,(h _).2 (.inl rfl),decide_eq_true h1⟩
  ·exact ⟨_,(h _).2 (.inr rfl),decide_eq_true h1⟩
def bitC (s c:Int):Bool:=bitI s (c / 4).toNat
def pairOf (a b:Int) (e:Ex):List (Int × Int) :=
 if e.pair.2.2 then
  if bitC a e.pair.1 && bitC b e.pair.2.1 then [(e.pair.1,e.pair.2.1)] else if bitC a e.pair.2.1 && bitC b e.pair.1 then [(e.pair.2.1,e.pair.1)] else []
 else []
def pairsF (a b:Int) (P:List Ex) (l:List Int):List (Int × Int):=l.flatMap fun i=>pairOf a b (P.getD i.toNat exO)
def Qy.pairs (q:Qy) (a b:Int):List (Int × Int):=pairsF a b q.p (q.new a b)
def ordOne (e:Ex):List Int:=if e.pair.2.2 then [e.pair.1,e.pair.2.1] else []
def ordEnd (id:Int):List Int:=if 0 ≤ id ∧ id ≤ 15 then [id] else []
def Qy.ordAll (q:Qy):List Int:=[-1] ++ q.p.flatMap ordOne ++ ordEnd q.by_ ++ ordEnd q.ord
def Qy.orders (q:Qy):List Int:=uniq q.ordAll
theorem own_pair {s:Int} {e:Ex} (his:e.pair.2.2 = true):ownT s e = (bitC s e.pair.1 && bitC s e.pair.2.1):=by
 obtain ⟨_,_,h1,h2,_⟩:=pair_spec his
 rw [Bool.eq_iff_iff,ownT_iff,Bool.and_eq_true]
 constructor
 ·intro h
  refine ⟨h (e.pair.1 / 4).toNat (by omega) ?_,h (e.pair.2.1 / 4).toNat (by omega) ?_⟩
  ·rw [pair_occ his,decide_eq_true (by omega),Bool.true_or]
  ·rw [pair_occ his,decide_eq_true (p:=e.pair.2.1 / 4 = _) (by omega),Bool.or_true]
 ·rintro ⟨h3,h4⟩ i hi h
  rw [pair_occ his,Bool.or_eq_true,decide_eq_true_eq,decide_eq_true_eq] at h
  rcases h with h | h
  ·have:i = (e.pair.1 / 4).toNat:=by omega
   subst this; exact h3
  ·have:i = (e.pair.2.1 / 4).toNat:=by omega
   subst this; exact h4
theorem apart_c {a b:Int} (h:disjS a b) {c:Int} (h0:0 ≤ c) (h1:c ≤ 15):¬ (bitC a c = true ∧ bitC b c = true):=h _ (by omega)
theorem bor_c (a b c:Int) (h0:0 ≤ c) (h1:c ≤ 15):bitC (bor .i64 a b) c = (bitC a c || bitC b c):=bor_bit a b _ (by omega)
theorem pairOf_new {a b:Int} (h:disjS a b) {e:Ex} (hn:newT a b e = true):pairOf b a e = (pairOf a b e).map Prod.swap ∧
  ((e.pair.2.2 = false ∧ pairOf a b e = []) ∨ e.pair.2.2 = true ∧ ∃ x y,pairOf a b e = [(x,y)] ∧ (0 ≤ x ∧ x ≤ 15) ∧ (0 ≤ y ∧ y ≤ 15) ∧ bitC a x = true ∧ bitC b y = true ∧ x ≠ y ∧ ((x = e.pair.1 ∧ y = e.pair.2.1) ∨ (x = e.pair.2.1 ∧ y = e.pair.1))):=by
 by_cases his:e.pair.2.2 = true
 ·obtain ⟨_,hne,h1,h2,_⟩:=pair_spec his
  simp only [newT,own_pair his,bor_c _ _ _ h1.1 h1.2,bor_c _ _ _ h2.1 h2.2,Bool.and_eq_true,Bool.or_eq_true,Bool.not_eq_true'] at hn
  have hx:=apart_c h h1.1 h1.2
  have hy:=apart_c h h2.1 h2.2
  unfold pairOf
  rw [if_pos his,if_pos his]
  obtain ⟨⟨hn1,hn2⟩,hn3⟩:=hn
  cases ha1:bitC a e.pair.1 <;> cases ha2:bitC a e.pair.2.1 <;> cases hb1:bitC b e.pair.1 <;> cases hb2:bitC b e.pair.2.1 <;> simp_all
  ·exact ⟨_,_,⟨rfl,rfl⟩,h2,h1,ha2,hb1,fun h=>hne h.symm, .inr ⟨rfl,rfl⟩⟩
  ·exact ⟨_,_,⟨rfl,rfl⟩,h1,h2,ha1,hb2,hne, .inl ⟨rfl,rfl⟩⟩
 ·have h0:e.pair.2.2 = false:=Bool.eq_false_iff.2 his
  unfold pairOf
  rw [if_neg his,if_neg his]
  exact ⟨rfl, .inl ⟨h0,rfl⟩⟩
theorem flat_len {α β:Type} (f:α → List β):∀ l:List α,(∀ x ∈ l,(f x).length ≤ 1) → (l.flatMap f).length ≤ l.length
 | [],_=>Nat.le_refl _
 | x :: l,h=>by
  rw [List.flatMap_cons,List.length_append,List.length_cons]
  have:=flat_len f l fun y hy=>h y (by simp [hy])
  have:=h x (by simp)
  omega
theorem pairOf_len (a b:Int) (e:Ex):(pairOf a b e).length ≤ 1:=by unfold pairOf; split <;> (try split) <;> (try split) <;> simp
theorem pairs_len (q:Qy) (a b:Int):(q.pairs a b).length ≤ (q.new a b).length:=flat_len _ _ fun i _=>pairOf_len _ _ _
theorem new_mem {q:Qy} {a b i:Int} (h:i ∈ q.new a b):newT a b (q.p.getD i.toNat exO) = true ∧ q.p.getD i.toNat exO ∈ q.p:=by
 rw [Qy.new,idxF_mem] at h
 refine ⟨h.2.2, ?_⟩
 have hlt:i.toNat < q.p.length:=by omega
 rw [List.getD_eq_getElem?_getD,List.getElem?_eq_getElem hlt]
 exact List.getElem_mem hlt
theorem ord_mem (q:Qy) (x:Int):x ∈ q.orders ↔ x = -1 ∨ (∃ e ∈ q.p,e.pair.2.2 = true ∧ (x = e.pair.1 ∨ x = e.pair.2.1)) ∨ (0 ≤ x ∧ x ≤ 15 ∧ (x = q.by_ ∨ x = q.ord)):=by
 rw [Qy.orders,uniq_mem,Qy.ordAll]
 simp only [List.mem_append,List.mem_singleton,List.mem_flatMap,or_assoc]
 have h1:∀ e:Ex,x ∈ ordOne e ↔ e.pair.2.2 = true ∧ (x = e.pair.1 ∨ x = e.pair.2.1):=by
  intro e
  unfold ordOne
  split <;> simp_all
 have h2:∀ id:Int,x ∈ ordEnd id ↔ 0 ≤ x ∧ x ≤ 15 ∧ x = id:=by
  intro id
  unfold ordEnd
  split
  ·rw [List.mem_singleton]; omega
  ·simp only [List.not_mem_nil,false_iff]; omega
 simp only [h1,h2]
 refine or_congr Iff.rfl (or_congr Iff.rfl ?_)
 omega
theorem pairs_mem {q:Qy} {a b:Int} (h:disjS a b) {p:Int × Int} (hp:p ∈ q.pairs a b) :
  (0 ≤ p.1 ∧ p.1 ≤ 15) ∧ (0 ≤ p.2 ∧ p.2 ≤ 15) ∧ bitC a p.1 = true ∧ bitC b p.2 = true ∧ p.1 ≠ p.2 ∧ p.1 ∈ q.orders ∧ p.2 ∈ q.orders:=by
 unfold Qy.pairs pairsF at hp
 rw [List.mem_flatMap] at hp
 obtain ⟨i,hi,hp⟩:=hp
 obtain ⟨hn,hm⟩:=new_mem hi
 rcases (pairOf_new h hn).2 with ⟨_,h0⟩ | ⟨his,x,y,h0,h1,h2,h3,h4,h5,h6⟩
 ·rw [h0] at hp; cases hp
 ·rw [h0,List.mem_singleton] at hp
  subst hp
  refine ⟨h1,h2,h3,h4,h5, ?_, ?_⟩
  ·rw [ord_mem]
   exact .inr (.inl ⟨_,hm,his,h6.elim (fun h=>.inl h.1) fun h=>.inr h.1⟩)
  ·rw [ord_mem]
   exact .inr (.inl ⟨_,hm,his,h6.elim (fun h=>.inr h.2) fun h=>.inl h.2⟩)
end
section
def tabOf (c:List Df) (q:Qy) (o:Nat):Int:=tabCols c (q.occ.getD o (-1))
def colsFrom (o:Nat) (n:Nat):List Int:=(upto n).map fun i=>4 * (o:Int) + i
def colsTo (c:List Df) (q:Qy) (is:Nat → Bool):Nat → List Int
 | 0=>[]
 | k + 1=>colsTo c q is k ++ (if is k then colsFrom k (tabOf c q k).toNat else [])
theorem colsFrom_snoc (o n:Nat):colsFrom o (n + 1) = colsFrom o n ++ [4 * (o:Int) + n]:=by rw [colsFrom,upto_snoc,List.map_append]; rfl
theorem colsFrom_mem (o n:Nat) (x:Int):x ∈ colsFrom o n ↔ 4 * (o:Int) ≤ x ∧ x < 4 * o + n:=by
 rw [colsFrom,List.mem_map]
 constructor
 ·rintro ⟨i,hi,rfl⟩
  rw [upto_mem] at hi
  omega
 ·intro h
  exact ⟨x - 4 * o,(upto_mem _ _).2 (by omega),by omega⟩
theorem colsFrom_pw (o n:Nat):(colsFrom o n).Pairwise (· < ·):=by
 rw [colsFrom,List.pairwise_map]
 exact (upto_pw n).imp fun h=>by omega
theorem tab_range {c:List Df} (h:catMay c = true) (t:Int):0 ≤ tabCols c t ∧ tabCols c t ≤ 4:=by
 unfold tabCols
 split
 ·rename_i h1
  have hlt:t.toNat < c.length:=by omega
  rw [List.getD_eq_getElem?_getD,List.getElem?_eq_getElem hlt,Option.getD_some]
  simp only [catMay,Bool.and_eq_true,List.all_eq_true] at h
  have h3:=h.2 _ (List.getElem_mem hlt)
  simp only [Df.may,Bool.and_eq_true,decide_eq_true_eq] at h3
  omega
 ·omega
theorem colsTo_mem {c:List Df} (h:catMay c = true) (q:Qy) (is:Nat → Bool):∀ k (x:Int),x ∈ colsTo c q is k ↔ 0 ≤ x ∧ x < 4 * (k:Int) ∧ is (x / 4).toNat = true ∧ x % 4 < tabOf c q (x / 4).toNat
 | 0,x=>by
  rw [colsTo]
  simp only [List.not_mem_nil,false_iff]
  omega
 | k + 1,x=>by
  rw [colsTo,List.mem_append,colsTo_mem h q is k]
  have hr:=tab_range h (q.occ.getD k (-1))
  have hin:(x ∈ if is k = true then colsFrom k (tabOf c q k).toNat else []) ↔ is k = true ∧ 4 * (k:Int) ≤ x ∧ x < 4 * k + tabOf c q k:=by
   have ht:((tabOf c q k).toNat:Int) = tabOf c q k:=Int.toNat_of_nonneg hr.1
   split
   ·rename_i hk
    rw [colsFrom_mem,ht]
    simp [hk]
   ·rename_i hk
    simp [hk]
  rw [hin]
  have ht4:tabOf c q k ≤ 4:=hr.2
  constructor
  ·rintro (⟨h1,h2,h3⟩ | ⟨h1,h2,h3⟩)
   ·exact ⟨h1,by omega,h3⟩
   ·have e:(x / 4).toNat = k:=by omega
    rw [e]
    exact ⟨by omega,by omega,h1,by omega⟩
  ·rintro ⟨h1,h2,h3,h4⟩
   by_cases hx:x < 4 * (k:Int)
   ·exact .inl ⟨h1,hx,h3,h4⟩
   ·have e:(x / 4).toNat = k:=by omega
    rw [e] at h3 h4
    exact .inr ⟨h3,by omega,by omega⟩
theorem colsTo_pw {c:List Df} (h:catMay c = true) (q:Qy) (is:Nat → Bool):∀ k,(colsTo c q is k).Pairwise (· < ·)
 | 0=>List.Pairwise.nil
 | k + 1=>by
  rw [colsTo,List.pairwise_append]
  refine ⟨colsTo_pw h q is k, ?_,fun x hx y hy=>?_⟩
  ·split
   ·exact colsFrom_pw _ _
   ·exact List.Pairwise.nil
  ·have h1:=((colsTo_mem h q is k x).1 hx).2.1
   split at hy
   ·have:=(colsFrom_mem _ _ _).1 hy
    omega
   ·cases hy
theorem colsTo_eq {c:List Df} (h:catMay c = true) (q:Qy) (is:Nat → Bool):colsTo c q is (min q.occ.length 4) = colsIn c q is:=by
 refine pw_ext (colsTo_pw h q is _) ((upto_pw 16).filter _) fun x=>?_
 change _ ↔ x ∈ colsIn c q is
 rw [colsTo_mem h,colsIn,List.mem_filter,upto_mem,isCol]
 simp only [Bool.and_eq_true,decide_eq_true_eq]
 constructor
 ·rintro ⟨h1,h2,h3,h4⟩
  exact ⟨by omega,⟨⟨⟨h1,by omega⟩,by omega⟩,h4⟩,h3⟩
 ·rintro ⟨h1,⟨⟨⟨h2,h3⟩,h4⟩,h5⟩,h6⟩
  exact ⟨h2,by omega,h6,h5⟩
end
section
def setTo (p:Nat → Bool):Nat → Int
 | 0=>0
 | k + 1=>setTo p k + (if p k then 2 ^ k else 0)
theorem setTo_four (p:Nat → Bool):setTo p 4 = ofBits p:=by
 simp only [setTo,ofBits,Int.zero_add]
 rfl
theorem new_R (q:Qy) (a b:Int):(q.own (bor .i64 a b)).filter (fun i=>!(q.own a).contains i && !(q.own b).contains i) = q.new a b:=by
 have hc:∀ s i,i ∈ q.own (bor .i64 a b) → (q.own s).contains i = ownT s (q.p.getD i.toNat exO):=by
  intro s i hi
  rw [Qy.own,idxF_mem] at hi
  rw [Bool.eq_iff_iff,List.contains_iff_mem,Qy.own,idxF_mem]
  exact ⟨fun h=>h.2.2,fun h=>⟨hi.1,hi.2.1,h⟩⟩
 rw [List.filter_congr (q:=fun i=>!ownT a (q.p.getD i.toNat exO) && !ownT b (q.p.getD i.toNat exO)) fun i hi=>by rw [hc a i hi,hc b i hi]]
 rw [Qy.own,Qy.new,idxF,idxF,List.filter_filter]
 refine List.filter_congr fun i _=>?_
 unfold newT
 cases ownT (bor .i64 a b) (q.p.getD i.toNat exO) <;> cases ownT a (q.p.getD i.toNat exO) <;> cases ownT b (q.p.getD i.toNat exO) <;> rfl
theorem long_nodup:∀ {l m:List Int},m.Nodup → (∀ x ∈ m,x ∈ l) → l.length ≤ m.length → l.Nodup
 | [],_,_,_,_=>List.nodup_nil
 | x :: l,m,hm,hs,hl=>by
  rw [List.length_cons] at hl
  by_cases hx:x ∈ l
  ·have:=nodup_len hm (m:=l) fun y hy=>by
    rcases List.mem_cons.1 (hs y hy) with rfl | h
    ·exact hx
    ·exact h
   omega
  ·rw [List.nodup_cons]
   refine ⟨hx,long_nodup (m:=m.erase x) (hm.erase x) (fun y hy=>?_) ?_⟩
   ·have hym:=List.mem_of_mem_erase hy
    rcases List.mem_cons.1 (hs y hym) with rfl | h
    ·exact absurd hy (List.Nodup.not_mem_erase hm)
    ·exact h
   ·by_cases hxm:x ∈ m
    ·rw [List.length_erase_of_mem hxm]; omega
    ·rw [List.erase_of_not_mem hxm]; omega
theorem once_iff (l:List Int):decide ((uniq l).length = l.length) = decide l.Nodup:=by
 rw [decide_eq_decide]
 constructor
 ·intro h
  exact long_nodup (pw_nodup (uniq_pw l)) (fun x hx=>(uniq_mem l x).1 hx) (by omega)
 ·intro h
  exact Nat.le_antisymm (uniq_len l) (nodup_len h fun x hx=>(uniq_mem l x).2 hx)
theorem colsIn_mem (c:List Df) (q:Qy) (x:Int):(colsIn c q fun _=>true).contains x = isCol c q x:=by
 rw [Bool.eq_iff_iff,List.contains_iff_mem,colsIn,List.mem_filter,upto_mem,Bool.and_true]
 constructor
 ·exact fun h=>h.2
 ·intro h
  have:=isCol_range h
  exact ⟨by omega,h⟩
theorem within_isCol (c:List Df) (q:Qy) (l:List Int):within l (colsIn c q fun _=>true) = l.all (isCol c q):=by
 unfold within
 exact congrArg _ (funext fun x=>colsIn_mem c q x)
theorem place_iff (l:List Int):(∀ (i:Nat) (h:i < l.length),idx (fun x=>decide (l[i] = x)) l = i) ↔ l.Nodup:=by
 rw [List.nodup_iff_pairwise_ne,List.pairwise_iff_getElem]
 constructor
 ·intro h i j hi hj hij he
  have h1:=h i hi
  have h2:=h j hj
  rw [← he,h1] at h2
  omega
 ·intro h i hi
  refine idx_hit (p:=fun x=>decide (l[i] = x)) hi (fun j hj hji=>?_) (by simp)
  rw [decide_eq_false_iff_not]
  exact fun e=>h j i hj hi hji e.symm
end
attribute [local push_cast] aops_cons aops_nil aopG_none aopG_some aopP_eq aopE_eq aopC_eq aopE?_eq aopC?_eq aopB_eq aopB?_eq abr anilq gopP_eq gopL_eq ahead_cons ahead_nil ahdG_none ahdG_some ahdP_eq ahdN_eq ahdC_eq ahdN?_eq ahdS_eq ahdS?_eq astoreN ahdC?_eq ghdP_eq ghdC_eq ghdC?_eq ghdZ_f ghdZ_t ahdI_eq ahdI?_eq ghdN?_eq aim_nil aim_cons isIn_nil isIn_none isIn_cons aimm aheP_eq aheA_eq aheC_eq aheC?_eq aheI?_eq aheA?_eq gheP_eq gheC_eq gheC?_eq gheZ_eq aheG_none aheG_some aheff_cons aheff_nil aapp gro_rsl gro_lit gro_esl opt_some opt_none no_eq acondT_true acondT_false acondT_lit aw_skip aw_region aw_regionD aw_seq aw_cond aw_block aw_loop aw_exit aw_label aw_ret thn_normal thn_exit thn_ret inb_normal inb_exit inb_ret qret_ret qret_normal gcond apure aeff anew acallee ares aresT aresL aresC ares1 qfin_eq ev ofV evL gokL tget tput_some tput_none initT abin aint aun aload afaddr aiaddr afield aindex aextract apick pickv_lit Bool.or_false Bool.false_or Bool.or_true Bool.true_or imp_self aslice chunk roomB abound aconv abuild afill splice alen aminmax abuiltin anil apart Value.oneCell' astore aappend srcEs abuildSlice amakeSlice amapPut alookup aput afind mget keyV sameV_int Option.isSome_some Option.isSome_none cond_true cond_false asets isEq plus_obj plus_nxt plus_add plus_set plus_del IntKind.bits Option.map_some Option.map_none Option.bind_some Option.bind_none Option.join_some Option.getD_some Option.getD_none Option.toList List.getElem?_toArray List.getElem?_cons_zero List.getElem?_cons_succ List.getElem?_nil List.length_cons List.length_nil List.length_map List.head?_cons List.cons_append List.nil_append List.append_nil List.map_cons List.map_nil List.getD_cons_zero List.getD_cons_succ List.replicate_succ List.replicate_zero List.set_cons_zero List.set_cons_succ List.take_succ_cons List.take_zero List.drop_succ_cons List.drop_zero List.all_cons List.all_nil Nat.zero_add if_true if_false true_and and_true false_and and_false true_implies implies_true forall_const Bool.and_true Bool.true_and Bool.false_and Bool.and_false Bool.true_beq Bool.false_beq Bool.not_not beq_tt beq_ff Int.toNat_natCast decide_true decide_false Bool.not_true Bool.not_false Bool.true_eq_false Bool.false_eq_true false_implies exists_prop eq_self bne_self_eq_false beq_self_eq_true decide_eq_true_eq decide_eq_false_iff_not Bool.not_eq_true' Bool.not_eq_false' AV.int AV.bool AV.nilS ne_eq not_false_eq_true not_true_eq_false exists_eq_left exists_eq_left' Nat.lt_irrefl core_lit grd_lit acells_lit one_lit core_agg grd_agg acells_agg one_agg core_tup grd_tup acells_tup one_tup core_sl grd_sl acells_sl one_sl core_esl grd_esl acells_esl one_esl core_rsl grd_rsl acells_rsl one_rsl core_ptr grd_ptr acells_ptr one_ptr core_iptr grd_iptr acells_iptr one_iptr core_clo grd_clo acells_clo one_clo core_mp grd_mp acells_mp one_mp core_any grd_any acells_any one_any core_gv grd_gv fit_agg fit_lit fit_sl fit_esl fit_rsl fit_ptr fit_iptr fit_clo fit_mp retq_ret retq_normal set_nxt set_set plus_obj_set plus_set_set app_get0 app_get app_set0 app_set List.append_assoc List.length_append List.length_set Nat.lt_add_one Nat.add_lt_add_iff_right Nat.lt_add_right_iff_pos Nat.add_lt_add_iff_left List.mem_cons List.not_mem_nil or_false forall_eq forall_eq_or_imp lt_s0 lt_s1 lt_s2 lt_s3 lt_s4 lt_s5 lt_s6 lt_s7 lt_s8 pickv_t pickv_f or_nand or_nand2 imp_and_l SealT SealOs sealO_cells sl_lit sl_any sl_agg sl_tup sl_sl sl_rsl slO sl_esl sl_nil sl_eslesl sl_eslnil sl_rslrsl sl_eslrsl sl_nilrsl sl_ptr sl_iptr sl_ptri slP sl_clo sl_mp sl_gv sll_nil sll_cons slll_nil slll_cons shut_eq shutO Option.join_none Fn.func.injEq and_self sealL_self sealLL_self seal_self PureL PureLL Pure Nat.le_refl Nat.zero_le AV.lit.injEq Value.int.injEq Value.bool.injEq false_or or_true true_or Int.natCast_zero Int.ofNat_zero Int.cast_ofNat_Int Int.natCast_add Int.natCast_one Option.some.injEq piL_is sop_nil sop_cons sop_none sop_some sopO_some sop_new shut_pi shutL_nil shutL_cons exQ_exit exQ_ret exQ_normal Go.Sim.Tryz.ty_load1 Go.Sim.Tryz.ty_zero1 Go.Sim.Tryz.ty_load2 Go.Sim.Tryz.ty_zero2 Go.Sim.Tryz.ty_und2 Go.Sim.Tryz.ty_load3 Go.Sim.Tryz.ty_zero3 Go.Sim.Tryz.ty_und3 Go.Sim.Tryz.ty_load4 Go.Sim.Tryz.ty_zero4 Go.Sim.Tryz.ty_und4 Go.Sim.Tryz.ty_load5 Go.Sim.Tryz.ty_zero5 Go.Sim.Tryz.ty_und5 Go.Sim.Tryz.ty_load9 Go.Sim.Tryz.ty_zero9 Go.Sim.Tryz.ty_und9 Go.Sim.Tryz.ty_load22 Go.Sim.Tryz.ty_zero22 Go.Sim.Tryz.ty_el22 Go.Sim.Tryz.ty_zeroE22 Go.Sim.Tryz.ty_load24 Go.Sim.Tryz.ty_zero24 Go.Sim.Tryz.ty_fld24_0 Go.Sim.Tryz.ty_part24_0 Go.Sim.Tryz.ty_struct24 Go.Sim.Tryz.ty_load25 Go.Sim.Tryz.ty_zero25 Go.Sim.Tryz.ty_el25 Go.Sim.Tryz.ty_zeroE25 Go.Sim.Tryz.ty_load26 Go.Sim.Tryz.ty_zero26 Go.Sim.Tryz.ty_el26 Go.Sim.Tryz.ty_zeroE26 Go.Sim.Tryz.ty_load28 Go.Sim.Tryz.ty_zero28 Go.Sim.Tryz.ty_fld28_0 Go.Sim.Tryz.ty_part28_0 Go.Sim.Tryz.ty_fld28_1 Go.Sim.Tryz.ty_part28_1 Go.Sim.Tryz.ty_fld28_2 Go.Sim.Tryz.ty_part28_2 Go.Sim.Tryz.ty_fld28_3 Go.Sim.Tryz.ty_part28_3 Go.Sim.Tryz.ty_fld28_4 Go.Sim.Tryz.ty_part28_4 Go.Sim.Tryz.ty_fld28_5 Go.Sim.Tryz.ty_part28_5 Go.Sim.Tryz.ty_struct28 Go.Sim.Tryz.ty_load29 Go.Sim.Tryz.ty_zero29 Go.Sim.Tryz.ty_arr29 Go.Sim.Tryz.ty_part29_0 Go.Sim.Tryz.ty_part29_1 Go.Sim.Tryz.ty_struct29 Go.Sim.Tryz.ty_load30 Go.Sim.Tryz.ty_zero30 Go.Sim.Tryz.ty_el30 Go.Sim.Tryz.ty_zeroE30 Go.Sim.Tryz.ty_load32 Go.Sim.Tryz.ty_zero32 Go.Sim.Tryz.ty_fld32_0 Go.Sim.Tryz.ty_part32_0 Go.Sim.Tryz.ty_fld32_1 Go.Sim.Tryz.ty_part32_1 Go.Sim.Tryz.ty_fld32_2 Go.Sim.Tryz.ty_part32_2 Go.Sim.Tryz.ty_fld32_3 Go.Sim.Tryz.ty_part32_3 Go.Sim.Tryz.ty_struct32 Go.Sim.Tryz.ty_load34 Go.Sim.Tryz.ty_zero34 Go.Sim.Tryz.ty_fld34_0 Go.Sim.Tryz.ty_part34_0 Go.Sim.Tryz.ty_fld34_1 Go.Sim.Tryz.ty_part34_1 Go.Sim.Tryz.ty_fld34_2 Go.Sim.Tryz.ty_part34_2 Go.Sim.Tryz.ty_struct34 Go.Sim.Tryz.ty_load41 Go.Sim.Tryz.ty_zero41 Go.Sim.Tryz.ty_el41 Go.Sim.Tryz.ty_zeroE41 Go.Sim.Tryz.ty_load47 Go.Sim.Tryz.ty_zero47 Go.Sim.Tryz.ty_el47 Go.Sim.Tryz.ty_zeroE47 Go.Sim.Tryz.ty_load52 Go.Sim.Tryz.ty_zero52 Go.Sim.Tryz.ty_fld52_0 Go.Sim.Tryz.ty_part52_0 Go.Sim.Tryz.ty_fld52_1 Go.Sim.Tryz.ty_part52_1 Go.Sim.Tryz.ty_struct52 Go.Sim.Tryz.ty_load58 Go.Sim.Tryz.ty_zero58 Go.Sim.Tryz.ty_fld58_0 Go.Sim.Tryz.ty_part58_0 Go.Sim.Tryz.ty_fld58_1 Go.Sim.Tryz.ty_part58_1 Go.Sim.Tryz.ty_struct58 Go.Sim.Tryz.ty_load60 Go.Sim.Tryz.ty_zero60 Go.Sim.Tryz.ty_fld60_0 Go.Sim.Tryz.ty_part60_0 Go.Sim.Tryz.ty_fld60_1 Go.Sim.Tryz.ty_part60_1 Go.Sim.Tryz.ty_struct60 Go.Sim.Tryz.ty_load62 Go.Sim.Tryz.ty_zero62 Go.Sim.Tryz.ty_fld62_0 Go.Sim.Tryz.ty_part62_0 Go.Sim.Tryz.ty_fld62_1 Go.Sim.Tryz.ty_part62_1 Go.Sim.Tryz.ty_fld62_2 Go.Sim.Tryz.ty_part62_2 Go.Sim.Tryz.ty_fld62_3 Go.Sim.Tryz.ty_part62_3 Go.Sim.Tryz.ty_struct62 Go.Sim.Tryz.ty_load73 Go.Sim.Tryz.ty_zero73 Go.Sim.Tryz.ty_el73 Go.Sim.Tryz.ty_zeroE73 Go.Sim.Tryz.ty_load75 Go.Sim.Tryz.ty_zero75 Go.Sim.Tryz.ty_fld75_0 Go.Sim.Tryz.ty_part75_0 Go.Sim.Tryz.ty_struct75 Go.Sim.Tryz.ty_load79 Go.Sim.Tryz.ty_zero79 Go.Sim.Tryz.ty_load80 Go.Sim.Tryz.ty_zero80 Go.Sim.Tryz.ty_el80 Go.Sim.Tryz.ty_zeroE80 Go.Sim.Tryz.ty_load82 Go.Sim.Tryz.ty_zero82 Go.Sim.Tryz.ty_fld82_0 Go.Sim.Tryz.ty_part82_0 Go.Sim.Tryz.ty_fld82_1 Go.Sim.Tryz.ty_part82_1 Go.Sim.Tryz.ty_fld82_2 Go.Sim.Tryz.ty_part82_2 Go.Sim.Tryz.ty_struct82 Go.Sim.Tryz.ty_load87 Go.Sim.Tryz.ty_zero87 Go.Sim.Tryz.ty_fld87_0 Go.Sim.Tryz.ty_part87_0 Go.Sim.Tryz.ty_fld87_1 Go.Sim.Tryz.ty_part87_1 Go.Sim.Tryz.ty_struct87 Go.Sim.Tryz.ty_load90 Go.Sim.Tryz.ty_zero90 Go.Sim.Tryz.ty_arr90 Go.Sim.Tryz.ty_part90_0 Go.Sim.Tryz.ty_part90_1 Go.Sim.Tryz.ty_struct90 Go.Sim.Tryz.ty_load92 Go.Sim.Tryz.ty_zero92 Go.Sim.Tryz.ty_load103 Go.Sim.Tryz.ty_zero103 Go.Sim.Tryz.ty_fld103_0 Go.Sim.Tryz.ty_part103_0 Go.Sim.Tryz.ty_fld103_1 Go.Sim.Tryz.ty_part103_1 Go.Sim.Tryz.ty_struct103 Go.Sim.Tryz.ty_load107 Go.Sim.Tryz.ty_zero107 Go.Sim.Tryz.ty_und107 Go.Sim.Tryz.ty_load110 Go.Sim.Tryz.ty_zero110 Go.Sim.Tryz.ty_und110 Go.Sim.Tryz.ty_load116 Go.Sim.Tryz.ty_zero116 Go.Sim.Tryz.ty_fld116_0 Go.Sim.Tryz.ty_part116_0 Go.Sim.Tryz.ty_struct116 Go.Sim.Tryz.ty_load117 Go.Sim.Tryz.ty_zero117 Go.Sim.Tryz.ty_load118 Go.Sim.Tryz.ty_zero118 Go.Sim.Tryz.ty_el118 Go.Sim.Tryz.ty_zeroE118 Go.Sim.Tryz.ty_load119 Go.Sim.Tryz.ty_zero119 Go.Sim.Tryz.ty_el119 Go.Sim.Tryz.ty_zeroE119 Go.Sim.Tryz.ty_load120 Go.Sim.Tryz.ty_zero120 Go.Sim.Tryz.ty_load131 Go.Sim.Tryz.ty_zero131 Go.Sim.Tryz.ty_load137 Go.Sim.Tryz.ty_zero137 Go.Sim.Tryz.ty_el137 Go.Sim.Tryz.ty_zeroE137 Go.Sim.Tryz.ty_load144 Go.Sim.Tryz.ty_zero144 Go.Sim.Tryz.ty_load147 Go.Sim.Tryz.ty_zero147 Go.Sim.Tryz.ty_und147 Go.Sim.Tryz.ty_load151 Go.Sim.Tryz.ty_zero151 Go.Sim.Tryz.ty_el151 Go.Sim.Tryz.ty_zeroE151 Go.Sim.Tryz.ty_load154 Go.Sim.Tryz.ty_zero154 Go.Sim.Tryz.ty_fld154_0 Go.Sim.Tryz.ty_part154_0 Go.Sim.Tryz.ty_struct154 Go.Sim.Tryz.ty_load164 Go.Sim.Tryz.ty_zero164 Go.Sim.Tryz.ty_load168 Go.Sim.Tryz.ty_zero168 Go.Sim.Tryz.ty_und168 Go.Sim.Tryz.ty_vzero154 Go.Sim.Tryz.ty_load171 Go.Sim.Tryz.ty_zero171 Go.Sim.Tryz.ty_fld171_0 Go.Sim.Tryz.ty_part171_0 Go.Sim.Tryz.ty_fld171_1 Go.Sim.Tryz.ty_part171_1 Go.Sim.Tryz.ty_fld171_2 Go.Sim.Tryz.ty_part171_2 Go.Sim.Tryz.ty_struct171 Go.Sim.Tryz.ty_load173 Go.Sim.Tryz.ty_zero173 Go.Sim.Tryz.ty_load175 Go.Sim.Tryz.ty_zero175 Go.Sim.Tryz.ty_und175 Go.Sim.Tryz.ty_load182 Go.Sim.Tryz.ty_zero182 Go.Sim.Tryz.ty_und182 Go.Sim.Tryz.ty_load185 Go.Sim.Tryz.ty_zero185 Go.Sim.Tryz.ty_load188 Go.Sim.Tryz.ty_zero188 Go.Sim.Tryz.ty_und188 Go.Sim.Tryz.ty_load192 Go.Sim.Tryz.ty_zero192 Go.Sim.Tryz.ty_load195 Go.Sim.Tryz.ty_zero195
section
attribute [local push_cast] encE_mk encE_take encE_len encV encE_one encEs_pure encE_pure
def encD (d:Df):List AV:=[.lit (.int .i64 d.cols), .lit (.int .i64 d.rows)]
theorem encD_len (d:Df):(encD d).length = 2:=rfl
theorem encD_pure (d:Df):PureL (encD d):=by simp [encD,PureL,Pure]
theorem encDs_pure (l:List Df):PureLL (l.map encD):=by
 rw [pureLL_iff]
 simp only [List.mem_map]
 rintro _ ⟨x,_,rfl⟩
 exact encD_pure x
theorem encDs_get (l:List Df) (i:Nat) (h:i < l.length):(l.map encD).getD i [] = encD l[i]:=getD_map encD l [] i h
theorem cmpD (a b c d:Int):CmpAt Go.Proofs.Tryz.prog 58 [.int .i64 a, .int .i64 b] [.int .i64 c, .int .i64 d] (decide (a = c) && decide (b = d)):=by
 rw [← Bool.and_true (decide (b = d))]
 exact cmp_int2 (f0 := { name := "Cols", type := 3, offset := 0, embedded := false, tag := "", pkgPath := "", byteOffset := 0 }) (f1 := { name := "Rows", type := 3, offset := 1, embedded := false, tag := "", pkgPath := "", byteOffset := 8 }) (n0 := 1) (n1 := 1) (by kernel_rfl) (by kernel_rfl) (by kernel_rfl) (by decide) (by decide) rfl rfl (by kernel_rfl) (by kernel_rfl) (by kernel_rfl) (by kernel_rfl) a b c d
def inI (n low high:Int):Bool:=decide (low ≤ n) && decide (n ≤ high)
theorem in_ok (n low high:Int):Quiet Go.Proofs.Tryz.prog 106 [.int n, .int low, .int high] (.bool (inI n low high)):=by
 refine quiet_of (rs:=#[.tmp 6]) Go.Proofs.Tryz.func106 rfl rfl rfl mixed rfl rfl fun H hs=>?_
 push_cast -implicitDefEqProofs [eq_self,iff_self]
 (try push_cast -implicitDefEqProofs [eq_self,iff_self])
 simp only [inI]
theorem one_ok (d:Df):Quiet Go.Proofs.Tryz.prog 109 [.agg (encD d)] (.bool d.may):=by
 refine quiet_of (rs:=#[.tmp 2]) Go.Proofs.Tryz.func109 rfl rfl rfl mixed rfl rfl fun H hs=>?_
 push_cast -implicitDefEqProofs [eq_self,iff_self,encD,lits,cellsEq,cellEq,cmpD]
 refine gcallq' (.bool (inI d.cols 1 4)) (fun h=>by simp only [Bool.not_eq_true'] at h; exact h) (fun _=>in_ok _ _ _) ?_
 push_cast -implicitDefEqProofs [eq_self,iff_self,encD]
 refine gcallq' (.bool (inI d.rows 1 1000000)) (fun h=>by simpa using h) (fun _=>in_ok _ _ _) ?_
 push_cast -implicitDefEqProofs [eq_self,iff_self,encD]
 (try push_cast -implicitDefEqProofs [eq_self,iff_self])
 simp only [inI,Df.may]
 grind
theorem indexFuncD_ok (l:List Df) (hl:l.length ≤ 140737488355328) (k:Nat) (caps:List AV) (hc:PureL caps) (p:Df → Bool) (hp:∀ v ∈ l,Quiet Go.Proofs.Tryz.prog k (.agg (encD v) :: caps) (.bool (p v))) :
  Quiet Go.Proofs.Tryz.prog 146 [.sl (l.map encD), .clo (.func k) [] caps] (.int (idx p l)):=by
 refine quiet_of (rs:=#[.tmp 4]) Go.Proofs.Tryz.func146 rfl rfl rfl mixed rfl rfl fun H hs=>?_
 push_cast -implicitDefEqProofs [eq_self,iff_self]
 refine loop_rule hs (σ:=Nat) (fun i=>i ≤ l.length ∧ ∀ (j:Nat) (h:j < l.length),j < i → p l[j] = false) (fun i=>l.length - i)
  (fun i=>[(0, .sl (l.map encD)),(1, .clo (.func k) [] caps),(7, .int l.length),(8, .int i)]) (fun _=>[]) 0 ⟨by omega,fun j _ h=>by omega⟩ ?_ ?_ ?_
 ·(try push_cast -implicitDefEqProofs [eq_self,iff_self,encDs_pure,hc])
 ·(try push_cast -implicitDefEqProofs [eq_self,iff_self])
 ·rintro i ⟨h2,h3⟩
  by_cases hi:i < l.length
  ·have hi':((i:Int) < (l.length:Int)) = True:=by simp; omega
   have hi0:(0 ≤ (i:Int)) = True:=by simp
   push_cast -implicitDefEqProofs [eq_self,iff_self,hi',hi0,encDs_get l i hi,encD_len]
   refine callq (hp l[i] (List.getElem_mem hi)) ?_
   push_cast -implicitDefEqProofs [eq_self,iff_self]
   refine ⟨fun h=>?_,fun h=>?_⟩
   ·(try push_cast -implicitDefEqProofs [eq_self,iff_self])
    exact (idx_hit hi h3 h).symm
   ·rw [wrap64 (n:=(i:Int) + 1) (by omega) (by omega)]
    refine next_intro (i + 1) ⟨by omega,fun j hj hji=>?_⟩ (by omega) ?_ ?_
    ·rcases Nat.lt_or_ge j i with h4 | h4
     ·exact h3 j hj h4
     ·obtain rfl:j = i:=by omega
      exact h
    ·(try push_cast -implicitDefEqProofs [eq_self,iff_self,encDs_pure,hc])
    ·(try push_cast -implicitDefEqProofs [eq_self,iff_self])
  ·have hi':((i:Int) < (l.length:Int)) = False:=by simp; omega
   push_cast -implicitDefEqProofs [eq_self,iff_self,hi']
   (try push_cast -implicitDefEqProofs [eq_self,iff_self])
   exact (idx_miss fun j hj=>h3 j hj (by omega)).symm
theorem containsFuncD_ok (l:List Df) (hl:l.length ≤ 140737488355328) (k:Nat) (caps:List AV) (hc:PureL caps) (p:Df → Bool) (hp:∀ v ∈ l,Quiet Go.Proofs.Tryz.prog k (.agg (encD v) :: caps) (.bool (p v))) :
  Quiet Go.Proofs.Tryz.prog 107 [.sl (l.map encD), .clo (.func k) [] caps] (.bool (l.any p)):=by
 refine quiet_of (rs:=#[.tmp 4]) Go.Proofs.Tryz.func107 rfl rfl rfl mixed rfl rfl fun H hs=>?_
 push_cast -implicitDefEqProofs [eq_self,iff_self]
 refine callq (indexFuncD_ok l hl k caps hc p hp) ?_
 push_cast -implicitDefEqProofs [eq_self,iff_self,idx_nonneg]
 (try push_cast -implicitDefEqProofs [eq_self,iff_self])
theorem indexFuncI_ok (l:List Int) (hl:l.length ≤ 140737488355328) (k:Nat) (caps:List AV) (hc:PureL caps) (p:Int → Bool) (hp:∀ v ∈ l,Quiet Go.Proofs.Tryz.prog k (.int v :: caps) (.bool (p v))) :
  Quiet Go.Proofs.Tryz.prog 110 [.sl (l.map encI), .clo (.func k) [] caps] (.int (idx p l)):=by
 refine quiet_of (rs:=#[.tmp 4]) Go.Proofs.Tryz.func110 rfl rfl rfl mixed rfl rfl fun H hs=>?_
 push_cast -implicitDefEqProofs [eq_self,iff_self]
 refine loop_rule hs (σ:=Nat) (fun i=>i ≤ l.length ∧ ∀ (j:Nat) (h:j < l.length),j < i → p l[j] = false) (fun i=>l.length - i)
  (fun i=>[(0, .sl (l.map encI)),(1, .clo (.func k) [] caps),(7, .int l.length),(8, .int i)]) (fun _=>[]) 0 ⟨by omega,fun j _ h=>by omega⟩ ?_ ?_ ?_
 ·(try push_cast -implicitDefEqProofs [eq_self,iff_self,encIs_pure,hc])
 ·(try push_cast -implicitDefEqProofs [eq_self,iff_self])
 ·rintro i ⟨h2,h3⟩
  by_cases hi:i < l.length
  ·have hi':((i:Int) < (l.length:Int)) = True:=by simp; omega
   have hi0:(0 ≤ (i:Int)) = True:=by simp
   push_cast -implicitDefEqProofs [eq_self,iff_self,hi',hi0,encIs_get l i hi,encI]
   refine callq (hp l[i] (List.getElem_mem hi)) ?_
   push_cast -implicitDefEqProofs [eq_self,iff_self]
   refine ⟨fun h=>?_,fun h=>?_⟩
   ·(try push_cast -implicitDefEqProofs [eq_self,iff_self])
    exact (idx_hit hi h3 h).symm
   ·rw [wrap64 (n:=(i:Int) + 1) (by omega) (by omega)]
    refine next_intro (i + 1) ⟨by omega,fun j hj hji=>?_⟩ (by omega) ?_ ?_
    ·rcases Nat.lt_or_ge j i with h4 | h4
     ·exact h3 j hj h4
     ·obtain rfl:j = i:=by omega
      exact h
    ·(try push_cast -implicitDefEqProofs [eq_self,iff_self,encIs_pure,hc])
    ·(try push_cast -implicitDefEqProofs [eq_self,iff_self])
  ·have hi':((i:Int) < (l.length:Int)) = False:=by simp; omega
   push_cast -implicitDefEqProofs [eq_self,iff_self,hi']
   (try push_cast -implicitDefEqProofs [eq_self,iff_self])
   exact (idx_miss fun j hj=>h3 j hj (by omega)).symm
theorem containsFuncI_ok (l:List Int) (hl:l.length ≤ 140737488355328) (k:Nat) (caps:List AV) (hc:PureL caps) (p:Int → Bool) (hp:∀ v ∈ l,Quiet Go.Proofs.Tryz.prog k (.int v :: caps) (.bool (p v))) :
  Quiet Go.Proofs.Tryz.prog 57 [.sl (l.map encI), .clo (.func k) [] caps] (.bool (l.any p)):=by
 refine quiet_of (rs:=#[.tmp 4]) Go.Proofs.Tryz.func57 rfl rfl rfl mixed rfl rfl fun H hs=>?_
 push_cast -implicitDefEqProofs [eq_self,iff_self]
 refine callq (indexFuncI_ok l hl k caps hc p hp) ?_
 push_cast -implicitDefEqProofs [eq_self,iff_self,idx_nonneg]
 (try push_cast -implicitDefEqProofs [eq_self,iff_self])
theorem May1_ok (d:Df):Quiet Go.Proofs.Tryz.prog 108 [.agg (encD d)] (.bool (!d.may)):=by
 refine quiet_of (rs:=#[.tmp 2]) Go.Proofs.Tryz.func108 rfl rfl rfl mixed rfl rfl fun H hs=>?_
 push_cast -implicitDefEqProofs [eq_self,iff_self,encD]
 refine callq (one_ok d) ?_
 push_cast -implicitDefEqProofs [eq_self,iff_self]
 (try push_cast -implicitDefEqProofs [eq_self,iff_self])
theorem dataMay_ok (c:List Df) (hc:c.length ≤ 1000000):Quiet Go.Proofs.Tryz.prog 56 [.agg [.sl (c.map encD)]] (.bool (catMay c)):=by
 refine quiet_of (rs:=#[.tmp 2]) Go.Proofs.Tryz.func56 rfl rfl rfl mixed rfl rfl fun H hs=>?_
 push_cast -implicitDefEqProofs [eq_self,iff_self]
 refine callq (in_ok _ _ _) ?_
 push_cast -implicitDefEqProofs [eq_self,iff_self]
 refine gcallq' (.bool (c.any fun d=>!d.may)) (fun h=>h) (fun _=>containsFuncD_ok c (by omega) _ [] trivial (fun d=>!d.may) fun d _=>May1_ok d) ?_
 push_cast -implicitDefEqProofs [eq_self,iff_self]
 (try push_cast -implicitDefEqProofs [eq_self,iff_self])
 unfold catMay inI
 rw [List.all_eq_not_any_not]
 have e1:decide ((1:Int) ≤ (c.length:Int)) = decide (1 ≤ c.length):=by rw [decide_eq_decide]; omega
 have e2:decide ((c.length:Int) ≤ 4) = decide (c.length ≤ 4):=by rw [decide_eq_decide]; omega
 rw [e1,e2]
theorem Col_ok (o i:Int) (h0:0 ≤ o) (h1:o ≤ 3) (h2:0 ≤ i) (h3:i ≤ 3):Quiet Go.Proofs.Tryz.prog 111 [.int o, .int i] (.int (4 * o + i)):=by
 refine quiet_of (rs:=#[.tmp 4]) Go.Proofs.Tryz.func111 rfl rfl rfl mixed rfl rfl fun H hs=>?_
 push_cast -implicitDefEqProofs [eq_self,iff_self]
 refine callq (in_ok _ _ _) ?_
 push_cast -implicitDefEqProofs [eq_self,iff_self]
 refine gcallq' (.bool (inI i 0 3)) (fun h=>h) (fun _=>in_ok _ _ _) ?_
 push_cast -implicitDefEqProofs [eq_self,iff_self]
 have a1:inI o 0 3 = true:=by simp [inI,h0,h1]
 have a2:inI i 0 3 = true:=by simp [inI,h2,h3]
 rw [a1,a2]
 refine ⟨fun h=>absurd h (by decide),fun _=>?_⟩
 simp only [IntKind.wrap_i64]
 omega
theorem Split_ok (c:Int) (h0:0 ≤ c) (h1:c ≤ 15):Quiet Go.Proofs.Tryz.prog 181 [.int c] (.tup [.int (c / 4), .int (c % 4), .bool true]):=by
 refine quiet_of (rs:=#[.tmp 2, .tmp 3, .tmp 4]) Go.Proofs.Tryz.func181 rfl rfl rfl mixed rfl rfl fun H hs=>?_
 simp -implicitDefEqProofs only [push_cast,Nat.reduceAdd,Nat.reduceSub,Nat.reduceMul,Nat.reduceLT,Nat.reduceLeDiff,Nat.reduceEqDiff,Nat.reduceBEq,reduceCtorEq,reduceIte,Int.reduceLE,Int.reduceLT,Int.reduceNeg,Int.reduceToNat]
 refine callq (in_ok _ _ _) ?_
 simp -implicitDefEqProofs only [push_cast,Nat.reduceAdd,Nat.reduceSub,Nat.reduceMul,Nat.reduceLT,Nat.reduceLeDiff,Nat.reduceEqDiff,Nat.reduceBEq,reduceCtorEq,reduceIte,Int.reduceLE,Int.reduceLT,Int.reduceNeg,Int.reduceToNat]
 have a1:inI c 0 15 = true:=by simp [inI,h0,h1]
 rw [a1]
 refine ⟨fun h=>absurd h (by decide),fun _=>⟨by decide,by decide, ?_, ?_⟩⟩
 ·rw [Int.tdiv_eq_ediv_of_nonneg h0,IntKind.wrap_i64]
  omega
 ·rw [Int.tmod_eq_emod_of_nonneg h0]
theorem setHas_ok (s:Int) (i:Nat) (hi:i < 64):Quiet Go.Proofs.Tryz.prog 68 [.int s, .int i] (.bool (bitI s i)):=by
 refine quiet_of (rs:=#[.tmp 4]) Go.Proofs.Tryz.func68 rfl rfl rfl mixed rfl rfl fun H hs=>?_
 push_cast -implicitDefEqProofs [eq_self,iff_self]
 exact ⟨by omega,has_bit s i hi⟩
theorem setHolds_ok (s t:Int) (h0:0 ≤ t) (h1:t ≤ 15):Quiet Go.Proofs.Tryz.prog 155 [.int s, .int t] (.bool (holdsI s t)):=by
 refine quiet_of (rs:=#[.tmp 4]) Go.Proofs.Tryz.func155 rfl rfl rfl mixed rfl rfl fun H hs=>?_
 push_cast -implicitDefEqProofs [eq_self,iff_self]
 exact holds_bit s t h0 h1
end
section
attribute [local push_cast] encE_mk encE_take encE_len encV encE_one encEs_pure encE_pure
def ofC (cols:List Int) (i:Nat):Bool:=cols.any fun c=>decide (c / 4 = i)
theorem ofC_snoc (cols:List Int) (c:Int) (h0:0 ≤ c) (h1:c ≤ 15):bor .i64 (ofBits (ofC cols)) (bshl .i64 1 (c / 4)) = ofBits (ofC (cols ++ [c])):=by
 obtain ⟨k,hk⟩:∃ k:Nat,c / 4 = k:=⟨(c / 4).toNat,by omega⟩
 rw [hk,bshl_one k (by omega),bor_range _ _ (ofBits_range _) (ofBits_range _)]
 refine ofBits_ext fun i hi=>?_
 rw [ofBits_bit _ i hi,ofBits_bit _ i hi,ofC,ofC,List.any_append,List.any_cons,List.any_nil,Bool.or_false,hk]
 congr 1
 rw [decide_eq_decide]
 omega
theorem ofSet_ok (cols:List Int) (hl:cols.length ≤ 1000000) (hr:∀ c ∈ cols,0 ≤ c ∧ c ≤ 15):Quiet Go.Proofs.Tryz.prog 159 [.sl (cols.map encI)] (.int (ofBits (ofC cols))):=by
 refine quiet_of (rs:=#[.tmp 2]) Go.Proofs.Tryz.func159 rfl rfl rfl mixed rfl rfl fun H hs=>?_
 push_cast -implicitDefEqProofs [eq_self,iff_self]
 refine loop_rule hs (σ:=Nat) (fun i=>i ≤ cols.length) (fun i=>cols.length - i)
  (fun i=>[(9, .sl (cols.map encI)),(3, .int (ofBits (ofC (cols.take i)))),(10, .int cols.length),(11, .int i)]) (fun _=>[]) 0 (by omega) ?_ ?_ ?_
 ·(try push_cast -implicitDefEqProofs [eq_self,iff_self,encIs_pure])
  rfl
 ·(try push_cast -implicitDefEqProofs [eq_self,iff_self])
 ·rintro i h2
  by_cases hi:i < cols.length
  ·have hi':((i:Int) < (cols.length:Int)) = True:=by simp; omega
   have hi0:(0 ≤ (i:Int)) = True:=by simp
   have hc:=hr cols[i] (List.getElem_mem hi)
   push_cast -implicitDefEqProofs [eq_self,iff_self,hi',hi0,encIs_get cols i hi,encI]
   refine callq (Split_ok cols[i] hc.1 hc.2) ?_
   push_cast -implicitDefEqProofs [eq_self,iff_self]
   refine ⟨by omega, ?_⟩
   rw [wrap64 (n:=(i:Int) + 1) (by omega) (by omega),ofC_snoc _ _ hc.1 hc.2,← List.take_succ_eq_append_getElem hi]
   refine next_intro (i + 1) (by omega) (by omega) ?_ ?_
   ·(try push_cast -implicitDefEqProofs [eq_self,iff_self,encIs_pure])
   ·(try push_cast -implicitDefEqProofs [eq_self,iff_self])
  ·have hi':((i:Int) < (cols.length:Int)) = False:=by simp; omega
   push_cast -implicitDefEqProofs [eq_self,iff_self,hi']
   (try push_cast -implicitDefEqProofs [eq_self,iff_self])
   rw [List.take_of_length_le (by omega)]
theorem ofE_ok (e:Ex) (hok:e.Ok) (hc:cnt e ≤ 1000000):Quiet Go.Proofs.Tryz.prog 179 [.agg (encE e)] (.int (setE e)):=by
 refine quiet_of (rs:=#[.tmp 2]) Go.Proofs.Tryz.func179 rfl rfl rfl mixed rfl rfl fun H hs=>?_
 push_cast -implicitDefEqProofs [eq_self,iff_self]
 refine callq (Cols_ok e hok hc) ?_
 push_cast -implicitDefEqProofs [eq_self,iff_self]
 refine callq (ofSet_ok e.cols (Nat.le_trans (cols_len e) hc) fun c hx=>?_) ?_
 ·by_cases hm:e.may = true
  ·exact cols_range e (fine_of_may hm) c ((cols_mem hm c).1 hx)
  ·rw [cols_eq,if_neg hm] at hx
   cases hx
 ·push_cast -implicitDefEqProofs [eq_self,iff_self]
  (try push_cast -implicitDefEqProofs [eq_self,iff_self])
  rfl
theorem containsI_ok (l:List Int) (hl:l.length ≤ 1000000) (x:Int):Quiet Go.Proofs.Tryz.prog 63 [.sl (l.map encI), .int x] (.bool (l.contains x)):=by
 refine quiet_of (rs:=#[.tmp 4]) Go.Proofs.Tryz.func63 rfl rfl rfl mixed rfl rfl fun H hs=>?_
 push_cast -implicitDefEqProofs [eq_self,iff_self]
 refine callq (index_ok l (by omega) x) ?_
 push_cast -implicitDefEqProofs [eq_self,iff_self,idx_nonneg]
 (try push_cast -implicitDefEqProofs [eq_self,iff_self])
 rw [Bool.eq_iff_iff,List.any_eq_true,List.contains_iff_mem]
 constructor
 ·rintro ⟨y,hy,h⟩
  rw [decide_eq_true_eq] at h
  rw [h]; exact hy
 ·exact fun h=>⟨x,h,decide_eq_true rfl⟩
theorem within1_ok (l:List Int) (hl:l.length ≤ 1000000) (x:Int):Quiet Go.Proofs.Tryz.prog 117 [.int x, .iptr [.sl (l.map encI)]] (.bool (!l.contains x)):=by
 refine quiet_of (rs:=#[.tmp 3]) Go.Proofs.Tryz.func117 rfl rfl rfl mixed rfl rfl fun H hs=>?_
 push_cast -implicitDefEqProofs [eq_self,iff_self]
 refine callq (containsI_ok l hl x) ?_
 push_cast -implicitDefEqProofs [eq_self,iff_self]
 (try push_cast -implicitDefEqProofs [eq_self,iff_self])
theorem within_ok (l m:List Int) (hl:l.length ≤ 1000000) (hm:m.length ≤ 1000000):Quiet Go.Proofs.Tryz.prog 61 [.sl (l.map encI), .sl (m.map encI)] (.bool (within l m)):=by
 refine quiet_of (rs:=#[.tmp 4]) Go.Proofs.Tryz.func61 rfl rfl rfl mixed rfl rfl fun H hs=>?_
 push_cast -implicitDefEqProofs [eq_self,iff_self]
 refine fzk H 0 1 [.sl (l.map encI), .clo (.func 117) [] [.iptr [.sl (m.map encI)]]] (by rfl) (by omega) (by simp) ?_ ?_
 ·(try push_cast -implicitDefEqProofs [eq_self,iff_self,encIs_pure])
 refine callq (containsFuncI_ok l (by omega) _ [.iptr [.sl (m.map encI)]] (by simp [PureL,Pure,encIs_pure]) (fun x=>!m.contains x) fun x _=>within1_ok m hm x) ?_
 push_cast -implicitDefEqProofs [eq_self,iff_self]
 (try push_cast -implicitDefEqProofs [eq_self,iff_self])
 rw [within,List.all_eq_not_any_not]
theorem idxF_take (p:Ex → Bool) (P:List Ex) (i:Nat) (h:i < P.length):idxF p (P.take (i + 1)) = idxF p (P.take i) ++ (if p P[i] then [(i:Int)] else []):=by
 rw [List.take_succ_eq_append_getElem h,idxF_snoc,List.length_take,Nat.min_eq_left (by omega)]
theorem idxF_yes (p:Ex → Bool) (P:List Ex) (i:Nat) (h:i < P.length) (hp:p P[i] = true):idxF p (P.take (i + 1)) = idxF p (P.take i) ++ [(i:Int)]:=by rw [idxF_take p P i h,if_pos hp]
theorem idxF_no (p:Ex → Bool) (P:List Ex) (i:Nat) (h:i < P.length) (hp:p P[i] = false):idxF p (P.take (i + 1)) = idxF p (P.take i):=by rw [idxF_take p P i h,if_neg (by simp [hp]),List.append_nil]
theorem idxF_nil (p:Ex → Bool):idxF p [] = []:=rfl
theorem idxF_lt (p:Ex → Bool) (P:List Ex):(idxF p P).length ≤ P.length:=Nat.le_trans (List.length_filter_le _ _) (by rw [upto_len]; omega)
def encQ (q:Qy):List AV:=[.sl (q.occ.map encI), .sl (q.p.map encE), .int q.by_, .sl (q.sums.map encI), .sl (q.out.map encI), .int q.ord]
theorem some_Q (q:Qy) (fn:FuncId) (bnd caps:List AV) (hb:PureL bnd) (hc:PureL caps) (p:Ex → Bool) (hP:q.p.length ≤ 1000000) (hok:∀ e ∈ q.p,e.Ok ∧ cnt e ≤ 1000000)
  (hf:∀ e ∈ q.p,Quiet Go.Proofs.Tryz.prog fn (bnd ++ .int (setE e) :: caps) (.bool (p e))) :
  Quiet Go.Proofs.Tryz.prog 154 [.agg (encQ q), .clo (.func fn) bnd caps] (.sl ((idxF p q.p).map encI)):=by
 refine quiet_of (rs:=#[.tmp 4]) Go.Proofs.Tryz.func154 rfl rfl rfl mixed rfl rfl fun H hs=>?_
 push_cast -implicitDefEqProofs [eq_self,iff_self,encQ]
 refine loop_at hs (σ:=Nat) (fun i=>i ≤ q.p.length) (fun i=>q.p.length - i)
  (fun i=>[(11, .int i),(10, .int q.p.length),(9, .sl (q.p.map encE)),(5, .rsl (H.nxt + 0) 1 0 (idxF p (q.p.take i)).length),(1, .clo (.func fn) bnd caps)]) (fun i=>[some (.cells 1 (rowI (idxF p (q.p.take i))) 0)]) [none] 0 (by omega) rfl ?_ ?_ ?_
 ·(try push_cast -implicitDefEqProofs [eq_self,iff_self,idxF_nil,rowI_nil,List.take_zero,encEs_pure,hb,hc])
 ·(try push_cast -implicitDefEqProofs [eq_self,iff_self,idxF_nil,rowI_nil,List.take_zero])
 intro i hi2
 have hlen:=idxF_lt p (q.p.take i)
 rw [List.length_take] at hlen
 by_cases hi:i < q.p.length
 ·have hi':((i:Int) < (q.p.length:Int)) = True:=by simp; omega
  have hi0:(0 ≤ (i:Int)) = True:=by simp
  have ho:=hok _ (List.getElem_mem hi)
  push_cast -implicitDefEqProofs [eq_self,iff_self,hi',hi0,encEs_get q.p i hi]
  refine callq (ofE_ok _ ho.1 ho.2) ?_
  push_cast -implicitDefEqProofs [eq_self,iff_self]
  refine callq (hf _ (List.getElem_mem hi)) ?_
  push_cast -implicitDefEqProofs [eq_self,iff_self]
  refine ⟨fun h=>⟨by omega, ?_⟩,fun h=>?_⟩
  ·rw [wrap64 (n:=(i:Int) + 1) (by omega) (by omega)]
   refine next_at [some 3] (i + 1) (by omega) (by omega) rfl ?_ ?_
   ·(try push_cast -implicitDefEqProofs [eq_self,iff_self,idxF_yes p q.p i hi h,encEs_pure,hb,hc])
   ·(try push_cast -implicitDefEqProofs [eq_self,iff_self,idxF_yes p q.p i hi h,take_rowI _ _ (Nat.le_refl _),snocI,rowI_pure,rowI_one])
  ·rw [wrap64 (n:=(i:Int) + 1) (by omega) (by omega)]
   refine next_at [some 0] (i + 1) (by omega) (by omega) rfl ?_ ?_
   ·(try push_cast -implicitDefEqProofs [eq_self,iff_self,idxF_no p q.p i hi h,encEs_pure,hb,hc])
   ·(try push_cast -implicitDefEqProofs [eq_self,iff_self,idxF_no p q.p i hi h,rowI_pure,rowI_one])
 ·have hi':((i:Int) < (q.p.length:Int)) = False:=by simp; omega
  push_cast -implicitDefEqProofs [eq_self,iff_self,hi']
  (try push_cast -implicitDefEqProofs [eq_self,iff_self])
  obtain rfl:i = q.p.length:=by omega
  rw [List.take_length,take_rowI _ _ (Nat.le_refl _)]
  exact sealLL_pure _ _ _ (encIs_pure _)
def Qy.Ok (q:Qy):Prop:=q.p.length ≤ 1000000 ∧ (∀ e ∈ q.p,e.Ok ∧ cnt e ≤ 1000000) ∧ q.occ.length ≤ 1000000 ∧ q.sums.length ≤ 1000000 ∧ q.out.length ≤ 1000000
theorem Own_ok (q:Qy) (hq:q.Ok) (s:Int):Quiet Go.Proofs.Tryz.prog 128 [.agg (encQ q), .int s] (.sl ((q.own s).map encI)):=by
 have hsm:=some_Q q 155 [.int s] [] (by simp [PureL,Pure]) trivial (ownT s) hq.1 hq.2.1 fun e _=>setHolds_ok s _ (setE_range e).1 (setE_range e).2
 refine quiet_of (rs:=#[.tmp 4]) Go.Proofs.Tryz.func128 rfl rfl rfl mixed rfl rfl fun H hs=>?_
 simp only [encQ] at hsm
 push_cast -implicitDefEqProofs [eq_self,iff_self,encQ]
 refine callq hsm ?_
 push_cast -implicitDefEqProofs [eq_self,iff_self]
 (try push_cast -implicitDefEqProofs [eq_self,iff_self])
 exact sealLL_pure _ _ _ (encIs_pure _)
theorem New1_ok (a b t:Int) (h0:0 ≤ t) (h1:t ≤ 15):Quiet Go.Proofs.Tryz.prog 180 [.int t, .iptr [.int (bor .i64 a b)], .iptr [.int a], .iptr [.int b]] (.bool (holdsI (bor .i64 a b) t && !holdsI a t && !holdsI b t)):=by
 refine quiet_of (rs:=#[.tmp 5]) Go.Proofs.Tryz.func180 rfl rfl rfl mixed rfl rfl fun H hs=>?_
 push_cast -implicitDefEqProofs [eq_self,iff_self]
 refine callq (setHolds_ok _ _ h0 h1) ?_
 push_cast -implicitDefEqProofs [eq_self,iff_self]
 refine gcallq' (.bool (holdsI a t)) (fun h=>h) (fun _=>setHolds_ok _ _ h0 h1) ?_
 push_cast -implicitDefEqProofs [eq_self,iff_self]
 refine gcallq' (.bool (holdsI b t)) (fun h=>by simpa using h) (fun _=>setHolds_ok _ _ h0 h1) ?_
 push_cast -implicitDefEqProofs [eq_self,iff_self]
 (try push_cast -implicitDefEqProofs [eq_self,iff_self])
theorem New_ok (q:Qy) (hq:q.Ok) (a b:Int):Quiet Go.Proofs.Tryz.prog 158 [.agg (encQ q), .int a, .int b] (.sl ((q.new a b).map encI)):=by
 have hsm:=some_Q q 180 [] [.iptr [.int (bor .i64 a b)], .iptr [.int a], .iptr [.int b]] trivial (by simp [PureL,Pure]) (newT a b) hq.1 hq.2.1 fun e _=>New1_ok a b _ (setE_range e).1 (setE_range e).2
 refine quiet_of (rs:=#[.tmp 6]) Go.Proofs.Tryz.func158 rfl rfl rfl mixed rfl rfl fun H hs=>?_
 simp only [encQ] at hsm
 push_cast -implicitDefEqProofs [eq_self,iff_self,encQ]
 refine fzk H 3 1 [.agg [.sl (q.occ.map encI), .sl (q.p.map encE), .int q.by_, .sl (q.sums.map encI), .sl (q.out.map encI), .int q.ord], .clo (.func 180) [] [.iptr [.int (bor .i64 a b)], .ptr (H.nxt + 1) 1 0 0, .ptr (H.nxt + 2) 1 0 0]] (by rfl) (by omega) (by simp) ?_ ?_
 ·(try push_cast -implicitDefEqProofs [eq_self,iff_self,encIs_pure,encEs_pure])
 refine fzk H 1 1 [.agg [.sl (q.occ.map encI), .sl (q.p.map encE), .int q.by_, .sl (q.sums.map encI), .sl (q.out.map encI), .int q.ord], .clo (.func 180) [] [.iptr [.int (bor .i64 a b)], .iptr [.int a], .ptr (H.nxt + 2) 1 0 0]] (by rfl) (by omega) (by simp) ?_ ?_
 ·(try push_cast -implicitDefEqProofs [eq_self,iff_self,encIs_pure,encEs_pure])
 refine fzk H 2 1 [.agg [.sl (q.occ.map encI), .sl (q.p.map encE), .int q.by_, .sl (q.sums.map encI), .sl (q.out.map encI), .int q.ord], .clo (.func 180) [] [.iptr [.int (bor .i64 a b)], .iptr [.int a], .iptr [.int b]]] (by rfl) (by omega) (by simp) ?_ ?_
 ·(try push_cast -implicitDefEqProofs [eq_self,iff_self,encIs_pure,encEs_pure])
 refine callq hsm ?_
 push_cast -implicitDefEqProofs [eq_self,iff_self]
 (try push_cast -implicitDefEqProofs [eq_self,iff_self])
 exact sealLL_pure _ _ _ (encIs_pure _)
end
section
attribute [local push_cast] encE_mk encE_take encE_len encV encE_one encEs_pure encE_pure
theorem May2_ok (o:Int):Quiet Go.Proofs.Tryz.prog 59 [.int o] (.bool true):=by
 refine quiet_of (rs:=#[.tmp 2]) Go.Proofs.Tryz.func59 rfl rfl rfl mixed rfl rfl fun H hs=>?_
 push_cast -implicitDefEqProofs [eq_self,iff_self]
 (try push_cast -implicitDefEqProofs [eq_self,iff_self])
theorem colsTo_yes (c:List Df) (q:Qy) (is:Nat → Bool) (k:Nat) (h:is k = true):colsTo c q is (k + 1) = colsTo c q is k ++ colsFrom k (tabOf c q k).toNat:=by rw [colsTo,if_pos h]
theorem colsTo_no (c:List Df) (q:Qy) (is:Nat → Bool) (k:Nat) (h:is k = false):colsTo c q is (k + 1) = colsTo c q is k:=by rw [colsTo,if_neg (by simp [h]),List.append_nil]
theorem colsFrom_zero (o:Nat):colsFrom o 0 = []:=rfl
theorem colsFrom_len (o n:Nat):(colsFrom o n).length = n:=by rw [colsFrom,List.length_map,upto_len]
theorem colsTo_len {c:List Df} (h:catMay c = true) (q:Qy) (is:Nat → Bool):∀ k,(colsTo c q is k).length ≤ 4 * k
 | 0=>by rw [colsTo]; simp
 | k + 1=>by
  have hr:=tab_range h (q.occ.getD k (-1))
  change 0 ≤ tabOf c q k ∧ tabOf c q k ≤ 4 at hr
  have:=colsTo_len h q is k
  rw [colsTo,List.length_append]
  split
  ·rw [colsFrom_len]; omega
  ·rw [List.length_nil]; omega
def colsPart (c:List Df) (q:Qy) (is:Nat → Bool) (k j:Nat):List Int:=colsTo c q is k ++ colsFrom k j
theorem colsPart_zero (c:List Df) (q:Qy) (is:Nat → Bool) (k:Nat):colsPart c q is k 0 = colsTo c q is k:=by rw [colsPart,colsFrom_zero,List.append_nil]
theorem colsPart_snoc (c:List Df) (q:Qy) (is:Nat → Bool) (k j:Nat):colsPart c q is k (j + 1) = colsPart c q is k j ++ [4 * (k:Int) + j]:=by rw [colsPart,colsPart,colsFrom_snoc,List.append_assoc]
set_option maxHeartbeats 1000000 in
theorem all_ok (c:List Df) (q:Qy) (hc:catMay c = true) (hl:q.occ.length ≤ 1000000) (fn:FuncId) (bnd caps:List AV) (hb:PureL bnd) (hcp:PureL caps) (is:Nat → Bool)
  (hf:∀ o:Nat,o < 4 → Quiet Go.Proofs.Tryz.prog fn (bnd ++ .int o :: caps) (.bool (is o))) :
  Quiet Go.Proofs.Tryz.prog 58 [.agg [.sl (c.map encD)], .agg (encQ q), .clo (.func fn) bnd caps] (.sl ((colsIn c q is).map encI)):=by
 rw [← colsTo_eq hc]
 refine quiet_of (rs:=#[.tmp 6]) Go.Proofs.Tryz.func58 rfl rfl rfl mixed rfl rfl fun H hs=>?_
 push_cast -implicitDefEqProofs [eq_self,iff_self,encQ]
 have hmin:(min (q.occ.length:Int) 4) = ((min q.occ.length 4:Nat):Int):=by omega
 refine loop_at hs (σ:=Nat) (fun k=>k ≤ min q.occ.length 4) (fun k=>min q.occ.length 4 - k)
  (fun k=>[(15, .int k),(14, .int (min q.occ.length 4:Nat)),(2, .clo (.func fn) bnd caps),(3, .ptr (H.nxt + 0) 1 0 0),(4, .ptr (H.nxt + 1) 6 0 0),(7, .rsl (H.nxt + 2) 1 0 (colsTo c q is k).length)])
  (fun k=>[some (.cells 1 [[.sl (c.map encD)]] 0),some (.cells 6 [encQ q] 0),some (.cells 1 (rowI (colsTo c q is k)) 0)]) [some 0,some 1,none] 0 (by omega) rfl ?_ ?_ ?_
 ·(try push_cast -implicitDefEqProofs [eq_self,iff_self,colsTo,rowI_nil,encDs_pure,encIs_pure,encEs_pure,hb,hcp,encQ])
  split <;> omega
 ·(try push_cast -implicitDefEqProofs [eq_self,iff_self,colsTo,rowI_nil,encDs_pure,encIs_pure,encEs_pure,encQ])
 intro k hk2
 by_cases hk:k < min q.occ.length 4
 ·have hk':((k:Int) < ((min q.occ.length 4:Nat):Int)) = True:=by simp; omega
  have hk0:(0 ≤ (k:Int)) = True:=by simp
  have hkl:k < q.occ.length:=by omega
  push_cast -implicitDefEqProofs [eq_self,iff_self,hk',hk0,encQ,encIs_get q.occ k hkl,encI]
  refine ⟨by omega,callq (hf k (by omega)) ?_⟩
  push_cast -implicitDefEqProofs [eq_self,iff_self]
  have hocc:q.occ.getD k (-1) = q.occ[k]:=by rw [List.getD_eq_getElem?_getD,List.getElem?_eq_getElem hkl]; rfl
  refine ⟨fun h=>?_,fun h=>?_⟩
  ·have hsk:colsTo c q is (k + 1) = colsTo c q is k:=by
    simp only [Bool.or_eq_true,Bool.not_eq_true',decide_eq_true_eq] at h
    cases his:is k
    ·exact colsTo_no c q is k his
    ·rw [colsTo_yes c q is k his,tabOf,hocc,tabCols,if_neg (by rw [his] at h; simp at h; omega)]
     simp [colsFrom,upto]
   rw [wrap64 (n:=(k:Int) + 1) (by omega) (by omega)]
   refine next_at [some 0,some 1,some 2] (k + 1) (by omega) (by omega) rfl ?_ ?_
   ·(try push_cast -implicitDefEqProofs [eq_self,iff_self,hsk,encDs_pure,encIs_pure,encEs_pure,hb,hcp,encQ])
   ·(try push_cast -implicitDefEqProofs [eq_self,iff_self,hsk,encDs_pure,encIs_pure,encEs_pure,hb,hcp,encQ,rowI_pure,rowI_one])
  ·simp only [Bool.or_eq_false_iff,Bool.not_eq_false',decide_eq_false_iff_not] at h
   obtain ⟨⟨his,ht0⟩,ht1⟩:=h
   obtain ⟨t,ht⟩:∃ t:Nat,q.occ[k] = t:=⟨q.occ[k].toNat,by omega⟩
   have htl:t < c.length:=by omega
   have ht0':(0 ≤ (t:Int)) = True:=by simp
   have ht1':((t:Int) < (c.length:Int)) = True:=by simp; omega
   have htab:tabOf c q k = c[t].cols:=by
    rw [tabOf,hocc,ht,tabCols,if_pos (by omega),Int.toNat_natCast,List.getD_eq_getElem?_getD,List.getElem?_eq_getElem htl]
    rfl
   have htr:=tab_range hc (q.occ.getD k (-1))
   change 0 ≤ tabOf c q k ∧ tabOf c q k ≤ 4 at htr
   rw [htab] at htr
   obtain ⟨m,hm⟩:∃ m:Nat,c[t].cols = m:=⟨c[t].cols.toNat,by omega⟩
   simp only [ht]
   push_cast -implicitDefEqProofs [eq_self,iff_self,ht0',ht1',encDs_get c t htl,encD,hm]
   have hm4:m ≤ 4:=by omega
   have hcl:=colsTo_len hc q is k
   refine loop_at hs (σ:=Nat) (fun j=>j ≤ m) (fun j=>m - j)
    (fun j=>[(44, .int j),(43, .int m),(8, .int k),(15, .int k),(14, .int (min q.occ.length 4:Nat)),(2, .clo (.func fn) bnd caps),(3, .ptr (H.nxt + 0) 1 0 0),(4, .ptr (H.nxt + 1) 6 0 0),(7, .rsl (H.nxt + 2) 1 0 (colsPart c q is k j).length)])
    (fun j=>[some (.cells 1 [[.sl (c.map encD)]] 0),some (.cells 6 [encQ q] 0),some (.cells 1 (rowI (colsPart c q is k j)) 0)]) [some 0,some 1,some 2] 0 (by omega) rfl ?_ ?_ ?_
   ·(try push_cast -implicitDefEqProofs [eq_self,iff_self,colsPart_zero,encDs_pure,encIs_pure,encEs_pure,hb,hcp,encQ])
   ·(try push_cast -implicitDefEqProofs [eq_self,iff_self,colsPart_zero,encDs_pure,encIs_pure,encEs_pure,encQ,rowI_pure,rowI_one])
   intro j hj2
   have hjl:(colsPart c q is k j).length ≤ 20:=by rw [colsPart,List.length_append,colsFrom_len]; omega
   by_cases hj:j < m
   ·have hj':((j:Int) < (m:Int)) = True:=by simp; omega
    push_cast -implicitDefEqProofs [eq_self,iff_self,hj',encQ]
    refine callq (Col_ok k j (by omega) (by omega) (by omega) (by omega)) ?_
    push_cast -implicitDefEqProofs [eq_self,iff_self]
    refine ⟨by omega, ?_⟩
    rw [wrap64 (n:=(j:Int) + 1) (by omega) (by omega)]
    refine next_at [some 0,some 1,some 4] (j + 1) (by omega) (by omega) rfl ?_ ?_
    ·(try push_cast -implicitDefEqProofs [eq_self,iff_self,colsPart_snoc,encDs_pure,encIs_pure,encEs_pure,hb,hcp,encQ])
    ·(try push_cast -implicitDefEqProofs [eq_self,iff_self,colsPart_snoc,encDs_pure,encIs_pure,encEs_pure,encQ,take_rowI _ _ (Nat.le_refl _),snocI,rowI_pure,rowI_one])
   ·have hj':((j:Int) < (m:Int)) = False:=by simp; omega
    obtain rfl:j = m:=by omega
    have hsk:colsTo c q is (k + 1) = colsPart c q is k j:=by
     rw [colsPart,colsTo_yes c q is k his,htab,hm,Int.toNat_natCast]
    push_cast -implicitDefEqProofs [eq_self,iff_self,hj',encQ]
    rw [wrap64 (n:=(k:Int) + 1) (by omega) (by omega)]
    refine next_at [some 0,some 1,some 2] (k + 1) (by omega) (by omega) rfl ?_ ?_
    ·(try push_cast -implicitDefEqProofs [eq_self,iff_self,hsk,encDs_pure,encIs_pure,encEs_pure,hb,hcp,encQ])
    ·(try push_cast -implicitDefEqProofs [eq_self,iff_self,hsk,encDs_pure,encIs_pure,encEs_pure,encQ,rowI_pure,rowI_one])
 ·have hk':((k:Int) < ((min q.occ.length 4:Nat):Int)) = False:=by simp; omega
  obtain rfl:k = min q.occ.length 4:=by omega
  push_cast -implicitDefEqProofs [eq_self,iff_self,hk',encQ]
  (try push_cast -implicitDefEqProofs [eq_self,iff_self])
  rw [take_rowI _ _ (Nat.le_refl _)]
  exact sealLL_pure _ _ _ (encIs_pure _)
end
section
attribute [local push_cast] encE_mk encE_take encE_len encV encE_one encEs_pure encE_pure
theorem plus_obj' (H:AH) (l:List (Option AObj)) (j:Nat):(H.plus l).obj j = if j < H.nxt then H.obj j else (l[j - H.nxt]?).join:=rfl
theorem plus_plus (H:AH) (l m:List (Option AObj)):(H.plus l).plus m = H.plus (l ++ m):=by
 refine ah_ext (fun j=>?_) (by simp only [plus_nxt,List.length_append]; omega)
 rw [plus_obj' (H.plus l),plus_obj' H,plus_obj' H,plus_nxt]
 by_cases h1:j < H.nxt
 ·rw [if_pos (by omega),if_pos h1,if_pos h1]
 ·rw [if_neg h1,if_neg h1]
  by_cases h2:j < H.nxt + l.length
  ·rw [if_pos h2,List.getElem?_append_left (by omega)]
  ·rw [if_neg h2,List.getElem?_append_right (by omega)]
   congr 2
   omega
theorem clone_ok (zs:List Int) (hz:zs.length ≤ 1000000) (H:AH):ACalls Go.Proofs.Tryz.prog 118 [.sl (rowI zs)] H
  (fun r H'=>(r = .rsl (H.nxt + 1) 1 0 zs.length ∧ H' = H.plus [none,some (.cells 1 (rowI zs) 0)]) ∨ (zs = [] ∧ r = .nilS ∧ H' = H.plus [])):=by
 refine acalls_sc (rs:=#[.tmp 2]) Go.Proofs.Tryz.func118 rfl rfl rfl mixed rfl (Nat.le_of_ble_eq_true rfl) fun hs _=>?_
 push_cast -implicitDefEqProofs [eq_self,iff_self]
 intro b hb
 push_cast -implicitDefEqProofs [eq_self,iff_self]
 refine ⟨fun h=>retk trivial (.inr ⟨?_,rfl,rfl⟩),fun h=>⟨⟨of_eq_true (rowI_one zs),fun e he=>?_,by omega⟩,retk trivial (.inl ⟨rfl,rfl⟩)⟩⟩
 ·cases zs with
  | nil=>rfl
  | cons z zs=>rw [h] at hb; exact absurd (hb rfl) (by decide)
 ·simp only [rowI,List.mem_map] at he
  obtain ⟨x,_,rfl⟩:=he
  rfl
theorem once_ok (zs:List Int) (hz:zs.length ≤ 1000000):Quiet Go.Proofs.Tryz.prog 62 [.sl (rowI zs)] (.bool (decide ((uniq zs).length = zs.length))):=by
 refine quiet_of (rs:=#[.tmp 2]) Go.Proofs.Tryz.func62 rfl rfl rfl mixed rfl rfl fun H hs=>?_
 push_cast -implicitDefEqProofs [eq_self,iff_self]
 refine (clone_ok zs hz _).mono ?_
 rintro r H' (⟨rfl,rfl⟩ | ⟨rfl,rfl,rfl⟩)
 ·push_cast -implicitDefEqProofs [eq_self,iff_self,plus_plus,Nat.add_zero]
  have hrow:(H.plus [none,some (.cells 1 (rowI zs) 0)]).obj (H.nxt + 1) = some (.cells 1 (rowI zs) 0):=by rw [plus_obj]; rfl
  refine (sort_ok (i:=H.nxt + 1) (zs:=zs) (by omega) hrow).mono ?_
  rintro r H3 ⟨rfl,rfl⟩
  push_cast -implicitDefEqProofs [eq_self,iff_self]
  have hcc:=compact_ok (i:=H.nxt + 1) (zs:=zs.mergeSort fun x y=>decide (x ≤ y)) (H:=H.plus [none,some (.cells 1 (rowI (zs.mergeSort fun x y=>decide (x ≤ y))) 0)]) (by rw [List.length_mergeSort]; omega) (by rw [plus_obj]; rfl)
  rw [List.length_mergeSort] at hcc
  refine hcc.mono ?_
  rintro r H3 ⟨rfl,rfl⟩
  push_cast -implicitDefEqProofs [eq_self,iff_self]
  rw [decide_eq_decide,uniq]
  omega
 ·push_cast -implicitDefEqProofs [eq_self,iff_self,plus_plus,List.append_nil]
  refine (sortN_ok).mono ?_
  rintro r H3 ⟨rfl,rfl⟩
  push_cast -implicitDefEqProofs [eq_self,iff_self]
  refine (compactN_ok).mono ?_
  rintro r H3 ⟨rfl,rfl⟩
  push_cast -implicitDefEqProofs [eq_self,iff_self]
  simp [uniq,Lib.compact,Lib.compactUpTo]
end
section
attribute [local push_cast] encE_mk encE_take encE_len encV encE_one encEs_pure encE_pure
theorem MayQ1_ok (c:List Df) (t:Int):Quiet Go.Proofs.Tryz.prog 55 [.int t, .iptr [.sl (c.map encD)]] (.bool (!tabOk c t)):=by
 refine quiet_of (rs:=#[.tmp 3]) Go.Proofs.Tryz.func55 rfl rfl rfl mixed rfl rfl fun H hs=>?_
 push_cast -implicitDefEqProofs [eq_self,iff_self]
 (try push_cast -implicitDefEqProofs [eq_self,iff_self])
 unfold tabOk
 rw [Bool.not_and,← decide_not,← decide_not]
 congr 1 <;> rw [decide_eq_decide] <;> omega
theorem MayQ_ok (c:List Df) (hcl:c.length ≤ 1000000) (q:Qy) (hq:q.Ok):Quiet Go.Proofs.Tryz.prog 22 [.agg [.sl (c.map encD)], .agg (encQ q)] (.bool (q.may c)):=by
 refine quiet_of (rs:=#[.tmp 4]) Go.Proofs.Tryz.func22 rfl rfl rfl mixed rfl rfl fun H hs=>?_
 push_cast -implicitDefEqProofs [eq_self,iff_self,encQ]
 refine fzk H 0 1 [.agg [.sl (c.map encD)]] (by rfl) (by omega) (by simp) ?_ ?_
 ·(try push_cast -implicitDefEqProofs [eq_self,iff_self,encDs_pure])
 refine callq (dataMay_ok c hcl) ?_
 push_cast -implicitDefEqProofs [eq_self,iff_self,encQ]
 refine gcalla [.sl (q.occ.map encI), .clo (.func 55) [] [.iptr [.sl (c.map encD)]]] (.bool (q.occ.any fun t=>!tabOk c t)) (fun h=>by simpa using h) (fun h=>containsFuncI_ok q.occ (by have:=hq.2.2.1; omega) _ [.iptr [.sl (c.map encD)]] (by simp [PureL,Pure,encDs_pure]) (fun t=>!tabOk c t) fun t _=>MayQ1_ok c t) ?_ ?_
 ·(try push_cast -implicitDefEqProofs [eq_self,iff_self,encDs_pure,encIs_pure])
 push_cast -implicitDefEqProofs [eq_self,iff_self,encQ]
 refine ⟨fun h=>?_,fun h=>?_⟩
 ·have:q.may c = false:=by
   simp only [Bool.or_eq_true,Bool.not_eq_true',decide_eq_true_eq,List.any_eq_true] at h
   unfold Qy.may
   rcases h with (((h | h) | h) | ⟨x,hx,h⟩) | h
   ·simp [h]
   ·simp [decide_eq_false (show ¬ 1 ≤ q.occ.length by omega)]
   ·simp [decide_eq_false (show ¬ q.occ.length ≤ 4 by omega)]
   ·have:q.occ.all (tabOk c) = false:=by
     rw [List.all_eq_false]; exact ⟨x,hx,by simp [h]⟩
    simp [this]
   ·simp [decide_eq_false (show ¬ q.p.length ≤ 6 by omega)]
  exact this.symm
 have hh:catMay c = true ∧ 1 ≤ q.occ.length ∧ q.occ.length ≤ 4 ∧ q.occ.all (tabOk c) = true ∧ q.p.length ≤ 6:=by
  simp only [Bool.or_eq_false_iff,Bool.not_eq_false',decide_eq_false_iff_not] at h
  obtain ⟨⟨⟨⟨h1,h2⟩,h3⟩,h4⟩,h5⟩:=h
  refine ⟨h1,by omega,by omega, ?_,by omega⟩
  rw [List.all_eq_true]
  intro x hx
  have:=List.any_eq_false.1 h4 x hx
  simpa using this
 obtain ⟨hc,ho1,ho4,hot,hp6⟩:=hh
 have hall:=all_ok c q hc hq.2.2.1 59 [] [] trivial trivial (fun _=>true) fun o _=>May2_ok o
 have hcols:(colsIn c q fun _=>true).length ≤ 16:=Nat.le_trans (List.length_filter_le _ _) (by rw [upto_len]; omega)
 have hmay:q.may c = (q.p.all (exIn (colsIn c q fun _=>true)) && endMay q (colsIn c q fun _=>true)):=by
  simp only [Qy.may,hc,hot,decide_eq_true ho1,decide_eq_true ho4,decide_eq_true hp6,Bool.true_and]
 rw [hmay]
 generalize (colsIn c q fun _=>true) = cols at hall hcols ⊢
 simp only [encQ] at hall
 refine callq hall ?_
 push_cast -implicitDefEqProofs [eq_self,iff_self,encQ]
 refine loop_at hs (σ:=Nat) (fun i=>i ≤ q.p.length ∧ (q.p.take i).all (exIn cols) = true) (fun i=>q.p.length - i)
  (fun i=>[(45, .int i),(44, .int q.p.length),(43, .sl (q.p.map encE)),(6, .sl (cols.map encI)),(3, .ptr (H.nxt + 1) 6 0 0)]) (fun i=>[none,some (.cells 6 [encQ q] 0)]) [some 0,some 1] 0 ⟨by omega,by simp⟩ rfl ?_ ?_ ?_
 ·(try push_cast -implicitDefEqProofs [eq_self,iff_self,encEs_pure,encIs_pure])
 ·(try push_cast -implicitDefEqProofs [eq_self,iff_self,encEs_pure,encIs_pure,encQ])
 rintro i ⟨hi2,hai⟩
 by_cases hi:i < q.p.length
 ·have hi':((i:Int) < (q.p.length:Int)) = True:=by simp; omega
  have hi0:(0 ≤ (i:Int)) = True:=by simp
  have hok:=hq.2.1 _ (List.getElem_mem hi)
  push_cast -implicitDefEqProofs [eq_self,iff_self,hi',hi0,encEs_get q.p i hi,encQ]
  refine callq (Cols_ok _ hok.1 hok.2) ?_
  push_cast -implicitDefEqProofs [eq_self,iff_self,encQ]
  have hcl2:(q.p[i].cols).length ≤ 1000000:=Nat.le_trans (cols_len _) hok.2
  refine gcallq' (.bool (within q.p[i].cols cols)) (fun h=>by simpa using h) (fun _=>within_ok _ _ hcl2 (by omega)) ?_
  push_cast -implicitDefEqProofs [eq_self,iff_self,encQ]
  have hex:exIn cols q.p[i] = !(decide ((q.p[i].cols.length:Int) = 0) || !within q.p[i].cols cols):=by
   unfold exIn
   rw [Bool.not_or,Bool.not_not]
   congr 2
   rw [decide_eq_decide]; omega
  refine ⟨fun h=>?_,fun h=>?_⟩
  ·have:q.p.all (exIn cols) = false:=by
    rw [List.all_eq_false]
    exact ⟨_,List.getElem_mem hi,by rw [hex,h]; simp⟩
   rw [this]
   rfl
  ·rw [wrap64 (n:=(i:Int) + 1) (by omega) (by omega)]
   refine next_at [some 0,some 1] (i + 1) ⟨by omega, ?_⟩ (by omega) rfl ?_ ?_
   ·rw [List.take_succ_eq_append_getElem hi,List.all_append,hai,List.all_cons,hex,h]
    rfl
   ·(try push_cast -implicitDefEqProofs [eq_self,iff_self,encEs_pure,encIs_pure])
   ·(try push_cast -implicitDefEqProofs [eq_self,iff_self,encEs_pure,encIs_pure,encQ])
 ·have hi':((i:Int) < (q.p.length:Int)) = False:=by simp; omega
  obtain rfl:i = q.p.length:=by omega
  rw [List.take_length] at hai
  rw [hai,Bool.true_and]
  by_cases hby:q.by_ = -1
  ·push_cast -implicitDefEqProofs [eq_self,iff_self,hi',encQ,hby]
   refine gcallq' (.bool (decide ((uniq q.out).length = q.out.length))) (fun h=>by simpa using h) (fun _=>once_ok _ hq.2.2.2.2) ?_
   push_cast -implicitDefEqProofs [eq_self,iff_self,encQ]
   refine gcallq' (.bool (within q.out cols)) (fun h=>by simpa using h) (fun _=>within_ok _ _ hq.2.2.2.2 (by omega)) ?_
   push_cast -implicitDefEqProofs [eq_self,iff_self,encQ]
   refine gcallq' (.bool (q.out.contains q.ord)) (fun h=>by simpa using h) (fun _=>containsI_ok _ hq.2.2.2.2 _) ?_
   push_cast -implicitDefEqProofs [eq_self,iff_self,encQ]
   refine ⟨fun h1 h2=>by rw [h1]; simpa using h2, ?_⟩
   have a1:decide ((1:Int) ≤ (q.out.length:Int)) = decide (1 ≤ q.out.length):=by rw [decide_eq_decide]; omega
   have a2:decide ((q.out.length:Int) ≤ 8) = decide (q.out.length ≤ 8):=by rw [decide_eq_decide]; omega
   have a3:decide ((q.sums.length:Int) = 0) = decide (q.sums.length = 0):=by rw [decide_eq_decide]; omega
   rw [a1,a2,a3,once_iff,endMay,if_pos hby]
  ·have hby':decide (q.by_ = -1) = false:=by simpa using hby
   push_cast -implicitDefEqProofs [eq_self,iff_self,hi',encQ,hby']
   refine fzk H 2 1 [.sl ([q.by_].map encI), .sl (cols.map encI)] (by rfl) (by omega) (by simp) ?_ ?_
   ·(try push_cast -implicitDefEqProofs [eq_self,iff_self,encIs_pure,encI])
   refine callq (within_ok [q.by_] cols (by simp) (by omega)) ?_
   push_cast -implicitDefEqProofs [eq_self,iff_self,encQ]
   refine gcallq' (.bool (within q.sums cols)) (fun h=>by simpa using h) (fun _=>within_ok _ _ hq.2.2.2.1 (by omega)) ?_
   push_cast -implicitDefEqProofs [eq_self,iff_self,encQ]
   refine ⟨fun h1 h2=>by rw [h1]; simpa using h2, ?_⟩
   have a2:decide ((q.sums.length:Int) ≤ 4) = decide (q.sums.length ≤ 4):=by rw [decide_eq_decide]; omega
   have a3:decide ((q.out.length:Int) = 0) = decide (q.out.length = 0):=by rw [decide_eq_decide]; omega
   rw [a2,a3,endMay,if_neg hby]
def Qy.cols (q:Qy) (c:List Df) (s:Int):List Int:=if q.may c then colsIn c q (bitI s) else []
theorem colsIn_le (c:List Df) (q:Qy) (is:Nat → Bool):(colsIn c q is).length ≤ 16:=Nat.le_trans (List.length_filter_le _ _) (by rw [upto_len]; omega)
theorem ColsQ_ok (c:List Df) (hcl:c.length ≤ 1000000) (q:Qy) (hq:q.Ok) (s:Int):Quiet Go.Proofs.Tryz.prog 27 [.agg [.sl (c.map encD)], .agg (encQ q), .int s] (.sl ((q.cols c s).map encI)):=by
 have hm:=MayQ_ok c hcl q hq
 refine quiet_of (rs:=#[.tmp 6]) Go.Proofs.Tryz.func27 rfl rfl rfl mixed rfl rfl fun H hs=>?_
 simp only [encQ] at hm
 push_cast -implicitDefEqProofs [eq_self,iff_self,encQ]
 refine callq hm ?_
 push_cast -implicitDefEqProofs [eq_self,iff_self,encQ]
 refine ⟨fun h=>by simp [Qy.cols,h],fun h=>?_⟩
 have hall:=all_ok c q (may_split h).1 hq.2.2.1 68 [.int s] [] (by simp [PureL,Pure]) trivial (bitI s) fun o ho=>setHas_ok s o (by omega)
 simp only [encQ] at hall
 refine callq hall ?_
 push_cast -implicitDefEqProofs [eq_self,iff_self,encQ]
 (try push_cast -implicitDefEqProofs [eq_self,iff_self])
 rw [Qy.cols,if_pos h]
 exact sealLL_pure _ _ _ (encIs_pure _)
end
section
def capN:Int:=1099511627776
def cap (n:Int):Int:=min n capN
def prodI:List Int → Int
 | []=>1
 | x :: l=>x * prodI l
def posL (l:List Int):Bool:=l.all fun x=>decide (0 < x)
def timesG (n:Int):List Int → Int
 | []=>n
 | x :: l=>if x ≤ 0 then 0 else timesG (cap (n * x)) l
def times (l:List Int):Int:=timesG 1 l
theorem mul_ge {a b:Int} (ha:0 ≤ a) (hb:1 ≤ b):a ≤ a * b:=by
 have:=Int.mul_le_mul_of_nonneg_left hb ha
 omega
theorem prodI_pos {l:List Int} (h:posL l = true):1 ≤ prodI l:=by
 induction l with
 | nil=>simp [prodI]
 | cons x l ih =>
  simp only [posL,List.all_cons,Bool.and_eq_true,decide_eq_true_eq] at h
  have h1:=ih h.2
  have:=mul_ge (a:=x) (b:=prodI l) (by omega) h1
  rw [prodI]
  omega
theorem cap_mul {a b:Int} (ha:0 ≤ a) (hb:1 ≤ b):cap (cap a * b) = cap (a * b):=by
 unfold cap
 by_cases h:a ≤ capN
 ·rw [Int.min_eq_left h]
 ·have h1:=mul_ge (a:=capN) (b:=b) (by decide) hb
  have h2:=mul_ge ha hb
  rw [Int.min_eq_right (a:=a) (by omega),Int.min_eq_right h1,Int.min_eq_right (by omega)]
theorem cap_le (n:Int):cap n ≤ capN:=Int.min_le_right _ _
theorem cap_pos {n:Int} (h:1 ≤ n):1 ≤ cap n:=by
 unfold cap capN
 omega
theorem timesG_eq:∀ (l:List Int) (n:Int),0 ≤ n → n ≤ capN → timesG n l = if posL l then cap (n * prodI l) else 0
 | [],n,h0,h1=>by
  rw [timesG,prodI,Int.mul_one,cap,Int.min_eq_left h1]
  rfl
 | x :: l,n,h0,h1=>by
  rw [timesG]
  by_cases hx:x ≤ 0
  ·rw [if_pos hx,if_neg]
   simp only [posL,List.all_cons,Bool.and_eq_true,decide_eq_true_eq]
   omega
  ·rw [if_neg hx]
   have hn:0 ≤ n * x:=Int.mul_nonneg h0 (by omega)
   have hc:0 ≤ cap (n * x):=by unfold cap capN; omega
   rw [timesG_eq l _ hc (cap_le _)]
   have hp:posL (x :: l) = posL l:=by
    simp only [posL,List.all_cons,decide_eq_true (show 0 < x by omega),Bool.true_and]
   rw [hp]
   by_cases hl:posL l = true
   ·rw [if_pos hl,if_pos hl,cap_mul hn (prodI_pos hl),prodI,Int.mul_assoc]
   ·rw [if_neg hl,if_neg hl]
theorem times_eq (l:List Int):times l = if posL l then cap (prodI l) else 0:=by
 rw [times,timesG_eq l 1 (by omega) (by decide),Int.one_mul]
theorem times_range (l:List Int):0 ≤ times l ∧ times l ≤ capN:=by
 rw [times_eq]
 split
 ·rename_i h
  exact ⟨Int.le_trans (by omega) (cap_pos (prodI_pos h)),cap_le _⟩
 ·decide
theorem prodI_append (l k:List Int):prodI (l ++ k) = prodI l * prodI k:=by
 induction l with
 | nil=>rw [List.nil_append,prodI,Int.one_mul]
 | cons x l ih=>rw [List.cons_append,prodI,prodI,ih,Int.mul_assoc]
theorem posL_append (l k:List Int):posL (l ++ k) = (posL l && posL k):=List.all_append
theorem times_zero {l:List Int} (h:¬ posL l = true):times l = 0:=by rw [times_eq,if_neg h]
def timesD (n:Int) (over:Bool):List Int → Int
 | []=>if over then capN else n
 | x :: l=>if x ≤ 0 then 0 else
   let o1:=over || decide (capN / x < n)
   let n1:=(if capN / x < n then 1 else n) * x
   timesD (if capN < n1 then 1 else n1) (o1 || decide (capN < n1)) l
theorem timesD_eq:∀ (l:List Int) (n:Int) (over:Bool),1 ≤ n → n ≤ capN → timesD n over l = if posL l then (if over then capN else cap (n * prodI l)) else 0
 | [],n,over,h0,h1=>by
  rw [timesD,prodI,Int.mul_one,cap,Int.min_eq_left h1]
  rfl
 | x :: l,n,over,h0,h1=>by
  rw [timesD]
  by_cases hx:x ≤ 0
  ·rw [if_pos hx,if_neg]
   simp only [posL,List.all_cons,Bool.and_eq_true,decide_eq_true_eq]
   omega
  ·rw [if_neg hx]
   have hx1:0 < x:=by omega
   have hp:posL (x :: l) = posL l:=by
    simp only [posL,List.all_cons,decide_eq_true hx1,Bool.true_and]
   have hdiv:capN / x < n ↔ capN < n * x:=Int.ediv_lt_iff_lt_mul hx1
   dsimp only
   have hn1:1 ≤ (if capN / x < n then 1 else n) * x:=by
    split
    ·omega
    ·have:=mul_ge (a:=n) (b:=x) (by omega) hx1
     omega
   have hle:(if capN < (if capN / x < n then 1 else n) * x then 1 else (if capN / x < n then 1 else n) * x) ≤ capN:=by
    generalize (if capN / x < n then 1 else n) * x = m at hn1 ⊢
    split
    ·decide
    ·omega
   have hge:1 ≤ (if capN < (if capN / x < n then 1 else n) * x then 1 else (if capN / x < n then 1 else n) * x):=by
    generalize (if capN / x < n then 1 else n) * x = m at hn1 ⊢
    split <;> omega
   rw [timesD_eq l _ _ hge hle,hp]
   by_cases hl:posL l = true
   ·rw [if_pos hl,if_pos hl]
    by_cases hd:capN / x < n
    ·have hbig:=hdiv.1 hd
     have h2:=mul_ge (a:=n * x) (b:=prodI l) (by omega) (prodI_pos hl)
     have h3:cap (n * prodI (x :: l)) = capN:=by
      rw [prodI,← Int.mul_assoc,cap,Int.min_eq_right (by omega)]
     rw [h3,decide_eq_true hd,Bool.or_true,Bool.true_or,if_pos rfl]
     split <;> rfl
    ·have hsm:n * x ≤ capN:=by
      have:=mt hdiv.2 hd
      omega
     have hno:¬ capN < n * x:=by omega
     rw [if_neg hd,decide_eq_false hd,Bool.or_false,if_neg hno,decide_eq_false hno,Bool.or_false,prodI,Int.mul_assoc]
   ·rw [if_neg hl,if_neg hl]
theorem timesD_times (l:List Int):timesD 1 false l = times l:=by
 rw [timesD_eq l 1 false (by omega) (by decide),times_eq,Int.one_mul]
 rfl
end
section
def baseQ (c:List Df) (q:Qy) (o:Int):Int:=(c.getD (q.occ.getD o.toNat (-1)).toNat dfO).rows
def rowsL (c:List Df) (q:Qy) (s:Int):List Int:=((upto q.occ.length).filter fun o=>bitI s o.toNat).map (baseQ c q)
def wE (e:Ex):Int:=if e.pair.2.2 then 10 else 3
def Qy.fewer (q:Qy) (s:Int):Int:=prodI ((q.own s).map fun i=>wE (q.p.getD i.toNat exO))
def rowsQ (c:List Df) (q:Qy) (s:Int):Int:=if q.may c then max 1 (times (rowsL c q s) / q.fewer s) else 0
def groupsQ (c:List Df) (q:Qy):Int:=if q.may c then max 1 (rowsQ c q (2 ^ q.occ.length - 1) / 5) else 0
theorem wE_range (e:Ex):1 ≤ wE e ∧ wE e ≤ 10:=by unfold wE; split <;> omega
theorem prodI_filter {α:Type} (p:α → Bool) (f:α → Int):∀ l:List α,prodI ((l.filter p).map f) = prodI (l.map fun x=>if p x then f x else 1)
 | []=>rfl
 | x :: l=>by
  rw [List.filter_cons,List.map_cons,prodI,← prodI_filter p f l]
  split
  ·rw [List.map_cons,prodI]
  ·rw [Int.one_mul]
theorem prodI_one {α:Type} (f:α → Int):∀ l:List α,(∀ x ∈ l,1 ≤ f x) → 1 ≤ prodI (l.map f)
 | [],_=>by rw [List.map_nil,prodI]; omega
 | x :: l,h=>by
  rw [List.map_cons,prodI]
  have h1:=h x (by simp)
  have:=mul_ge (a:=f x) (by omega) (prodI_one f l fun y hy=>h y (by simp [hy]))
  omega
theorem prodI_idx (p:Ex → Bool) (w:Ex → Int) (P:List Ex):prodI ((idxF p P).map fun i=>w (P.getD i.toNat exO)) = prodI (P.map fun e=>if p e then w e else 1):=by
 induction P using snoc_ind with
 | h0=>rfl
 | h1 P e ih =>
  rw [idxF_snoc,List.map_append,prodI_append,List.map_append,prodI_append,← ih]
  congr 1
  ·congr 1
   refine List.map_congr_left fun i hi=>?_
   rw [idxF_mem] at hi
   rw [getD_left _ _ _ _ (by omega)]
  ·have h2:(P ++ [e]).getD ((P.length:Int)).toNat exO = e:=by simp
   split
   ·rename_i h
    simp only [List.map_cons,List.map_nil,prodI,h,if_true,h2]
   ·rename_i h
    simp only [List.map_cons,List.map_nil,prodI,h]
    rfl
def wT (s:Int) (e:Ex):Int:=if ownT s e then wE e else 1
theorem wT_range (s:Int) (e:Ex):1 ≤ wT s e ∧ wT s e ≤ 10:=by
 unfold wT
 have:=wE_range e
 split <;> omega
theorem fewer_eq (q:Qy) (s:Int):q.fewer s = prodI (q.p.map (wT s)):=prodI_idx _ _ _
theorem fewer_pos (q:Qy) (s:Int):1 ≤ q.fewer s:=by
 rw [fewer_eq]
 exact prodI_one _ _ fun x _=>(wT_range s x).1
def bT (c:List Df) (q:Qy) (s:Int) (o:Int):Int:=if bitI s o.toNat then baseQ c q o else 1
theorem rowsL_eq (c:List Df) (q:Qy) (s:Int):prodI (rowsL c q s) = prodI ((upto q.occ.length).map (bT c q s)):=prodI_filter _ _ _
theorem base_range {c:List Df} {q:Qy} (h:q.may c = true) {o:Int} (h0:0 ≤ o) (h1:o < q.occ.length):1 ≤ baseQ c q o ∧ baseQ c q o ≤ 1000000:=by
 obtain ⟨hc,_,_,ht,_⟩:=may_split h
 unfold baseQ
 have hlt:o.toNat < q.occ.length:=by omega
 rw [List.getD_eq_getElem?_getD (l:=q.occ),List.getElem?_eq_getElem hlt,Option.getD_some]
 have h2:=ht _ (List.getElem_mem hlt)
 have hlt2:q.occ[o.toNat].toNat < c.length:=by omega
 rw [List.getD_eq_getElem?_getD,List.getElem?_eq_getElem hlt2,Option.getD_some]
 simp only [catMay,Bool.and_eq_true,List.all_eq_true] at hc
 have h3:=hc.2 _ (List.getElem_mem hlt2)
 simp only [Df.may,Bool.and_eq_true,decide_eq_true_eq] at h3
 omega
theorem bT_pos {c:List Df} {q:Qy} (h:q.may c = true) (s:Int):∀ o ∈ upto q.occ.length,1 ≤ bT c q s o:=by
 intro o ho
 rw [upto_mem] at ho
 have:=base_range h ho.1 ho.2
 unfold bT
 split <;> omega
theorem rowsL_pos {c:List Df} {q:Qy} (h:q.may c = true) (s:Int):posL (rowsL c q s) = true:=by
 rw [posL,List.all_eq_true]
 intro x hx
 rw [rowsL,List.mem_map] at hx
 obtain ⟨o,ho,rfl⟩:=hx
 have ho:=(upto_mem _ _).1 (List.mem_filter.1 ho).1
 have:=base_range h ho.1 ho.2
 rw [decide_eq_true_eq]
 omega
def prB (c:List Df) (q:Qy) (s:Int):Int:=prodI ((upto q.occ.length).map (bT c q s))
theorem prB_pos {c:List Df} {q:Qy} (h:q.may c = true) (s:Int):1 ≤ prB c q s:=prodI_one _ _ (bT_pos h s)
theorem times_rows {c:List Df} {q:Qy} (h:q.may c = true) (s:Int):times (rowsL c q s) = cap (prB c q s):=by
 rw [times_eq,if_pos (rowsL_pos h s),rowsL_eq]
 rfl
theorem rowsQ_eq {c:List Df} {q:Qy} (h:q.may c = true) (s:Int):rowsQ c q s = max 1 (cap (prB c q s) / q.fewer s):=by
 rw [rowsQ,if_pos h,times_rows h]
theorem div_le_self' {a b:Int} (ha:0 ≤ a) (hb:1 ≤ b):a / b ≤ a:=Int.ediv_le_self _ ha
theorem div_nonneg' {a b:Int} (ha:0 ≤ a) (hb:1 ≤ b):0 ≤ a / b:=Int.ediv_nonneg ha (by omega)
theorem rowsQ_range {c:List Df} {q:Qy} (h:q.may c = true) (s:Int):1 ≤ rowsQ c q s ∧ rowsQ c q s ≤ capN:=by
 rw [rowsQ_eq h]
 have h1:=cap_le (prB c q s)
 have h2:=cap_pos (prB_pos h s)
 have h3:=div_le_self' (a:=cap (prB c q s)) (by omega) (fewer_pos q s)
 have h4:(1:Int) ≤ capN:=by decide
 omega
theorem rowsQ_congr {c:List Df} {q:Qy} (h:q.may c = true) {s t:Int} (hb:∀ i:Nat,i < q.occ.length → bitI s i = bitI t i):rowsQ c q s = rowsQ c q t:=by
 rw [rowsQ_eq h,rowsQ_eq h]
 have e1:prB c q s = prB c q t:=by
  unfold prB
  congr 1
  refine List.map_congr_left fun o ho=>?_
  rw [upto_mem] at ho
  unfold bT
  rw [hb o.toNat (by omega)]
 have e2:q.fewer s = q.fewer t:=by
  rw [fewer_eq,fewer_eq]
  congr 1
  refine List.map_congr_left fun e he=>?_
  have:ownT s e = ownT t e:=by
   rw [Bool.eq_iff_iff,ownT_iff,ownT_iff]
   have hlt:∀ i:Nat,hasOcc e i = true → i < q.occ.length:=by
    intro i hi
    rw [hasOcc,List.any_eq_true] at hi
    obtain ⟨x,hx,hd⟩:=hi
    rw [decide_eq_true_eq] at hd
    have:=isCol_range (((may_split h).2.2.2.2.2.1 e he).2 x hx)
    omega
   constructor
   ·intro h1 i hi ht; rw [← hb i (hlt i ht)]; exact h1 i hi ht
   ·intro h1 i hi ht; rw [hb i (hlt i ht)]; exact h1 i hi ht
  unfold wT
  rw [this]
 rw [e1,e2]
theorem groups_full {c:List Df} {q:Qy} (h:q.may c = true):groupsQ c q = max 1 (rowsQ c q 15 / 5):=by
 rw [groupsQ,if_pos h]
 obtain ⟨_,h1,h2,_⟩:=may_split h
 rw [rowsQ_congr h (t:=15) fun i hi=>?_]
 have hc:q.occ.length = 1 ∨ q.occ.length = 2 ∨ q.occ.length = 3 ∨ q.occ.length = 4:=by omega
 have hi2:i = 0 ∨ i = 1 ∨ i = 2 ∨ i = 3:=by omega
 rcases hc with hc | hc | hc | hc <;> rw [hc] at hi ⊢ <;> rcases hi2 with rfl | rfl | rfl | rfl <;> first | rfl | omega
end
section
theorem band_mask (x:Int) (h0:0 ≤ x) (h1:x < 18446744073709551616):band .u64 x 4294967295 = x % 4294967296:=by
 obtain ⟨n,rfl⟩:∃ n:Nat,x = n:=⟨x.toNat,by omega⟩
 have hn:n < 2 ^ 64:=by omega
 show IntKind.wrap .u64 ((BitVec.ofInt 64 (n:Int) &&& BitVec.ofInt 64 4294967295:BitVec 64).toNat:Int) = _
 have e1:(BitVec.ofInt 64 (n:Int)) = BitVec.ofNat 64 n:=by
  apply BitVec.eq_of_toNat_eq
  simp
 have e2:(BitVec.ofInt 64 4294967295) = BitVec.ofNat 64 4294967295:=by decide
 rw [e1,e2,BitVec.toNat_and,BitVec.toNat_ofNat,BitVec.toNat_ofNat,Nat.mod_eq_of_lt hn]
 have e3:n &&& (4294967295 % 2 ^ 64) = n % 4294967296:=by
  have:=Nat.and_two_pow_sub_one_eq_mod n 32
  simpa using this
 rw [e3,IntKind.wrap_u64]
 omega
theorem bshr_32 (x:Int) (h0:0 ≤ x):bshr .u64 x 32 = x / 4294967296:=by
 unfold bshr
 have e:(2:Int) ^ (min (32:Int).toNat IntKind.u64.bits) = 4294967296:=by decide
 rw [e,Int.fdiv_eq_ediv_of_nonneg _ (by omega)]
theorem mulHi_eq (x y:Int) (hx0:0 ≤ x) (hx1:x < 18446744073709551616) (hy0:0 ≤ y) (hy1:y < 18446744073709551616):mulHi x y = x * y / 18446744073709551616:=by
 have dx:0 ≤ x / 4294967296 ∧ x / 4294967296 ≤ 4294967295 ∧ 0 ≤ x % 4294967296 ∧ x % 4294967296 ≤ 4294967295 ∧ x = 4294967296 * (x / 4294967296) + x % 4294967296:=by omega
 have dy:0 ≤ y / 4294967296 ∧ y / 4294967296 ≤ 4294967295 ∧ 0 ≤ y % 4294967296 ∧ y % 4294967296 ≤ 4294967295 ∧ y = 4294967296 * (y / 4294967296) + y % 4294967296:=by omega
 unfold mulHi mulW
 rw [bshr_32 x hx0,bshr_32 y hy0,band_mask x hx0 hx1,band_mask y hy0 hy1]
 generalize x / 4294967296 = x1 at dx ⊢
 generalize x % 4294967296 = x0 at dx ⊢
 generalize y / 4294967296 = y1 at dy ⊢
 generalize y % 4294967296 = y0 at dy ⊢
 obtain ⟨a1,a2,a3,a4,rfl⟩:=dx
 obtain ⟨b1,b2,b3,b4,rfl⟩:=dy
 have prod:∀ u v:Int,0 ≤ u → u ≤ 4294967295 → 0 ≤ v → v ≤ 4294967295 → 0 ≤ u * v ∧ u * v ≤ 18446744065119617025:=fun u v h1 h2 h3 h4=>by
  refine ⟨Int.mul_nonneg h1 h3, ?_⟩
  have:=Int.mul_le_mul h2 h4 h3 (by omega:(0:Int) ≤ 4294967295)
  omega
 have p11:=prod x1 y1 a1 a2 b1 b2
 have p10:=prod x1 y0 a1 a2 b3 b4
 have p01:=prod x0 y1 a3 a4 b1 b2
 have p00:=prod x0 y0 a3 a4 b3 b4
 have expand:(4294967296 * x1 + x0) * (4294967296 * y1 + y0) = 18446744073709551616 * (x1 * y1) + 4294967296 * (x1 * y0 + x0 * y1) + x0 * y0:=by
  rw [Int.add_mul,Int.mul_add,Int.mul_add]
  have e1:4294967296 * x1 * (4294967296 * y1) = 18446744073709551616 * (x1 * y1):=by
   rw [Int.mul_assoc,Int.mul_left_comm x1,← Int.mul_assoc]; rfl
  have e2:4294967296 * x1 * y0 = 4294967296 * (x1 * y0):=Int.mul_assoc _ _ _
  have e3:x0 * (4294967296 * y1) = 4294967296 * (x0 * y1):=Int.mul_left_comm _ _ _
  rw [e1,e2,e3]
  omega
 rw [expand]
 generalize x1 * y1 = q11 at p11 ⊢
 generalize x1 * y0 = q10 at p10 ⊢
 generalize x0 * y1 = q01 at p01 ⊢
 generalize x0 * y0 = q00 at p00 ⊢
 simp only [IntKind.wrap_u64]
 have e00:q00 % 18446744073709551616 = q00:=by omega
 have e10:q10 % 18446744073709551616 = q10:=by omega
 have e01:q01 % 18446744073709551616 = q01:=by omega
 have e11:q11 % 18446744073709551616 = q11:=by omega
 rw [e00,e10,e01,e11,bshr_32 q00 p00.1]
 have eW:(q10 + q00 / 4294967296) % 18446744073709551616 = q10 + q00 / 4294967296:=by omega
 rw [eW,bshr_32 _ (by omega),band_mask _ (by omega) (by omega)]
 generalize hw:q10 + q00 / 4294967296 = W
 have eW2:(W % 4294967296 + q01) % 18446744073709551616 = W % 4294967296 + q01:=by omega
 rw [eW2,bshr_32 _ (by omega)]
 omega
def In64 (n:Int):Prop:=-9223372036854775808 ≤ n ∧ n ≤ 9223372036854775807
end
section
attribute [local push_cast] encE_mk encE_take encE_len encV encE_one encEs_pure encE_pure
theorem posL_snoc (l:List Int) (i:Nat) (h:i < l.length):posL (l.take (i + 1)) = (posL (l.take i) && decide (0 < l[i])):=by
 rw [List.take_succ_eq_append_getElem h,posL_append]
 simp [posL]
theorem prodI_snoc (l:List Int) (i:Nat) (h:i < l.length):prodI (l.take (i + 1)) = prodI (l.take i) * l[i]:=by
 rw [List.take_succ_eq_append_getElem h,prodI_append,prodI,prodI,Int.mul_one]
theorem posL_mem {l:List Int} {i:Nat} (h:i < l.length) (h0:l[i] ≤ 0):¬ posL l = true:=by
 intro hp
 rw [posL,List.all_eq_true] at hp
 have:=hp _ (List.getElem_mem h)
 rw [decide_eq_true_eq] at this
 omega
theorem cap_step {a x:Int} (ha:1 ≤ a) (hx:1 ≤ x):cap (cap a * x) = cap (a * x):=cap_mul (by omega) hx
theorem times_ok (l:List Int) (hl:l.length ≤ 1000000) (hin:∀ x ∈ l,In64 x):Quiet Go.Proofs.Tryz.prog 72 [.sl (l.map encI)] (.int (times l)):=by
 refine quiet_of (rs:=#[.tmp 2]) Go.Proofs.Tryz.func72 rfl rfl rfl mixed rfl rfl fun H hs=>?_
 push_cast -implicitDefEqProofs [eq_self,iff_self]
 refine loop_rule hs (σ:=Nat) (fun i=>i ≤ l.length ∧ posL (l.take i) = true) (fun i=>l.length - i)
  (fun i=>[(8, .sl (l.map encI)),(3, .lit (.int .u64 (cap (prodI (l.take i))))),(9, .int l.length),(10, .int i)]) (fun _=>[]) 0 ⟨by omega,rfl⟩ ?_ ?_ ?_
 ·(try push_cast -implicitDefEqProofs [eq_self,iff_self,encIs_pure])
  rfl
 ·(try push_cast -implicitDefEqProofs [eq_self,iff_self])
 ·rintro i ⟨h2,h3⟩
  by_cases hi:i < l.length
  ·have hi':((i:Int) < (l.length:Int)) = True:=by simp; omega
   have hi0:(0 ≤ (i:Int)) = True:=by simp
   have hc:=hin l[i] (List.getElem_mem hi)
   unfold In64 at hc
   push_cast -implicitDefEqProofs [eq_self,iff_self,hi',hi0,encIs_get l i hi,encI]
   refine ⟨fun h=>?_,fun h=>?_⟩
   ·(try push_cast -implicitDefEqProofs [eq_self,iff_self])
    rw [times_zero (posL_mem hi (by simpa using h))]
   ·have hx:0 < l[i]:=by simpa using h
    refine callq (mul64_ok _ _) ?_
    have e1:IntKind.wrap .u64 l[i] = l[i]:=by rw [IntKind.wrap_u64]; omega
    have hN1:=cap_pos (prodI_pos h3)
    have hN2:=cap_le (prodI (l.take i))
    have hst:cap (prodI (l.take (i + 1))) = cap (cap (prodI (l.take i)) * l[i]):=by rw [prodI_snoc l i hi,cap_step (prodI_pos h3) hx]
    have hpo:posL (l.take (i + 1)) = true:=by rw [posL_snoc l i hi,h3,decide_eq_true hx]; rfl
    rw [e1]
    unfold capN at hN2
    have hmul:=mulHi_eq (cap (prodI (l.take i))) l[i] (by omega) (by omega) (by omega) (by omega)
    rw [hmul]
    generalize hN:cap (prodI (l.take i)) = N at *
    have hge:=mul_ge (a:=N) (b:=l[i]) (by omega) hx
    push_cast -implicitDefEqProofs [eq_self,iff_self]
    have hcap:cap (N * l[i]) = if 1099511627776 < N * l[i] then 1099511627776 else N * l[i]:=by
     unfold cap capN
     split <;> omega
    generalize hM:N * l[i] = M at *
    rw [wrap64 (n:=(i:Int) + 1) (by omega) (by omega),IntKind.wrap_u64]
    refine ⟨fun hb=>?_,fun hb=>?_⟩
    ·have hv:cap (prodI (l.take (i + 1))) = 1099511627776:=by rw [hst,hcap,if_pos (by omega)]
     refine next_intro (i + 1) ⟨by omega,hpo⟩ (by omega) ?_ ?_
     ·(try push_cast -implicitDefEqProofs [eq_self,iff_self,hv,encIs_pure])
     ·(try push_cast -implicitDefEqProofs [eq_self,iff_self])
    ·have hm:M % 18446744073709551616 = M:=by omega
     rw [hm]
     have hv:cap (prodI (l.take (i + 1))) = if 1099511627776 < M then 1099511627776 else M:=by rw [hst,hcap]
     refine next_intro (i + 1) ⟨by omega,hpo⟩ (by omega) ?_ ?_
     ·(try push_cast -implicitDefEqProofs [eq_self,iff_self,hv,encIs_pure])
     ·(try push_cast -implicitDefEqProofs [eq_self,iff_self])
  ·have hi':((i:Int) < (l.length:Int)) = False:=by simp; omega
   rw [List.take_of_length_le (by omega)] at h3
   push_cast -implicitDefEqProofs [eq_self,iff_self,hi']
   (try push_cast -implicitDefEqProofs [eq_self,iff_self])
   rw [List.take_of_length_le (by omega),times_eq,if_pos h3]
   have h1:=cap_pos (prodI_pos h3)
   have h4:=cap_le (prodI l)
   unfold capN at h4
   rw [wrap64 (by omega) (by omega)]
end
section
attribute [local push_cast] encE_mk encE_take encE_len encV encE_one encEs_pure encE_pure
def baseR (c:List Df) (q:Qy) (o:Int):Int:=if q.may c = true ∧ 0 ≤ o ∧ o < q.occ.length then baseQ c q o else 0
theorem base_get {c:List Df} {q:Qy} (h:q.may c = true) {k:Nat} (hk:k < q.occ.length):∃ t:Nat,q.occ[k] = t ∧ ∃ ht:t < c.length,baseQ c q k = c[t].rows:=by
 have hr:=(may_split h).2.2.2.1 _ (List.getElem_mem hk)
 refine ⟨q.occ[k].toNat,by omega,by omega, ?_⟩
 rw [baseQ,Int.toNat_natCast,List.getD_eq_getElem?_getD (l:=q.occ),List.getElem?_eq_getElem hk,Option.getD_some,List.getD_eq_getElem?_getD,List.getElem?_eq_getElem (by omega)]
 rfl
theorem Base_ok (c:List Df) (hcl:c.length ≤ 1000000) (q:Qy) (hq:q.Ok) (o:Int) (hin:In64 o):Quiet Go.Proofs.Tryz.prog 28 [.agg [.sl (c.map encD)], .agg (encQ q), .int o] (.int (baseR c q o)):=by
 refine quiet_of (rs:=#[.tmp 6]) Go.Proofs.Tryz.func28 rfl rfl rfl mixed rfl rfl fun H hs=>?_
 push_cast -implicitDefEqProofs [eq_self,iff_self,encQ]
 refine callq (MayQ_ok c hcl q hq) ?_
 push_cast -implicitDefEqProofs [eq_self,iff_self,encQ]
 have hO:=hq.2.2.1
 by_cases hc:q.may c = true ∧ 0 ≤ o ∧ o < q.occ.length
 ·obtain ⟨hm,h0,h1⟩:=hc
  have hb:baseR c q o = baseQ c q o:=if_pos ⟨hm,h0,h1⟩
  obtain ⟨k,rfl⟩:∃ k:Nat,o = k:=⟨o.toNat,by omega⟩
  have hk:k < q.occ.length:=by omega
  obtain ⟨t,ht,htl,hbq⟩:=base_get hm hk
  have c1:((k:Int) < 0) = False:=by simp
  have c2:((q.occ.length:Int) ≤ (k:Int)) = False:=by simp; omega
  have k0:(0 ≤ (k:Int)) = True:=by simp
  have k1:((k:Int) < (q.occ.length:Int)) = True:=by simp; omega
  have t0:(0 ≤ (t:Int)) = True:=by simp
  have t1:((t:Int) < (c.length:Int)) = True:=by simp; omega
  rw [hb,hbq,hm]
  push_cast -implicitDefEqProofs [eq_self,iff_self,c1,c2]
  refine areg_at 11 (by kernel_rfl) (by kernel_rfl) ?_
  push_cast -implicitDefEqProofs [eq_self,iff_self,encQ,k0,k1,encIs_get q.occ k hk,encI,ht,t0,t1,encDs_get c t htl,encD]
 ·have hb:baseR c q o = 0:=if_neg hc
  have hcond:(!q.may c || decide (o < 0) || decide ((q.occ.length:Int) ≤ o)) = true:=by
   rcases Bool.eq_false_or_eq_true (!q.may c || decide (o < 0) || decide ((q.occ.length:Int) ≤ o)) with h | h
   ·exact h
   exfalso
   simp only [Bool.or_eq_false_iff,Bool.not_eq_false',decide_eq_false_iff_not] at h
   exact hc ⟨h.1.1,by omega,by omega⟩
  rw [hb]
  push_cast -implicitDefEqProofs [eq_self,iff_self,hcond]
theorem divs_ok:Quiet Go.Proofs.Tryz.prog 130 [] (.agg [.int 3, .int 10]):=by
 refine quiet_of (rs:=#[.cell 0 29]) Go.Proofs.Tryz.func130 rfl rfl rfl mixed rfl rfl fun H hs=>?_
 push_cast -implicitDefEqProofs [eq_self,iff_self]
theorem prodI_cons (x:Int) (l:List Int):prodI (x :: l) = x * prodI l:=rfl
theorem fewerTo_snoc (q:Qy) (l:List Int) (i:Nat) (h:i < l.length):prodI ((l.take (i + 1)).map fun i=>wE (q.p.getD i.toNat exO)) = prodI ((l.take i).map fun i=>wE (q.p.getD i.toNat exO)) * wE (q.p.getD l[i].toNat exO):=by
 rw [List.take_succ_eq_append_getElem h,List.map_append,prodI_append]
 congr 1
 rw [List.map_cons,List.map_nil,prodI_cons]
 exact Int.mul_one _
theorem fewerTo_range (q:Qy):∀ l:List Int,1 ≤ prodI (l.map fun i=>wE (q.p.getD i.toNat exO)) ∧ prodI (l.map fun i=>wE (q.p.getD i.toNat exO)) ≤ 10 ^ l.length
 | []=>by simp [prodI]
 | x :: l=>by
  have ih:=fewerTo_range q l
  have hw:=wE_range (q.p.getD x.toNat exO)
  rw [List.map_cons,prodI_cons,List.length_cons,Int.pow_succ]
  generalize prodI (l.map fun i=>wE (q.p.getD i.toNat exO)) = p at ih ⊢
  generalize wE (q.p.getD x.toNat exO) = w at hw ⊢
  have h1:w * p ≤ 10 * p:=Int.mul_le_mul_of_nonneg_right hw.2 (by omega)
  have h2:1 * p ≤ w * p:=Int.mul_le_mul_of_nonneg_right hw.1 (by omega)
  omega
theorem pow_ten {n:Nat} (h:n ≤ 8):(10:Int) ^ n ≤ 100000000:=by
 have hc:n = 0 ∨ n = 1 ∨ n = 2 ∨ n = 3 ∨ n = 4 ∨ n = 5 ∨ n = 6 ∨ n = 7 ∨ n = 8:=by omega
 rcases hc with rfl | rfl | rfl | rfl | rfl | rfl | rfl | rfl | rfl <;> decide
theorem fewer_ok (q:Qy) (hq:q.Ok) (h8:q.p.length ≤ 8) (s:Int):Quiet Go.Proofs.Tryz.prog 73 [.agg (encQ q), .int s] (.int (q.fewer s)):=by
 have hown:=Own_ok q hq s
 have hl:(q.own s).length ≤ 8:=Nat.le_trans (idxF_lt _ _) h8
 have hm:∀ i ∈ q.own s,0 ≤ i ∧ i < q.p.length:=fun i hi=>by rw [Qy.own,idxF_mem] at hi; omega
 rw [Qy.fewer]
 generalize q.own s = l at hown hl hm ⊢
 refine quiet_of (rs:=#[.tmp 4]) Go.Proofs.Tryz.func73 rfl rfl rfl mixed rfl rfl fun H hs=>?_
 simp -implicitDefEqProofs only [push_cast,Nat.reduceAdd,Nat.reduceSub,Nat.reduceMul,Nat.reduceLT,Nat.reduceLeDiff,Nat.reduceEqDiff,Nat.reduceBEq,reduceCtorEq,reduceIte,Int.reduceLE,Int.reduceLT,Int.reduceNeg,Int.reduceToNat,encQ]
 refine callq hown ?_
 simp -implicitDefEqProofs only [push_cast,Nat.reduceAdd,Nat.reduceSub,Nat.reduceMul,Nat.reduceLT,Nat.reduceLeDiff,Nat.reduceEqDiff,Nat.reduceBEq,reduceCtorEq,reduceIte,Int.reduceLE,Int.reduceLT,Int.reduceNeg,Int.reduceToNat,encQ]
 refine loop_at hs (σ:=Nat) (fun i=>i ≤ l.length) (fun i=>l.length - i)
  (fun i=>[(16, .int i),(15, .int l.length),(14, .sl (l.map encI)),(2, .ptr (H.nxt + 0) 6 0 0),(5, .int (prodI ((l.take i).map fun i=>wE (q.p.getD i.toNat exO))))]) (fun i=>[some (.cells 6 [encQ q] 0)]) [some 0] 0 (by omega) rfl ?_ ?_ ?_
 ·(try simp -implicitDefEqProofs only [push_cast,Nat.reduceAdd,Nat.reduceSub,Nat.reduceMul,Nat.reduceLT,Nat.reduceLeDiff,Nat.reduceEqDiff,Nat.reduceBEq,reduceCtorEq,reduceIte,Int.reduceLE,Int.reduceLT,Int.reduceNeg,Int.reduceToNat,encEs_pure,encIs_pure,encQ,List.take_zero,List.map_nil,prodI])
 ·(try simp -implicitDefEqProofs only [push_cast,Nat.reduceAdd,Nat.reduceSub,Nat.reduceMul,Nat.reduceLT,Nat.reduceLeDiff,Nat.reduceEqDiff,Nat.reduceBEq,reduceCtorEq,reduceIte,Int.reduceLE,Int.reduceLT,Int.reduceNeg,Int.reduceToNat,encEs_pure,encIs_pure,encQ])
 intro i hi2
 by_cases hi:i < l.length
 ·have hi':((i:Int) < (l.length:Int)) = True:=by simp; omega
  have hi0:(0 ≤ (i:Int)) = True:=by simp
  obtain ⟨h0,h1⟩:=hm _ (List.getElem_mem hi)
  obtain ⟨k,hk⟩:∃ k:Nat,l[i] = k:=⟨l[i].toNat,by omega⟩
  have hkl:k < q.p.length:=by omega
  have hk0:(0 ≤ (k:Int)) = True:=by simp
  have hk':((k:Int) < (q.p.length:Int)) = True:=by simp; omega
  have hok:=hq.2.1 _ (List.getElem_mem hkl)
  have hge:q.p.getD l[i].toNat exO = q.p[k]:=by
   rw [hk,Int.toNat_natCast,List.getD_eq_getElem?_getD,List.getElem?_eq_getElem hkl]; rfl
  have hsn:=fewerTo_snoc q l i hi
  have hrg:=fewerTo_range q (l.take i)
  have hp:=pow_ten (n:=(l.take i).length) (by rw [List.length_take]; omega)
  rw [hge] at hsn
  generalize prodI ((l.take i).map fun i=>wE (q.p.getD i.toNat exO)) = v at hsn hrg ⊢
  simp -implicitDefEqProofs only [push_cast,Nat.reduceAdd,Nat.reduceSub,Nat.reduceMul,Nat.reduceLT,Nat.reduceLeDiff,Nat.reduceEqDiff,Nat.reduceBEq,reduceCtorEq,reduceIte,Int.reduceLE,Int.reduceLT,Int.reduceNeg,Int.reduceToNat,hi',hi0,encIs_get l i hi,encI,hk,hk0,hk',encEs_get q.p k hkl,encQ]
  refine callq (Pair_ok _ hok.1) ?_
  simp -implicitDefEqProofs only [push_cast,Nat.reduceAdd,Nat.reduceSub,Nat.reduceMul,Nat.reduceLT,Nat.reduceLeDiff,Nat.reduceEqDiff,Nat.reduceBEq,reduceCtorEq,reduceIte,Int.reduceLE,Int.reduceLT,Int.reduceNeg,Int.reduceToNat,encQ]
  have hv:v ≤ 100000000:=by omega
  refine ⟨fun h=>callq divs_ok ?_,fun h=>callq divs_ok ?_⟩
  ·have hw:(10:Int) = wE q.p[k]:=by rw [wE,if_pos h]
   rw [← hw] at hsn
   simp -implicitDefEqProofs only [push_cast,Nat.reduceAdd,Nat.reduceSub,Nat.reduceMul,Nat.reduceLT,Nat.reduceLeDiff,Nat.reduceEqDiff,Nat.reduceBEq,reduceCtorEq,reduceIte,Int.reduceLE,Int.reduceLT,Int.reduceNeg,Int.reduceToNat,encQ]
   rw [wrap64 (n:=(i:Int) + 1) (by omega) (by omega),wrap64 (by omega) (by omega)]
   refine ⟨by decide,next_at [some 0] (i + 1) (by omega) (by omega) rfl ?_ ?_⟩
   ·(try simp -implicitDefEqProofs only [push_cast,Nat.reduceAdd,Nat.reduceSub,Nat.reduceMul,Nat.reduceLT,Nat.reduceLeDiff,Nat.reduceEqDiff,Nat.reduceBEq,reduceCtorEq,reduceIte,Int.reduceLE,Int.reduceLT,Int.reduceNeg,Int.reduceToNat,hsn,encEs_pure,encIs_pure,encQ])
   ·(try simp -implicitDefEqProofs only [push_cast,Nat.reduceAdd,Nat.reduceSub,Nat.reduceMul,Nat.reduceLT,Nat.reduceLeDiff,Nat.reduceEqDiff,Nat.reduceBEq,reduceCtorEq,reduceIte,Int.reduceLE,Int.reduceLT,Int.reduceNeg,Int.reduceToNat,encEs_pure,encIs_pure,encQ])
  ·have hw:(3:Int) = wE q.p[k]:=by rw [wE,if_neg (by simp [h])]
   rw [← hw] at hsn
   simp -implicitDefEqProofs only [push_cast,Nat.reduceAdd,Nat.reduceSub,Nat.reduceMul,Nat.reduceLT,Nat.reduceLeDiff,Nat.reduceEqDiff,Nat.reduceBEq,reduceCtorEq,reduceIte,Int.reduceLE,Int.reduceLT,Int.reduceNeg,Int.reduceToNat,encQ]
   rw [wrap64 (n:=(i:Int) + 1) (by omega) (by omega),wrap64 (by omega) (by omega)]
   refine ⟨by decide,next_at [some 0] (i + 1) (by omega) (by omega) rfl ?_ ?_⟩
   ·(try simp -implicitDefEqProofs only [push_cast,Nat.reduceAdd,Nat.reduceSub,Nat.reduceMul,Nat.reduceLT,Nat.reduceLeDiff,Nat.reduceEqDiff,Nat.reduceBEq,reduceCtorEq,reduceIte,Int.reduceLE,Int.reduceLT,Int.reduceNeg,Int.reduceToNat,hsn,encEs_pure,encIs_pure,encQ])
   ·(try simp -implicitDefEqProofs only [push_cast,Nat.reduceAdd,Nat.reduceSub,Nat.reduceMul,Nat.reduceLT,Nat.reduceLeDiff,Nat.reduceEqDiff,Nat.reduceBEq,reduceCtorEq,reduceIte,Int.reduceLE,Int.reduceLT,Int.reduceNeg,Int.reduceToNat,encEs_pure,encIs_pure,encQ])
 ·have hi':((i:Int) < (l.length:Int)) = False:=by simp; omega
  have h5:l.take i = l:=List.take_of_length_le (by omega)
  simp -implicitDefEqProofs only [push_cast,Nat.reduceAdd,Nat.reduceSub,Nat.reduceMul,Nat.reduceLT,Nat.reduceLeDiff,Nat.reduceEqDiff,Nat.reduceBEq,reduceCtorEq,reduceIte,Int.reduceLE,Int.reduceLT,Int.reduceNeg,Int.reduceToNat,hi',h5]
def rowsTo (c:List Df) (q:Qy) (s:Int) (k:Nat):List Int:=((upto k).filter fun o=>bitI s o.toNat).map (baseQ c q)
theorem rowsTo_yes (c:List Df) (q:Qy) (s:Int) (k:Nat) (h:bitI s k = true):rowsTo c q s (k + 1) = rowsTo c q s k ++ [baseQ c q k]:=by
 rw [rowsTo,upto_snoc,List.filter_append,List.filter_cons,Int.toNat_natCast,if_pos h,List.filter_nil,List.map_append]
 rfl
theorem rowsTo_no (c:List Df) (q:Qy) (s:Int) (k:Nat) (h:bitI s k = false):rowsTo c q s (k + 1) = rowsTo c q s k:=by
 rw [rowsTo,upto_snoc,List.filter_append,List.filter_cons,Int.toNat_natCast,if_neg (show ¬ bitI s k = true by rw [h]; decide),List.filter_nil,List.append_nil]
 rfl
theorem rowsTo_zero (c:List Df) (q:Qy) (s:Int):rowsTo c q s 0 = []:=rfl
theorem rowsTo_len (c:List Df) (q:Qy) (s:Int) (k:Nat):(rowsTo c q s k).length ≤ k:=by
 rw [rowsTo,List.length_map]
 exact Nat.le_trans (List.length_filter_le _ _) (by rw [upto_len]; omega)
theorem rowsL_in {c:List Df} {q:Qy} (h:q.may c = true) (s:Int):∀ x ∈ rowsL c q s,In64 x:=by
 intro x hx
 rw [rowsL,List.mem_map] at hx
 obtain ⟨o,ho,rfl⟩:=hx
 rw [List.mem_filter,upto_mem] at ho
 have:=base_range h ho.1.1 (by omega)
 unfold In64
 omega
theorem max_one (a:Int):(if 1 < a then a else 1) = max 1 a:=by
 split <;> omega
theorem Rows_ok (c:List Df) (hcl:c.length ≤ 1000000) (q:Qy) (hq:q.Ok) (s:Int):Quiet Go.Proofs.Tryz.prog 30 [.agg [.sl (c.map encD)], .agg (encQ q), .int s] (.int (rowsQ c q s)):=by
 have hbase:=fun o=>Base_ok c hcl q hq o
 refine quiet_of (rs:=#[.tmp 6]) Go.Proofs.Tryz.func30 rfl rfl rfl mixed rfl rfl fun H hs=>?_
 push_cast -implicitDefEqProofs [eq_self,iff_self,encQ]
 refine callq (MayQ_ok c hcl q hq) ?_
 cases hm:q.may c
 ·have h0:rowsQ c q s = 0:=by rw [rowsQ,hm]; rfl
  rw [h0]
  push_cast -implicitDefEqProofs [eq_self,iff_self,encQ]
 obtain ⟨hc,ho1,ho4,hot,hp6,_⟩:=may_split hm
 have hfw:=fewer_ok q hq (by omega) s
 have hfr:=fewer_pos q s
 have hti:=times_ok (rowsL c q s) (by rw [rowsL,List.length_map]; exact Nat.le_trans (List.length_filter_le _ _) (by rw [upto_len]; omega)) (rowsL_in hm s)
 have htr:=times_range (rowsL c q s)
 simp only [encQ] at hbase hfw
 push_cast -implicitDefEqProofs [eq_self,iff_self,encQ]
 refine loop_at hs (σ:=Nat) (fun i=>i ≤ q.occ.length) (fun i=>q.occ.length - i)
  (fun i=>[(16, .int i),(15, .int q.occ.length),(2, .int s),(3, .ptr (H.nxt + 0) 1 0 0),(4, .ptr (H.nxt + 1) 6 0 0),(7, .rsl (H.nxt + 2) 1 0 (rowsTo c q s i).length)]) (fun i=>[some (.cells 1 [[.sl (c.map encD)]] 0),some (.cells 6 [encQ q] 0),some (.cells 1 (rowI (rowsTo c q s i)) 0)]) [some 0,some 1,none] 0 (by omega) rfl ?_ ?_ ?_
 ·(try push_cast -implicitDefEqProofs [eq_self,iff_self,rowsTo_zero,rowI_nil,encDs_pure,encEs_pure,encIs_pure,encQ])
 ·(try push_cast -implicitDefEqProofs [eq_self,iff_self,rowsTo_zero,rowI_nil,encDs_pure,encEs_pure,encIs_pure,encQ])
 intro i hi2
 have hlen:=rowsTo_len c q s i
 by_cases hi:i < q.occ.length
 ·have hi':((i:Int) < (q.occ.length:Int)) = True:=by simp; omega
  have hi0:(0 ≤ (i:Int)) = True:=by simp
  have hbit:=has_bit s i (by omega)
  have hbr:baseR c q i = baseQ c q i:=if_pos ⟨hm,by omega,by omega⟩
  have hb:=hbase i (by unfold In64; omega)
  rw [hbr] at hb
  push_cast -implicitDefEqProofs [eq_self,iff_self,hi',hi0,hbit,encQ]
  refine ⟨fun h=>callq hb ?_,fun h=>?_⟩
  ·push_cast -implicitDefEqProofs [eq_self,iff_self,encQ]
   rw [wrap64 (n:=(i:Int) + 1) (by omega) (by omega)]
   refine ⟨by omega, ?_⟩
   refine next_at [some 0,some 1,some 4] (i + 1) (by omega) (by omega) rfl ?_ ?_
   ·(try push_cast -implicitDefEqProofs [eq_self,iff_self,rowsTo_yes c q s i h,encDs_pure,encEs_pure,encIs_pure,encQ])
   ·(try push_cast -implicitDefEqProofs [eq_self,iff_self,rowsTo_yes c q s i h,take_rowI _ _ (Nat.le_refl _),snocI,rowI_pure,rowI_one,encDs_pure,encEs_pure,encIs_pure,encQ])
  ·rw [wrap64 (n:=(i:Int) + 1) (by omega) (by omega)]
   refine next_at [some 0,some 1,some 2] (i + 1) (by omega) (by omega) rfl ?_ ?_
   ·(try push_cast -implicitDefEqProofs [eq_self,iff_self,rowsTo_no c q s i h,encDs_pure,encEs_pure,encIs_pure,encQ])
   ·(try push_cast -implicitDefEqProofs [eq_self,iff_self,rowsTo_no c q s i h,rowI_pure,rowI_one,encDs_pure,encEs_pure,encIs_pure,encQ])
 ·have hi':((i:Int) < (q.occ.length:Int)) = False:=by simp; omega
  obtain rfl:i = q.occ.length:=by omega
  have hrl:rowsTo c q s q.occ.length = rowsL c q s:=rfl
  push_cast -implicitDefEqProofs [eq_self,iff_self,hi',hrl,encQ]
  refine areg_wk hs 8 [(7, .sl ((rowsL c q s).map encI)),(4, .ptr (H.nxt + 1) 6 0 0),(2, .int s)] [none,some (.cells 6 [encQ q] 0),none] (by kernel_rfl) (by kernel_rfl) ?_ ?_ ?_
  ·(try push_cast -implicitDefEqProofs [eq_self,iff_self,encDs_pure,encEs_pure,encIs_pure,encQ,take_rowI _ _ (Nat.le_refl _)])
  ·(try push_cast -implicitDefEqProofs [eq_self,iff_self,encDs_pure,encEs_pure,encIs_pure,encQ,take_rowI _ _ (Nat.le_refl _)])
  push_cast -implicitDefEqProofs [eq_self,iff_self,encQ]
  refine ahdq hti ?_
  push_cast -implicitDefEqProofs [eq_self,iff_self,encQ]
  refine ahdq hfw ?_
  push_cast -implicitDefEqProofs [eq_self,iff_self,encQ]
  have hdv:0 ≤ times (rowsL c q s) / q.fewer s ∧ times (rowsL c q s) / q.fewer s ≤ times (rowsL c q s):=⟨div_nonneg' htr.1 hfr,div_le_self' htr.1 hfr⟩
  have hcap:capN = 1099511627776:=rfl
  refine ⟨by omega, ?_⟩
  rw [Int.tdiv_eq_ediv_of_nonneg htr.1,wrap64 (by omega) (by omega),rowsQ,if_pos hm]
  exact max_one _
theorem shl_occ {n:Nat} (h0:1 ≤ n) (h4:n ≤ 4):IntKind.wrap .i64 (bshl .i64 1 n - 1) = 2 ^ n - 1:=by
 have hc:n = 1 ∨ n = 2 ∨ n = 3 ∨ n = 4:=by omega
 rcases hc with rfl | rfl | rfl | rfl <;> decide +kernel
theorem Groups_ok (c:List Df) (hcl:c.length ≤ 1000000) (q:Qy) (hq:q.Ok):Quiet Go.Proofs.Tryz.prog 50 [.agg [.sl (c.map encD)], .agg (encQ q)] (.int (groupsQ c q)):=by
 refine quiet_of (rs:=#[.tmp 4]) Go.Proofs.Tryz.func50 rfl rfl rfl mixed rfl rfl fun H hs=>?_
 simp -implicitDefEqProofs only [push_cast,Nat.reduceAdd,Nat.reduceSub,Nat.reduceMul,Nat.reduceLT,Nat.reduceLeDiff,Nat.reduceEqDiff,Nat.reduceBEq,reduceCtorEq,reduceIte,Int.reduceLE,Int.reduceLT,Int.reduceNeg,Int.reduceToNat,encQ]
 refine callq (MayQ_ok c hcl q hq) ?_
 cases hm:q.may c
 ·have h0:groupsQ c q = 0:=by rw [groupsQ,hm]; rfl
  rw [h0]
  simp -implicitDefEqProofs only [push_cast,Nat.reduceAdd,Nat.reduceSub,Nat.reduceMul,Nat.reduceLT,Nat.reduceLeDiff,Nat.reduceEqDiff,Nat.reduceBEq,reduceCtorEq,reduceIte,Int.reduceLE,Int.reduceLT,Int.reduceNeg,Int.reduceToNat,encQ]
 obtain ⟨hc,ho1,ho4,_⟩:=may_split hm
 have hr:=rowsQ_range hm (2 ^ q.occ.length - 1)
 have hsh:=shl_occ ho1 ho4
 have hcap:capN = 1099511627776:=rfl
 simp -implicitDefEqProofs only [push_cast,Nat.reduceAdd,Nat.reduceSub,Nat.reduceMul,Nat.reduceLT,Nat.reduceLeDiff,Nat.reduceEqDiff,Nat.reduceBEq,reduceCtorEq,reduceIte,Int.reduceLE,Int.reduceLT,Int.reduceNeg,Int.reduceToNat,encQ]
 refine areg_at 11 (by kernel_rfl) (by kernel_rfl) ?_
 simp -implicitDefEqProofs only [push_cast,Nat.reduceAdd,Nat.reduceSub,Nat.reduceMul,Nat.reduceLT,Nat.reduceLeDiff,Nat.reduceEqDiff,Nat.reduceBEq,reduceCtorEq,reduceIte,Int.reduceLE,Int.reduceLT,Int.reduceNeg,Int.reduceToNat,encQ,hsh]
 refine ⟨by omega,ahdq (Rows_ok c hcl q hq _) ?_⟩
 simp -implicitDefEqProofs only [push_cast,Nat.reduceAdd,Nat.reduceSub,Nat.reduceMul,Nat.reduceLT,Nat.reduceLeDiff,Nat.reduceEqDiff,Nat.reduceBEq,reduceCtorEq,reduceIte,Int.reduceLE,Int.reduceLT,Int.reduceNeg,Int.reduceToNat,encQ]
 refine ⟨by decide, ?_⟩
 rw [Int.tdiv_eq_ediv_of_nonneg (by omega),wrap64 (by omega) (by omega),groupsQ,if_pos hm]
 exact max_one _
end
section
attribute [local push_cast] encE_mk encE_take encE_len encV encE_one encEs_pure encE_pure
theorem shift_succ (s:Int) (i:Nat):bshr .i64 (s / 2 ^ i) 1 = s / 2 ^ (i + 1):=by
 rw [bshr_one,Int.pow_succ,Int.ediv_ediv_of_nonneg (Int.le_of_lt (Int.pow_pos (by omega)))]
theorem Bit_ok (s:Int) (o:Nat) (ho:o ≤ 1000):Quiet Go.Proofs.Tryz.prog 101 [.int s, .int o] (.bool (bitI s o)):=by
 refine quiet_of (rs:=#[.tmp 4]) Go.Proofs.Tryz.func101 rfl rfl rfl mixed rfl rfl fun H hs=>?_
 simp -implicitDefEqProofs only [push_cast,Nat.reduceAdd,Nat.reduceSub,Nat.reduceMul,Nat.reduceLT,Nat.reduceLeDiff,Nat.reduceEqDiff,Nat.reduceBEq,reduceCtorEq,reduceIte,Int.reduceLE,Int.reduceLT,Int.reduceNeg,Int.reduceToNat]
 refine loop_rule hs (σ:=Nat) (fun i=>i ≤ o) (fun i=>o - i)
  (fun i=>[(0, .int (s / 2 ^ i)),(1, .int o),(5, .int i)]) (fun _=>[]) 0 (by omega) ?_ ?_ ?_
 ·(try simp -implicitDefEqProofs only [push_cast,Nat.reduceAdd,Nat.reduceSub,Nat.reduceMul,Nat.reduceLT,Nat.reduceLeDiff,Nat.reduceEqDiff,Nat.reduceBEq,reduceCtorEq,reduceIte,Int.reduceLE,Int.reduceLT,Int.reduceNeg,Int.reduceToNat])
  rw [Int.pow_zero,Int.ediv_one]
 ·(try simp -implicitDefEqProofs only [push_cast,Nat.reduceAdd,Nat.reduceSub,Nat.reduceMul,Nat.reduceLT,Nat.reduceLeDiff,Nat.reduceEqDiff,Nat.reduceBEq,reduceCtorEq,reduceIte,Int.reduceLE,Int.reduceLT,Int.reduceNeg,Int.reduceToNat])
 ·rintro i h2
  by_cases hi:i < o
  ·have hi':((i:Int) < (o:Int)) = True:=by simp; omega
   simp -implicitDefEqProofs only [push_cast,Nat.reduceAdd,Nat.reduceSub,Nat.reduceMul,Nat.reduceLT,Nat.reduceLeDiff,Nat.reduceEqDiff,Nat.reduceBEq,reduceCtorEq,reduceIte,Int.reduceLE,Int.reduceLT,Int.reduceNeg,Int.reduceToNat,hi']
   rw [wrap64 (n:=(i:Int) + 1) (by omega) (by omega),shift_succ]
   refine next_intro (i + 1) (by omega) (by omega) ?_ ?_
   ·(try simp -implicitDefEqProofs only [push_cast,Nat.reduceAdd,Nat.reduceSub,Nat.reduceMul,Nat.reduceLT,Nat.reduceLeDiff,Nat.reduceEqDiff,Nat.reduceBEq,reduceCtorEq,reduceIte,Int.reduceLE,Int.reduceLT,Int.reduceNeg,Int.reduceToNat])
   ·(try simp -implicitDefEqProofs only [push_cast,Nat.reduceAdd,Nat.reduceSub,Nat.reduceMul,Nat.reduceLT,Nat.reduceLeDiff,Nat.reduceEqDiff,Nat.reduceBEq,reduceCtorEq,reduceIte,Int.reduceLE,Int.reduceLT,Int.reduceNeg,Int.reduceToNat])
  ·have hi':((i:Int) < (o:Int)) = False:=by simp; omega
   obtain rfl:i = o:=by omega
   simp -implicitDefEqProofs only [push_cast,Nat.reduceAdd,Nat.reduceSub,Nat.reduceMul,Nat.reduceLT,Nat.reduceLeDiff,Nat.reduceEqDiff,Nat.reduceBEq,reduceCtorEq,reduceIte,Int.reduceLE,Int.reduceLT,Int.reduceNeg,Int.reduceToNat,hi']
   (try simp -implicitDefEqProofs only [push_cast,Nat.reduceAdd,Nat.reduceSub,Nat.reduceMul,Nat.reduceLT,Nat.reduceLeDiff,Nat.reduceEqDiff,Nat.reduceBEq,reduceCtorEq,reduceIte,Int.reduceLE,Int.reduceLT,Int.reduceNeg,Int.reduceToNat])
   rw [band_one]
   rfl
theorem Place_ok (l:List Int) (hl:l.length ≤ 1000000) (x:Int):Quiet Go.Proofs.Tryz.prog 85 [.sl (l.map encI), .int x] (.int (idx (fun c=>decide (x = c)) l)):=by
 refine quiet_of (rs:=#[.tmp 4]) Go.Proofs.Tryz.func85 rfl rfl rfl mixed rfl rfl fun H hs=>?_
 push_cast -implicitDefEqProofs [eq_self,iff_self]
 refine loop_rule hs (σ:=Nat) (fun i=>i ≤ l.length ∧ ∀ (j:Nat) (h:j < l.length),j < i → decide (x = l[j]) = false) (fun i=>l.length - i)
  (fun i=>[(0, .sl (l.map encI)),(1, .int x),(5, .int i)]) (fun _=>[]) 0 ⟨by omega,fun j _ h=>by omega⟩ ?_ ?_ ?_
 ·(try push_cast -implicitDefEqProofs [eq_self,iff_self,encIs_pure])
 ·(try push_cast -implicitDefEqProofs [eq_self,iff_self])
 ·rintro i ⟨h2,h3⟩
  by_cases hi:i < l.length
  ·have hi':((i:Int) < (l.length:Int)) = True:=by simp; omega
   have hi0:(0 ≤ (i:Int)) = True:=by simp
   push_cast -implicitDefEqProofs [eq_self,iff_self,hi',hi0,encIs_get l i hi,encI]
   refine ⟨fun h=>?_,fun h=>?_⟩
   ·(try push_cast -implicitDefEqProofs [eq_self,iff_self])
    exact (idx_hit (p:=fun c=>decide (x = c)) hi h3 (by simpa using h.symm)).symm
   ·rw [wrap64 (n:=(i:Int) + 1) (by omega) (by omega)]
    refine next_intro (i + 1) ⟨by omega,fun j hj hji=>?_⟩ (by omega) ?_ ?_
    ·rcases Nat.lt_or_ge j i with h4 | h4
     ·simpa using h3 j hj h4
     ·obtain rfl:j = i:=by omega
      exact fun e=>h e.symm
    ·(try push_cast -implicitDefEqProofs [eq_self,iff_self,encIs_pure])
    ·(try push_cast -implicitDefEqProofs [eq_self,iff_self])
  ·have hi':((i:Int) < (l.length:Int)) = False:=by simp; omega
   push_cast -implicitDefEqProofs [eq_self,iff_self,hi']
   (try push_cast -implicitDefEqProofs [eq_self,iff_self])
   exact (idx_miss (p:=fun c=>decide (x = c)) fun j hj=>h3 j hj (by omega)).symm
theorem partS_ok (a s:Int):Quiet Go.Proofs.Tryz.prog 144 [.int a, .int s] (.bool (holdsI s a)):=by
 refine quiet_of (rs:=#[.tmp 4]) Go.Proofs.Tryz.func144 rfl rfl rfl mixed rfl rfl fun H hs=>?_
 push_cast -implicitDefEqProofs [eq_self,iff_self]
 refine loop_rule hs (σ:=Nat) (fun i=>i ≤ 4 ∧ ∀ j,j < i → bitI a j = true → bitI s j = true) (fun i=>4 - i)
  (fun i=>[(0, .int a),(1, .int s),(5, .int i)]) (fun _=>[]) 0 ⟨by omega,fun j h=>by omega⟩ ?_ ?_ ?_
 ·(try push_cast -implicitDefEqProofs [eq_self,iff_self])
 ·(try push_cast -implicitDefEqProofs [eq_self,iff_self])
 ·rintro i ⟨h2,h3⟩
  by_cases hi:i < 4
  ·have hi':((i:Int) < 4) = True:=by simp; omega
   push_cast -implicitDefEqProofs [eq_self,iff_self,hi']
   refine callq (Bit_ok a i (by omega)) ?_
   push_cast -implicitDefEqProofs [eq_self,iff_self]
   refine callq (Bit_ok s i (by omega)) ?_
   push_cast -implicitDefEqProofs [eq_self,iff_self]
   refine ⟨fun h=>?_,fun h=>?_⟩
   ·(try push_cast -implicitDefEqProofs [eq_self,iff_self])
    simp only [Bool.and_eq_true,Bool.not_eq_true'] at h
    symm
    rw [Bool.eq_false_iff]
    intro hh
    have:=(holdsI_iff s a).1 hh i hi h.1
    rw [this] at h
    cases h.2
   ·rw [wrap64 (n:=(i:Int) + 1) (by omega) (by omega)]
    refine next_intro (i + 1) ⟨by omega,fun j hj ha=>?_⟩ (by omega) ?_ ?_
    ·rcases Nat.lt_or_ge j i with h4 | h4
     ·exact h3 j h4 ha
     ·obtain rfl:j = i:=by omega
      rw [ha] at h
      simpa using h
    ·(try push_cast -implicitDefEqProofs [eq_self,iff_self])
    ·(try push_cast -implicitDefEqProofs [eq_self,iff_self])
  ·have hi':((i:Int) < 4) = False:=by simp; omega
   push_cast -implicitDefEqProofs [eq_self,iff_self,hi']
   (try push_cast -implicitDefEqProofs [eq_self,iff_self])
   symm
   rw [holdsI_iff]
   exact fun j hj=>h3 j (by omega)
end
section
attribute [local push_cast] encE_mk encE_take encE_len encV encE_one encEs_pure encE_pure
def stepN (n x:Int):Int:=if capN < (if capN / x < n then 1 else n) * x then 1 else (if capN / x < n then 1 else n) * x
def stepO (n x:Int) (o:Bool):Bool:=o || decide (capN / x < n) || decide (capN < (if capN / x < n then 1 else n) * x)
def timesS:Int → Bool → List Int → Int × Bool
 | n,o,[]=>(n,o)
 | n,o,x :: l=>timesS (stepN n x) (stepO n x o) l
theorem timesS_snoc (l:List Int) (x n:Int) (o:Bool):timesS n o (l ++ [x]) = (stepN (timesS n o l).1 x,stepO (timesS n o l).1 x (timesS n o l).2):=by
 induction l generalizing n o with
 | nil=>rfl
 | cons y l ih=>rw [List.cons_append,timesS,timesS,ih]
theorem timesS_range:∀ (l:List Int) (n:Int) (o:Bool),posL l = true → 1 ≤ n → n ≤ capN → 1 ≤ (timesS n o l).1 ∧ (timesS n o l).1 ≤ capN
 | [],n,o,_,h0,h1=>⟨h0,h1⟩
 | x :: l,n,o,hp,h0,h1=>by
  simp only [posL,List.all_cons,Bool.and_eq_true,decide_eq_true_eq] at hp
  rw [timesS]
  have hs:1 ≤ stepN n x ∧ stepN n x ≤ capN:=by
   unfold stepN
   have hm:1 ≤ (if capN / x < n then 1 else n) * x:=by
    split
    ·omega
    ·have:=mul_ge (a:=n) (b:=x) (by omega) hp.1
     omega
   have hc:(1:Int) ≤ capN:=by decide
   generalize (if capN / x < n then 1 else n) * x = m at hm ⊢
   split <;> omega
  exact timesS_range l _ _ hp.2 hs.1 hs.2
theorem timesD_S:∀ (l:List Int) (n:Int) (o:Bool),timesD n o l = if posL l then (if (timesS n o l).2 then capN else (timesS n o l).1) else 0
 | [],n,o=>by rw [timesD,timesS]; rfl
 | x :: l,n,o=>by
  rw [timesD,timesS]
  by_cases hx:x ≤ 0
  ·rw [if_pos hx,if_neg]
   simp only [posL,List.all_cons,Bool.and_eq_true,decide_eq_true_eq]
   omega
  ·rw [if_neg hx]
   have hp:posL (x :: l) = posL l:=by
    simp only [posL,List.all_cons,decide_eq_true (show 0 < x by omega),Bool.true_and]
   rw [hp]
   exact timesD_S l _ _
theorem mul_small {n x:Int} (h0:1 ≤ n) (hx:0 < x) (hx1:x ≤ 9223372036854775807) (h:¬ capN / x < n):n * x ≤ capN:=by
 have hdiv:capN / x < n ↔ capN < n * x:=Int.ediv_lt_iff_lt_mul hx
 have:=mt hdiv.2 h
 omega
theorem TimesR_ok (l:List Int) (hl:l.length ≤ 1000000) (hin:∀ x ∈ l,In64 x):Quiet Go.Proofs.Tryz.prog 105 [.sl (l.map encI)] (.int (times l)):=by
 rw [← timesD_times,timesD_S]
 refine quiet_of (rs:=#[.tmp 2]) Go.Proofs.Tryz.func105 rfl rfl rfl mixed rfl rfl fun H hs=>?_
 push_cast -implicitDefEqProofs [eq_self,iff_self]
 refine loop_rule hs (σ:=Nat) (fun i=>i ≤ l.length ∧ posL (l.take i) = true) (fun i=>l.length - i)
  (fun i=>[(0, .sl (l.map encI)),(3, .int (timesS 1 false (l.take i)).1),(4, .bool (timesS 1 false (l.take i)).2),(5, .int i)]) (fun _=>[]) 0 ⟨by omega,rfl⟩ ?_ ?_ ?_
 ·(try push_cast -implicitDefEqProofs [eq_self,iff_self,encIs_pure])
  exact ⟨rfl,rfl⟩
 ·(try push_cast -implicitDefEqProofs [eq_self,iff_self])
 ·rintro i ⟨h2,h3⟩
  by_cases hi:i < l.length
  ·have hi':((i:Int) < (l.length:Int)) = True:=by simp; omega
   have hi0:(0 ≤ (i:Int)) = True:=by simp
   have hc:=hin l[i] (List.getElem_mem hi)
   unfold In64 at hc
   have hsn:timesS 1 false (l.take (i + 1)) = (stepN (timesS 1 false (l.take i)).1 l[i],stepO (timesS 1 false (l.take i)).1 l[i] (timesS 1 false (l.take i)).2):=by
    rw [List.take_succ_eq_append_getElem hi,timesS_snoc]
   have hrg:=timesS_range (l.take i) 1 false h3 (by omega) (by decide)
   generalize hS:timesS 1 false (l.take i) = S at *
   obtain ⟨n,o⟩:=S
   dsimp only at hsn hrg
   push_cast -implicitDefEqProofs [eq_self,iff_self,hi',hi0,hS,encIs_get l i hi,encI]
   refine ⟨fun h=>by rw [if_neg (posL_mem hi h)],fun h=>?_⟩
   have hx:0 < l[i]:=by omega
   have hcap:capN = 1099511627776:=rfl
   have hq:IntKind.wrap .i64 (Int.tdiv 1099511627776 l[i]) = capN / l[i]:=by
    rw [Int.tdiv_eq_ediv_of_nonneg (by omega)]
    have q1:=Int.ediv_le_self (a:=1099511627776) l[i] (by omega)
    have q2:=Int.ediv_nonneg (a:=1099511627776) (b:=l[i]) (by omega) (by omega)
    rw [wrap64 (by omega) (by omega)]
    rfl
   have h1w:IntKind.wrap .i64 (1 * l[i]) = l[i]:=by rw [Int.one_mul,wrap64 (by omega) (by omega)]
   have hpo:posL (l.take (i + 1)) = true:=by rw [posL_snoc l i hi,h3,decide_eq_true hx]; rfl
   rw [hq,h1w,wrap64 (n:=(i:Int) + 1) (by omega) (by omega)]
   refine ⟨by omega,fun hd=>⟨fun hb=>?_,fun hb=>?_⟩,fun hd=>?_⟩
   ·have e:timesS 1 false (l.take (i + 1)) = (1,true):=by
     rw [hsn,stepN,stepO,if_pos hd,Int.one_mul,if_pos (by rw [hcap]; exact hb),decide_eq_true hd]
     simp
    refine next_intro (i + 1) ⟨by omega,hpo⟩ (by omega) ?_ ?_
    ·(try push_cast -implicitDefEqProofs [eq_self,iff_self,e,encIs_pure])
    ·(try push_cast -implicitDefEqProofs [eq_self,iff_self])
   ·have e:timesS 1 false (l.take (i + 1)) = (l[i],true):=by
     rw [hsn,stepN,stepO,if_pos hd,Int.one_mul,if_neg (by rw [hcap]; exact hb),decide_eq_true hd]
     simp
    refine next_intro (i + 1) ⟨by omega,hpo⟩ (by omega) ?_ ?_
    ·(try push_cast -implicitDefEqProofs [eq_self,iff_self,e,encIs_pure])
    ·(try push_cast -implicitDefEqProofs [eq_self,iff_self])
   ·have hm:=mul_small hrg.1 hx (by omega) hd
    have hge:=mul_ge (a:=n) (b:=l[i]) (by omega) hx
    have hwn:IntKind.wrap .i64 (n * l[i]) = n * l[i]:=wrap64 (by omega) (by omega)
    rw [hwn]
    refine ⟨fun hb=>absurd hb (by omega),fun hb=>?_⟩
    have e:timesS 1 false (l.take (i + 1)) = (n * l[i],o):=by
     rw [hsn,stepN,stepO,if_neg hd,if_neg (by omega),decide_eq_false hd,decide_eq_false (by omega)]
     simp
    refine next_intro (i + 1) ⟨by omega,hpo⟩ (by omega) ?_ ?_
    ·(try push_cast -implicitDefEqProofs [eq_self,iff_self,e,encIs_pure])
    ·(try push_cast -implicitDefEqProofs [eq_self,iff_self])
  ·have hi':((i:Int) < (l.length:Int)) = False:=by simp; omega
   rw [List.take_of_length_le (by omega)] at h3
   push_cast -implicitDefEqProofs [eq_self,iff_self,hi']
   rw [List.take_of_length_le (by omega),if_pos h3]
   refine ⟨fun h=>by rw [if_pos h]; rfl,fun h=>by rw [if_neg (by rw [h]; decide)]⟩
end
section
attribute [local push_cast] encE_mk encE_take encE_len encV encE_one encEs_pure encE_pure
theorem catMay_split (c:List Df):catMay c = (c.all Df.may && (decide (1 ≤ (c.length:Int)) && decide ((c.length:Int) ≤ 4))):=by
 unfold catMay
 have e1:decide ((1:Int) ≤ (c.length:Int)) = decide (1 ≤ c.length):=by rw [decide_eq_decide]; omega
 have e2:decide ((c.length:Int) ≤ 4) = decide (c.length ≤ 4):=by rw [decide_eq_decide]; omega
 rw [e1,e2,Bool.and_comm]
theorem all_snoc (c:List Df) (i:Nat) (h:i < c.length):(c.take (i + 1)).all Df.may = ((c.take i).all Df.may && c[i].may):=by
 rw [List.take_succ_eq_append_getElem h,List.all_append,List.all_cons,List.all_nil,Bool.and_true]
theorem MayC_ok (c:List Df) (hl:c.length ≤ 1000000):Quiet Go.Proofs.Tryz.prog 82 [.agg [.sl (c.map encD)]] (.bool (catMay c)):=by
 rw [catMay_split]
 refine quiet_of (rs:=#[.tmp 2]) Go.Proofs.Tryz.func82 rfl rfl rfl mixed rfl rfl fun H hs=>?_
 push_cast -implicitDefEqProofs [eq_self,iff_self]
 refine loop_at hs (σ:=Nat) (fun i=>i ≤ c.length ∧ (c.take i).all Df.may = true) (fun i=>c.length - i)
  (fun i=>[(1, .ptr (H.nxt + 0) 1 0 0),(3, .int i)]) (fun i=>[some (.cells 1 [[.sl (c.map encD)]] 0)]) [some 0] 0 ⟨by omega,rfl⟩ rfl ?_ ?_ ?_
 ·(try push_cast -implicitDefEqProofs [eq_self,iff_self,encDs_pure])
 ·(try push_cast -implicitDefEqProofs [eq_self,iff_self,encDs_pure])
 rintro i ⟨h2,h3⟩
 by_cases hi:i < c.length
 ·have hi':((i:Int) < (c.length:Int)) = True:=by simp; omega
  have hi0:(0 ≤ (i:Int)) = True:=by simp
  push_cast -implicitDefEqProofs [eq_self,iff_self,hi',hi0,encDs_get c i hi,encD]
  have hm:(decide (c[i].cols < 1) || decide (4 < c[i].cols) || decide (c[i].rows < 1) || decide (1000000 < c[i].rows)) = !c[i].may:=by
   unfold Df.may
   grind
  rw [hm]
  refine ⟨fun h=>?_,fun h=>?_⟩
  ·have hn:c.all Df.may = false:=by
    rw [Bool.eq_false_iff]
    intro ha
    rw [List.all_eq_true] at ha
    rw [ha _ (List.getElem_mem hi)] at h
    cases h
   rw [hn]
   rfl
  ·rw [wrap64 (n:=(i:Int) + 1) (by omega) (by omega)]
   refine next_at [some 0] (i + 1) ⟨by omega, ?_⟩ (by omega) rfl ?_ ?_
   ·rw [all_snoc c i hi,h3]
    simpa using h
   ·(try push_cast -implicitDefEqProofs [eq_self,iff_self,encDs_pure])
   ·(try push_cast -implicitDefEqProofs [eq_self,iff_self,encDs_pure])
 ·have hi':((i:Int) < (c.length:Int)) = False:=by simp; omega
  rw [List.take_of_length_le (by omega)] at h3
  push_cast -implicitDefEqProofs [eq_self,iff_self,hi']
  rw [h3,Bool.true_and]
end
section
attribute [local push_cast] encE_mk encE_take encE_len encV encE_one encEs_pure encE_pure
theorem setTo_range (p:Nat → Bool):∀ k,k ≤ 4 → 0 ≤ setTo p k ∧ setTo p k ≤ 15:=by
 intro k hk
 have hc:k = 0 ∨ k = 1 ∨ k = 2 ∨ k = 3 ∨ k = 4:=by omega
 rcases hc with rfl | rfl | rfl | rfl | rfl <;> simp only [setTo] <;> (repeat' split) <;> omega
theorem OfR_ok (e:Ex) (hok:e.Ok) (hc:cnt e ≤ 1000000) (hm:∀ c ∈ e.cols,0 ≤ c ∧ c ≤ 15):Quiet Go.Proofs.Tryz.prog 145 [.agg (encE e)] (.int (setE e)):=by
 have hcr:=ColsR_ok e hok
 rw [colsR_eq] at hcr
 rw [setE,← setTo_four]
 have hl:=Nat.le_trans (cols_len e) hc
 have hh:hasOcc e = ofC e.cols:=rfl
 rw [hh]
 generalize e.cols = l at hcr hm hl
 refine quiet_of (rs:=#[.tmp 2]) Go.Proofs.Tryz.func145 rfl rfl rfl mixed rfl rfl fun H hs=>?_
 simp -implicitDefEqProofs only [push_cast,Nat.reduceAdd,Nat.reduceSub,Nat.reduceMul,Nat.reduceLT,Nat.reduceLeDiff,Nat.reduceEqDiff,Nat.reduceBEq,reduceCtorEq,reduceIte,Int.reduceLE,Int.reduceLT,Int.reduceNeg,Int.reduceToNat]
 refine callq hcr ?_
 simp -implicitDefEqProofs only [push_cast,Nat.reduceAdd,Nat.reduceSub,Nat.reduceMul,Nat.reduceLT,Nat.reduceLeDiff,Nat.reduceEqDiff,Nat.reduceBEq,reduceCtorEq,reduceIte,Int.reduceLE,Int.reduceLT,Int.reduceNeg,Int.reduceToNat]
 refine loop_rule hs (σ:=Nat) (fun i=>i ≤ 4) (fun i=>4 - i)
  (fun i=>[(3, .sl (l.map encI)),(4, .int (setTo (ofC l) i)),(5, .int (2 ^ i)),(6, .int i)]) (fun _=>[]) 0 (by omega) ?_ ?_ ?_
 ·(try simp -implicitDefEqProofs only [push_cast,Nat.reduceAdd,Nat.reduceSub,Nat.reduceMul,Nat.reduceLT,Nat.reduceLeDiff,Nat.reduceEqDiff,Nat.reduceBEq,reduceCtorEq,reduceIte,Int.reduceLE,Int.reduceLT,Int.reduceNeg,Int.reduceToNat,encIs_pure])
  exact ⟨rfl,rfl⟩
 ·(try simp -implicitDefEqProofs only [push_cast,Nat.reduceAdd,Nat.reduceSub,Nat.reduceMul,Nat.reduceLT,Nat.reduceLeDiff,Nat.reduceEqDiff,Nat.reduceBEq,reduceCtorEq,reduceIte,Int.reduceLE,Int.reduceLT,Int.reduceNeg,Int.reduceToNat])
 rintro i h2
 by_cases hi:i < 4
 ·have hi':((i:Int) < 4) = True:=by simp; omega
  simp -implicitDefEqProofs only [push_cast,Nat.reduceAdd,Nat.reduceSub,Nat.reduceMul,Nat.reduceLT,Nat.reduceLeDiff,Nat.reduceEqDiff,Nat.reduceBEq,reduceCtorEq,reduceIte,Int.reduceLE,Int.reduceLT,Int.reduceNeg,Int.reduceToNat,hi']
  have hsr:=setTo_range (ofC l) i (by omega)
  have hp2:(1:Int) ≤ 2 ^ i ∧ (2:Int) ^ i ≤ 8:=by
   have hcs:i = 0 ∨ i = 1 ∨ i = 2 ∨ i = 3:=by omega
   rcases hcs with rfl | rfl | rfl | rfl <;> decide
  refine loop_rule hs (σ:=Nat) (fun j=>j ≤ l.length) (fun j=>l.length - j)
   (fun j=>[(3, .sl (l.map encI)),(4, .int (setTo (ofC l) i)),(5, .int (2 ^ i)),(6, .int i),(7, .bool (ofC (l.take j) i)),(8, .int j)]) (fun _=>[]) 0 (by omega) ?_ ?_ ?_
  ·(try simp -implicitDefEqProofs only [push_cast,Nat.reduceAdd,Nat.reduceSub,Nat.reduceMul,Nat.reduceLT,Nat.reduceLeDiff,Nat.reduceEqDiff,Nat.reduceBEq,reduceCtorEq,reduceIte,Int.reduceLE,Int.reduceLT,Int.reduceNeg,Int.reduceToNat,encIs_pure])
   rfl
  ·(try simp -implicitDefEqProofs only [push_cast,Nat.reduceAdd,Nat.reduceSub,Nat.reduceMul,Nat.reduceLT,Nat.reduceLeDiff,Nat.reduceEqDiff,Nat.reduceBEq,reduceCtorEq,reduceIte,Int.reduceLE,Int.reduceLT,Int.reduceNeg,Int.reduceToNat])
  rintro j h4
  by_cases hj:j < l.length
  ·have hj':((j:Int) < (l.length:Int)) = True:=by simp; omega
   have hj0:(0 ≤ (j:Int)) = True:=by simp
   have hr:=hm l[j] (List.getElem_mem hj)
   simp -implicitDefEqProofs only [push_cast,Nat.reduceAdd,Nat.reduceSub,Nat.reduceMul,Nat.reduceLT,Nat.reduceLeDiff,Nat.reduceEqDiff,Nat.reduceBEq,reduceCtorEq,reduceIte,Int.reduceLE,Int.reduceLT,Int.reduceNeg,Int.reduceToNat,hj',hj0,encIs_get l j hj,encI]
   have hq:IntKind.wrap .i64 (Int.tdiv l[j] 4) = l[j] / 4:=by
    rw [Int.tdiv_eq_ediv_of_nonneg hr.1,wrap64 (by omega) (by omega)]
   have hst:ofC (l.take (j + 1)) i = (ofC (l.take j) i || decide (l[j] / 4 = (i:Int))):=by
    unfold ofC
    rw [List.take_succ_eq_append_getElem hj,List.any_append,List.any_cons,List.any_nil,Bool.or_false]
   rw [hq,wrap64 (n:=(j:Int) + 1) (by omega) (by omega)]
   refine ⟨fun _=>by decide, ?_⟩
   refine next_intro (j + 1) (by omega) (by omega) ?_ ?_
   ·(try simp -implicitDefEqProofs only [push_cast,Nat.reduceAdd,Nat.reduceSub,Nat.reduceMul,Nat.reduceLT,Nat.reduceLeDiff,Nat.reduceEqDiff,Nat.reduceBEq,reduceCtorEq,reduceIte,Int.reduceLE,Int.reduceLT,Int.reduceNeg,Int.reduceToNat,hst,encIs_pure])
   ·(try simp -implicitDefEqProofs only [push_cast,Nat.reduceAdd,Nat.reduceSub,Nat.reduceMul,Nat.reduceLT,Nat.reduceLeDiff,Nat.reduceEqDiff,Nat.reduceBEq,reduceCtorEq,reduceIte,Int.reduceLE,Int.reduceLT,Int.reduceNeg,Int.reduceToNat])
  ·have hj':((j:Int) < (l.length:Int)) = False:=by simp; omega
   have h5:l.take j = l:=List.take_of_length_le (by omega)
   simp -implicitDefEqProofs only [push_cast,Nat.reduceAdd,Nat.reduceSub,Nat.reduceMul,Nat.reduceLT,Nat.reduceLeDiff,Nat.reduceEqDiff,Nat.reduceBEq,reduceCtorEq,reduceIte,Int.reduceLE,Int.reduceLT,Int.reduceNeg,Int.reduceToNat,hj',h5]
   have hw1:IntKind.wrap .i64 ((2:Int) ^ i * 2) = 2 ^ (i + 1):=by rw [Int.pow_succ,wrap64 (by omega) (by omega)]
   have hw2:IntKind.wrap .i64 (setTo (ofC l) i + 2 ^ i) = setTo (ofC l) i + 2 ^ i:=wrap64 (by omega) (by omega)
   rw [hw1,hw2,wrap64 (n:=(i:Int) + 1) (by omega) (by omega)]
   refine ⟨fun h=>?_,fun h=>?_⟩
   ·have hs1:setTo (ofC l) (i + 1) = setTo (ofC l) i + 2 ^ i:=by rw [setTo,if_pos h]
    refine next_intro (i + 1) (by omega) (by omega) ?_ ?_
    ·(try simp -implicitDefEqProofs only [push_cast,Nat.reduceAdd,Nat.reduceSub,Nat.reduceMul,Nat.reduceLT,Nat.reduceLeDiff,Nat.reduceEqDiff,Nat.reduceBEq,reduceCtorEq,reduceIte,Int.reduceLE,Int.reduceLT,Int.reduceNeg,Int.reduceToNat,hs1,encIs_pure])
    ·(try simp -implicitDefEqProofs only [push_cast,Nat.reduceAdd,Nat.reduceSub,Nat.reduceMul,Nat.reduceLT,Nat.reduceLeDiff,Nat.reduceEqDiff,Nat.reduceBEq,reduceCtorEq,reduceIte,Int.reduceLE,Int.reduceLT,Int.reduceNeg,Int.reduceToNat])
   ·have hs1:setTo (ofC l) (i + 1) = setTo (ofC l) i:=by rw [setTo,if_neg (by rw [h]; decide),Int.add_zero]
    refine next_intro (i + 1) (by omega) (by omega) ?_ ?_
    ·(try simp -implicitDefEqProofs only [push_cast,Nat.reduceAdd,Nat.reduceSub,Nat.reduceMul,Nat.reduceLT,Nat.reduceLeDiff,Nat.reduceEqDiff,Nat.reduceBEq,reduceCtorEq,reduceIte,Int.reduceLE,Int.reduceLT,Int.reduceNeg,Int.reduceToNat,hs1,encIs_pure])
    ·(try simp -implicitDefEqProofs only [push_cast,Nat.reduceAdd,Nat.reduceSub,Nat.reduceMul,Nat.reduceLT,Nat.reduceLeDiff,Nat.reduceEqDiff,Nat.reduceBEq,reduceCtorEq,reduceIte,Int.reduceLE,Int.reduceLT,Int.reduceNeg,Int.reduceToNat])
 ·have hi':((i:Int) < 4) = False:=by simp; omega
  simp -implicitDefEqProofs only [push_cast,Nat.reduceAdd,Nat.reduceSub,Nat.reduceMul,Nat.reduceLT,Nat.reduceLeDiff,Nat.reduceEqDiff,Nat.reduceBEq,reduceCtorEq,reduceIte,Int.reduceLE,Int.reduceLT,Int.reduceNeg,Int.reduceToNat,hi']
  (try simp -implicitDefEqProofs only [push_cast,Nat.reduceAdd,Nat.reduceSub,Nat.reduceMul,Nat.reduceLT,Nat.reduceLeDiff,Nat.reduceEqDiff,Nat.reduceBEq,reduceCtorEq,reduceIte,Int.reduceLE,Int.reduceLT,Int.reduceNeg,Int.reduceToNat])
  have h4:i = 4:=by omega
  rw [h4]
end
section
attribute [local push_cast] encE_mk encE_take encE_len encV encE_one encEs_pure encE_pure
theorem cols_rng (e:Ex):∀ c ∈ e.cols,0 ≤ c ∧ c ≤ 15:=by
 intro c hx
 by_cases hm:e.may = true
 ·exact cols_range e (fine_of_may hm) c ((cols_mem hm c).1 hx)
 ·rw [cols_eq,if_neg hm] at hx
  cases hx
theorem OwnR_ok (q:Qy) (hq:q.Ok) (s:Int):Quiet Go.Proofs.Tryz.prog 103 [.agg (encQ q), .int s] (.sl ((q.own s).map encI)):=by
 obtain ⟨hP,hok,_⟩:=hq
 rw [Qy.own]
 refine quiet_of (rs:=#[.tmp 4]) Go.Proofs.Tryz.func103 rfl rfl rfl mixed rfl rfl fun H hs=>?_
 push_cast -implicitDefEqProofs [eq_self,iff_self,encQ]
 refine loop_at hs (σ:=Nat) (fun i=>i ≤ q.p.length) (fun i=>q.p.length - i)
  (fun i=>[(6, .int i),(2, .ptr (H.nxt + 0) 6 0 0),(1, .int s),(5, .rsl (H.nxt + 1) 1 0 (idxF (ownT s) (q.p.take i)).length)]) (fun i=>[some (.cells 6 [encQ q] 0),some (.cells 1 (rowI (idxF (ownT s) (q.p.take i))) 0)]) [some 0,none] 0 (by omega) rfl ?_ ?_ ?_
 ·(try push_cast -implicitDefEqProofs [eq_self,iff_self,idxF_nil,rowI_nil,List.take_zero,encEs_pure,encIs_pure,encQ])
 ·(try push_cast -implicitDefEqProofs [eq_self,iff_self,idxF_nil,rowI_nil,List.take_zero,encEs_pure,encIs_pure,encQ])
 intro i hi2
 have hlen:=idxF_lt (ownT s) (q.p.take i)
 rw [List.length_take] at hlen
 by_cases hi:i < q.p.length
 ·have hi':((i:Int) < (q.p.length:Int)) = True:=by simp; omega
  have hi0:(0 ≤ (i:Int)) = True:=by simp
  have ho:=hok _ (List.getElem_mem hi)
  push_cast -implicitDefEqProofs [eq_self,iff_self,hi',hi0,encEs_get q.p i hi,encQ]
  refine callq (OfR_ok _ ho.1 ho.2 (cols_rng _)) ?_
  push_cast -implicitDefEqProofs [eq_self,iff_self]
  refine callq (partS_ok _ _) ?_
  push_cast -implicitDefEqProofs [eq_self,iff_self]
  refine ⟨fun h=>⟨by omega, ?_⟩,fun h=>?_⟩
  ·rw [wrap64 (n:=(i:Int) + 1) (by omega) (by omega)]
   refine next_at [some 0,some 3] (i + 1) (by omega) (by omega) rfl ?_ ?_
   ·(try push_cast -implicitDefEqProofs [eq_self,iff_self,idxF_yes (ownT s) q.p i hi h,encEs_pure,encIs_pure,encQ])
   ·(try push_cast -implicitDefEqProofs [eq_self,iff_self,idxF_yes (ownT s) q.p i hi h,take_rowI _ _ (Nat.le_refl _),snocI,rowI_pure,rowI_one,encEs_pure,encIs_pure,encQ])
  ·rw [wrap64 (n:=(i:Int) + 1) (by omega) (by omega)]
   refine next_at [some 0,some 1] (i + 1) (by omega) (by omega) rfl ?_ ?_
   ·(try push_cast -implicitDefEqProofs [eq_self,iff_self,idxF_no (ownT s) q.p i hi h,encEs_pure,encIs_pure,encQ])
   ·(try push_cast -implicitDefEqProofs [eq_self,iff_self,idxF_no (ownT s) q.p i hi h,rowI_pure,rowI_one,encEs_pure,encIs_pure,encQ])
 ·have hi':((i:Int) < (q.p.length:Int)) = False:=by simp; omega
  obtain rfl:i = q.p.length:=by omega
  push_cast -implicitDefEqProofs [eq_self,iff_self,hi',encQ]
  (try push_cast -implicitDefEqProofs [eq_self,iff_self])
  rw [List.take_length,take_rowI _ _ (Nat.le_refl _)]
  exact sealLL_pure _ _ _ (encIs_pure _)
end
end Go.Sim.Tryz
