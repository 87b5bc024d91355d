/- What the row rests on, part 7. Conditions: none. -/
import Derived.Test.YtclapofaecbobaaGreatM6
set_option linter.unusedSimpArgs false
set_option linter.unusedVariables false
set_option maxRecDepth 100000
namespace Go.Sim.Tryz
open Go Go.Sim
attribute [local push_cast] aops_cons aops_nil aopG_none aopG_some aopP_eq aopE_eq aopC_eq aopE?_eq aopC?_eq aopB_eq aopB?_eq abr anilq gopP_eq gopL_eq ahead_cons ahead_nil ahdG_none ahdG_some ahdP_eq ahdN_eq ahdC_eq ahdN?_eq ahdS_eq ahdS?_eq astoreN ahdC?_eq ghdP_eq ghdC_eq ghdC?_eq ghdZ_f ghdZ_t ahdI_eq ahdI?_eq ghdN?_eq aim_nil aim_cons isIn_nil isIn_none isIn_cons aimm aheP_eq aheA_eq aheC_eq aheC?_eq aheI?_eq aheA?_eq gheP_eq gheC_eq gheC?_eq gheZ_eq aheG_none aheG_some aheff_cons aheff_nil aapp gro_rsl gro_lit gro_esl opt_some opt_none no_eq acondT_true acondT_false acondT_lit aw_skip aw_region aw_regionD aw_seq aw_cond aw_block aw_loop aw_exit aw_label aw_ret thn_normal thn_exit thn_ret inb_normal inb_exit inb_ret qret_ret qret_normal gcond apure aeff anew acallee ares aresT aresL aresC ares1 qfin_eq ev ofV evL gokL tget tput_some tput_none initT abin aint aun aload afaddr aiaddr afield aindex aextract apick pickv_lit Bool.or_false Bool.false_or Bool.or_true Bool.true_or imp_self aslice chunk roomB abound aconv abuild afill splice alen aminmax abuiltin anil apart Value.oneCell' astore aappend srcEs abuildSlice amakeSlice amapPut alookup aput afind mget keyV sameV_int Option.isSome_some Option.isSome_none cond_true cond_false asets isEq plus_obj plus_nxt plus_add plus_set plus_del IntKind.bits Option.map_some Option.map_none Option.bind_some Option.bind_none Option.join_some Option.getD_some Option.getD_none Option.toList List.getElem?_toArray List.getElem?_cons_zero List.getElem?_cons_succ List.getElem?_nil List.length_cons List.length_nil List.length_map List.head?_cons List.cons_append List.nil_append List.append_nil List.map_cons List.map_nil List.getD_cons_zero List.getD_cons_succ List.replicate_succ List.replicate_zero List.set_cons_zero List.set_cons_succ List.take_succ_cons List.take_zero List.drop_succ_cons List.drop_zero List.all_cons List.all_nil Nat.zero_add if_true if_false true_and and_true false_and and_false true_implies implies_true forall_const Bool.and_true Bool.true_and Bool.false_and Bool.and_false Bool.true_beq Bool.false_beq Bool.not_not beq_tt beq_ff Int.toNat_natCast decide_true decide_false Bool.not_true Bool.not_false Bool.true_eq_false Bool.false_eq_true false_implies exists_prop eq_self bne_self_eq_false beq_self_eq_true decide_eq_true_eq decide_eq_false_iff_not Bool.not_eq_true' Bool.not_eq_false' AV.int AV.bool AV.nilS ne_eq not_false_eq_true not_true_eq_false exists_eq_left exists_eq_left' Nat.lt_irrefl core_lit grd_lit acells_lit one_lit core_agg grd_agg acells_agg one_agg core_tup grd_tup acells_tup one_tup core_sl grd_sl acells_sl one_sl core_esl grd_esl acells_esl one_esl core_rsl grd_rsl acells_rsl one_rsl core_ptr grd_ptr acells_ptr one_ptr core_iptr grd_iptr acells_iptr one_iptr core_clo grd_clo acells_clo one_clo core_mp grd_mp acells_mp one_mp core_any grd_any acells_any one_any core_gv grd_gv fit_agg fit_lit fit_sl fit_esl fit_rsl fit_ptr fit_iptr fit_clo fit_mp retq_ret retq_normal set_nxt set_set plus_obj_set plus_set_set app_get0 app_get app_set0 app_set List.append_assoc List.length_append List.length_set Nat.lt_add_one Nat.add_lt_add_iff_right Nat.lt_add_right_iff_pos Nat.add_lt_add_iff_left List.mem_cons List.not_mem_nil or_false forall_eq forall_eq_or_imp lt_s0 lt_s1 lt_s2 lt_s3 lt_s4 lt_s5 lt_s6 lt_s7 lt_s8 pickv_t pickv_f or_nand or_nand2 imp_and_l SealT SealOs sealO_cells sl_lit sl_any sl_agg sl_tup sl_sl sl_rsl slO sl_esl sl_nil sl_eslesl sl_eslnil sl_rslrsl sl_eslrsl sl_nilrsl sl_ptr sl_iptr sl_ptri slP sl_clo sl_mp sl_gv sll_nil sll_cons slll_nil slll_cons shut_eq shutO Option.join_none Fn.func.injEq and_self sealL_self sealLL_self seal_self PureL PureLL Pure Nat.le_refl Nat.zero_le AV.lit.injEq Value.int.injEq Value.bool.injEq false_or or_true true_or Int.natCast_zero Int.ofNat_zero Int.cast_ofNat_Int Int.natCast_add Int.natCast_one Option.some.injEq piL_is sop_nil sop_cons sop_none sop_some sopO_some sop_new shut_pi shutL_nil shutL_cons exQ_exit exQ_ret exQ_normal Go.Sim.Tryz.ty_load1 Go.Sim.Tryz.ty_zero1 Go.Sim.Tryz.ty_load2 Go.Sim.Tryz.ty_zero2 Go.Sim.Tryz.ty_und2 Go.Sim.Tryz.ty_load3 Go.Sim.Tryz.ty_zero3 Go.Sim.Tryz.ty_und3 Go.Sim.Tryz.ty_load4 Go.Sim.Tryz.ty_zero4 Go.Sim.Tryz.ty_und4 Go.Sim.Tryz.ty_load5 Go.Sim.Tryz.ty_zero5 Go.Sim.Tryz.ty_und5 Go.Sim.Tryz.ty_load9 Go.Sim.Tryz.ty_zero9 Go.Sim.Tryz.ty_und9 Go.Sim.Tryz.ty_load21 Go.Sim.Tryz.ty_zero21 Go.Sim.Tryz.ty_und21 Go.Sim.Tryz.ty_load22 Go.Sim.Tryz.ty_zero22 Go.Sim.Tryz.ty_el22 Go.Sim.Tryz.ty_zeroE22 Go.Sim.Tryz.ty_load24 Go.Sim.Tryz.ty_zero24 Go.Sim.Tryz.ty_fld24_0 Go.Sim.Tryz.ty_part24_0 Go.Sim.Tryz.ty_struct24 Go.Sim.Tryz.ty_load25 Go.Sim.Tryz.ty_zero25 Go.Sim.Tryz.ty_el25 Go.Sim.Tryz.ty_zeroE25 Go.Sim.Tryz.ty_load26 Go.Sim.Tryz.ty_zero26 Go.Sim.Tryz.ty_el26 Go.Sim.Tryz.ty_zeroE26 Go.Sim.Tryz.ty_load28 Go.Sim.Tryz.ty_zero28 Go.Sim.Tryz.ty_fld28_0 Go.Sim.Tryz.ty_part28_0 Go.Sim.Tryz.ty_fld28_1 Go.Sim.Tryz.ty_part28_1 Go.Sim.Tryz.ty_fld28_2 Go.Sim.Tryz.ty_part28_2 Go.Sim.Tryz.ty_fld28_3 Go.Sim.Tryz.ty_part28_3 Go.Sim.Tryz.ty_fld28_4 Go.Sim.Tryz.ty_part28_4 Go.Sim.Tryz.ty_fld28_5 Go.Sim.Tryz.ty_part28_5 Go.Sim.Tryz.ty_struct28 Go.Sim.Tryz.ty_load29 Go.Sim.Tryz.ty_zero29 Go.Sim.Tryz.ty_arr29 Go.Sim.Tryz.ty_part29_0 Go.Sim.Tryz.ty_part29_1 Go.Sim.Tryz.ty_struct29 Go.Sim.Tryz.ty_load30 Go.Sim.Tryz.ty_zero30 Go.Sim.Tryz.ty_el30 Go.Sim.Tryz.ty_zeroE30 Go.Sim.Tryz.ty_load32 Go.Sim.Tryz.ty_zero32 Go.Sim.Tryz.ty_fld32_0 Go.Sim.Tryz.ty_part32_0 Go.Sim.Tryz.ty_fld32_1 Go.Sim.Tryz.ty_part32_1 Go.Sim.Tryz.ty_fld32_2 Go.Sim.Tryz.ty_part32_2 Go.Sim.Tryz.ty_fld32_3 Go.Sim.Tryz.ty_part32_3 Go.Sim.Tryz.ty_struct32 Go.Sim.Tryz.ty_load37 Go.Sim.Tryz.ty_zero37 Go.Sim.Tryz.ty_el37 Go.Sim.Tryz.ty_zeroE37 Go.Sim.Tryz.ty_load39 Go.Sim.Tryz.ty_zero39 Go.Sim.Tryz.ty_fld39_0 Go.Sim.Tryz.ty_part39_0 Go.Sim.Tryz.ty_fld39_1 Go.Sim.Tryz.ty_part39_1 Go.Sim.Tryz.ty_struct39 Go.Sim.Tryz.ty_load52 Go.Sim.Tryz.ty_zero52 Go.Sim.Tryz.ty_fld52_0 Go.Sim.Tryz.ty_part52_0 Go.Sim.Tryz.ty_fld52_1 Go.Sim.Tryz.ty_part52_1 Go.Sim.Tryz.ty_fld52_2 Go.Sim.Tryz.ty_part52_2 Go.Sim.Tryz.ty_struct52 Go.Sim.Tryz.ty_load55 Go.Sim.Tryz.ty_zero55 Go.Sim.Tryz.ty_load56 Go.Sim.Tryz.ty_zero56 Go.Sim.Tryz.ty_load70 Go.Sim.Tryz.ty_zero70 Go.Sim.Tryz.ty_el70 Go.Sim.Tryz.ty_zeroE70 Go.Sim.Tryz.ty_load76 Go.Sim.Tryz.ty_zero76 Go.Sim.Tryz.ty_el76 Go.Sim.Tryz.ty_zeroE76 Go.Sim.Tryz.ty_load78 Go.Sim.Tryz.ty_zero78 Go.Sim.Tryz.ty_fld78_0 Go.Sim.Tryz.ty_part78_0 Go.Sim.Tryz.ty_struct78 Go.Sim.Tryz.ty_load84 Go.Sim.Tryz.ty_zero84 Go.Sim.Tryz.ty_fld84_0 Go.Sim.Tryz.ty_part84_0 Go.Sim.Tryz.ty_struct84 Go.Sim.Tryz.ty_load85 Go.Sim.Tryz.ty_zero85 Go.Sim.Tryz.ty_load92 Go.Sim.Tryz.ty_zero92 Go.Sim.Tryz.ty_load93 Go.Sim.Tryz.ty_zero93 Go.Sim.Tryz.ty_und93 Go.Sim.Tryz.ty_load95 Go.Sim.Tryz.ty_zero95 Go.Sim.Tryz.ty_und95 Go.Sim.Tryz.ty_load104 Go.Sim.Tryz.ty_zero104 Go.Sim.Tryz.ty_fld104_0 Go.Sim.Tryz.ty_part104_0 Go.Sim.Tryz.ty_fld104_1 Go.Sim.Tryz.ty_part104_1 Go.Sim.Tryz.ty_struct104 Go.Sim.Tryz.ty_load110 Go.Sim.Tryz.ty_zero110 Go.Sim.Tryz.ty_fld110_0 Go.Sim.Tryz.ty_part110_0 Go.Sim.Tryz.ty_fld110_1 Go.Sim.Tryz.ty_part110_1 Go.Sim.Tryz.ty_struct110 Go.Sim.Tryz.ty_load112 Go.Sim.Tryz.ty_zero112 Go.Sim.Tryz.ty_fld112_0 Go.Sim.Tryz.ty_part112_0 Go.Sim.Tryz.ty_fld112_1 Go.Sim.Tryz.ty_part112_1 Go.Sim.Tryz.ty_fld112_2 Go.Sim.Tryz.ty_part112_2 Go.Sim.Tryz.ty_fld112_3 Go.Sim.Tryz.ty_part112_3 Go.Sim.Tryz.ty_struct112 Go.Sim.Tryz.ty_load119 Go.Sim.Tryz.ty_zero119 Go.Sim.Tryz.ty_load123 Go.Sim.Tryz.ty_zero123 Go.Sim.Tryz.ty_fld123_0 Go.Sim.Tryz.ty_part123_0 Go.Sim.Tryz.ty_fld123_1 Go.Sim.Tryz.ty_part123_1 Go.Sim.Tryz.ty_struct123 Go.Sim.Tryz.ty_load124 Go.Sim.Tryz.ty_zero124 Go.Sim.Tryz.ty_el124 Go.Sim.Tryz.ty_zeroE124 Go.Sim.Tryz.ty_load125 Go.Sim.Tryz.ty_zero125 Go.Sim.Tryz.ty_el125 Go.Sim.Tryz.ty_zeroE125 Go.Sim.Tryz.ty_load128 Go.Sim.Tryz.ty_zero128 Go.Sim.Tryz.ty_fld128_0 Go.Sim.Tryz.ty_part128_0 Go.Sim.Tryz.ty_struct128 Go.Sim.Tryz.ty_load135 Go.Sim.Tryz.ty_zero135 Go.Sim.Tryz.ty_und135 Go.Sim.Tryz.ty_load140 Go.Sim.Tryz.ty_zero140 Go.Sim.Tryz.ty_load141 Go.Sim.Tryz.ty_zero141 Go.Sim.Tryz.ty_el141 Go.Sim.Tryz.ty_zeroE141 Go.Sim.Tryz.ty_load148 Go.Sim.Tryz.ty_zero148 Go.Sim.Tryz.ty_load151 Go.Sim.Tryz.ty_zero151 Go.Sim.Tryz.ty_load159 Go.Sim.Tryz.ty_zero159 Go.Sim.Tryz.ty_und159 Go.Sim.Tryz.ty_vzero128 Go.Sim.Tryz.ty_load168 Go.Sim.Tryz.ty_zero168 Go.Sim.Tryz.ty_fld168_0 Go.Sim.Tryz.ty_part168_0 Go.Sim.Tryz.ty_fld168_1 Go.Sim.Tryz.ty_part168_1 Go.Sim.Tryz.ty_fld168_2 Go.Sim.Tryz.ty_part168_2 Go.Sim.Tryz.ty_struct168 Go.Sim.Tryz.ty_load170 Go.Sim.Tryz.ty_zero170 Go.Sim.Tryz.ty_load172 Go.Sim.Tryz.ty_zero172 Go.Sim.Tryz.ty_und172 Go.Sim.Tryz.ty_load179 Go.Sim.Tryz.ty_zero179 Go.Sim.Tryz.ty_und179 Go.Sim.Tryz.ty_load181 Go.Sim.Tryz.ty_zero181 Go.Sim.Tryz.ty_load184 Go.Sim.Tryz.ty_zero184 Go.Sim.Tryz.ty_und184 Go.Sim.Tryz.ty_load188 Go.Sim.Tryz.ty_zero188 Go.Sim.Tryz.ty_load191 Go.Sim.Tryz.ty_zero191
section
attribute [local push_cast] encPl_mk encPl_take encPl_len encPl_one encPls_pure encPl_pure encT_pure encT_len encT_one encT_take encCh_take encCh_drop encCh_len encCh_one encCh_pure encChs_pure
theorem encPl_drop (x:Pl):(encPl x).drop 5 = []:=List.drop_of_length_le (by rw [encPl_len]; exact Nat.le_refl _)
def accC (W:Pl → List Ch) (ws:List Pl) (k:Nat):List Ch:=(ws.take k).flatMap W
theorem accC_zero (W:Pl → List Ch) (ws:List Pl):accC W ws 0 = []:=rfl
theorem accC_snoc (W:Pl → List Ch) (ws:List Pl) {k:Nat} (h:k < ws.length):accC W ws (k + 1) = accC W ws k ++ W ws[k]:=by
 rw [accC,accC,List.take_succ_eq_append_getElem h,List.flatMap_append]
 congr 1
 rw [List.flatMap_cons,List.flatMap_nil,List.append_nil]
theorem wayC_le (c:List Df) (q:Qy) (f g:Int → Ch) (a b col:Int) (w:Pl):(wayC c q f g a b col w).length ≤ 1:=by
 unfold wayC; split <;> simp
theorem accC_len {W:Pl → List Ch} (hW:∀ w,(W w).length ≤ 1) (ws:List Pl) (k:Nat):(accC W ws k).length ≤ k:=by
 induction k with
 | zero=>rw [accC_zero]; simp
 | succ k ih =>
  by_cases h:k < ws.length
  ·rw [accC_snoc W ws h,List.length_append]
   have:=hW ws[k]
   omega
  ·have:accC W ws (k + 1) = accC W ws k:=by rw [accC,accC,List.take_of_length_le (by omega),List.take_of_length_le (by omega)]
   rw [this]
   omega
theorem ways_len (q:Qy) (hq:q.Ok) (a b col:Int):(waysP q a b col).length ≤ 30 + 2 * (q.pairs a b).length:=by
 have h2:=innerL_len 2 col (q.pairs a b)
 have h3:=innerL_len 3 col (q.pairs a b)
 unfold waysP
 rw [List.length_append,List.length_append,List.length_singleton]
 omega
set_option maxHeartbeats 16000000 in
theorem bestJoin_ok (c:List Df) (hcl:c.length ≤ 1000000) (q:Qy) (hq:q.Ok) (hp8:q.p.length ≤ 8) (d:Nat) (a b:Tr) (hao:a.Ok) (hbo:b.Ok) (col:Int) (ha:∀ x,BestAt c q d a x) (hb:∀ x,BestAt c q d b x) (hn:col ≠ -1 → BestAt c q (d + 1) (.join a b) (-1)):BestAt c q (d + 1) (.join a b) col:=by
 have hto:(Tr.join a b).Ok:=.mk (by simp) (by
  intro x hx
  simp only [List.mem_cons,List.not_mem_nil,or_false] at hx
  rcases hx with rfl | rfl
  ·exact hao
  ·exact hbo)
 have hSa:=SetT_ok a hao
 have hSb:=SetT_ok b hbo
 have hSt:=SetT_ok _ hto
 have hWs:=Ways_ok q hq a.set b.set col
 have hwl:(waysP q a.set b.set col).length ≤ 100:=by
  have h1:=ways_len q hq a.set b.set col
  have h2:=pairs_len q a.set b.set
  have h3:(q.new a.set b.set).length ≤ q.p.length:=idxF_lt _ _
  omega
 have hcand:candC c q (bestF c q d) (.join a b) col = accC (wayC c q (bestF c q d a) (bestF c q d b) a.set b.set col) (waysP q a.set b.set col) (waysP q a.set b.set col).length:=by
  rw [accC,List.take_length]; rfl
 have hv:bestF c q (d + 1) (.join a b) col = leastC (candC c q (bestF c q d) (.join a b) col ++ (if col = -1 then [] else [sortC c q (.join a b) col (bestF c q (d + 1) (.join a b) (-1))])):=by
  rw [bestF]
  by_cases h:col = -1
  ·subst h
   rw [if_pos rfl,if_pos rfl,List.append_nil]
  ·rw [if_neg h,if_neg h,bestF,if_pos rfl]
 rw [hcand] at hv
 have hWl:=wayC_le c q (bestF c q d a) (bestF c q d b) a.set b.set col
 have hCols:=ColsQ_ok c hcl q hq a.set
 have hcl2:(q.cols c a.set).length ≤ 1000000:=by
  unfold Qy.cols
  split
  ·have:=colsIn_le c q (bitI a.set); omega
  ·simp
 have hOw:=fun w=>ownW_ok c hcl q hq w a.set b.set
 have hSo:=fun n=>Sorted_ok c hcl q hq (Tr.join a b).set n
 have hWdef:∀ w,wayC c q (bestF c q d a) (bestF c q d b) a.set b.set col w = (if (mustP w col).1 ≠ -1 ∧ (q.cols c a.set).contains (mustP w col).1 = false then [] else [(addK [(bestF c q d a (mustP w col).1).1,(bestF c q d b (mustP w col).2).1,ownW c q w a.set b.set], .mk w.op w.occ w.a w.b [(bestF c q d a (mustP w col).1).2,(bestF c q d b (mustP w col).2).2])]):=fun w=>rfl
 unfold BestAt at ha hb hn ⊢
 rw [hv]
 generalize wayC c q (bestF c q d a) (bestF c q d b) a.set b.set col = W at hWl hWdef hcand hv ⊢
 generalize waysP q a.set b.set col = ws at hWs hwl hcand hv ⊢
 have hSj:∀ n,sortC c q (.join a b) col n = (sortedC c q (Tr.join a b).set n.1, .mk 4 0 col 0 [n.2]):=fun n=>rfl
 generalize (Tr.join a b).set = sj at hSt hSo hSj
 generalize a.set = sa at hSa hWs hCols hcl2 hOw hWdef
 generalize b.set = sb at hSb hWs hOw hWdef
 clear hcand hv
 have hg0:∀ z:List AV,([a,b].map encT).getD 0 z = encT a:=fun _=>rfl
 have hg1:∀ z:List AV,([a,b].map encT).getD 1 z = encT b:=fun _=>rfl
 generalize bestF c q (d + 1) (a.join b) (-1) = xn at hn ⊢
 have hsj:=hSj xn
 obtain ⟨n,p⟩:=xn
 dsimp only at hsj
 rw [hsj]
 have hSo':=hSo n
 generalize sortedC c q sj n = m at hSo' ⊢
 rw [Tr.join,encT_mk,List.map_cons,List.map_cons,List.map_nil] at hSt hn ⊢
 refine quiet_of (rs:=#[.cell 8 104]) Go.Proofs.Tryz.func98 rfl rfl rfl mixed rfl rfl fun H hs=>?_
 simp -implicitDefEqProofs only [push_cast,Nat.reduceAdd,Nat.reduceSub,Nat.reduceMul,Nat.reduceLT,Nat.reduceLeDiff,Nat.reduceEqDiff,Nat.reduceBEq,reduceCtorEq,reduceIte,Int.reduceLE,Int.reduceLT,Int.reduceNeg,Int.reduceToNat,encQ,Int.reduceEq,if_false,if_true,or_true,or_false,true_or,false_or,List.map_cons,List.map_nil,List.length_cons,List.length_nil,Int.reduceAdd,List.set_cons_zero,List.set_cons_succ,List.cons_append,List.nil_append]
 refine areg_at 12 (by kernel_rfl) (by kernel_rfl) ?_
 simp -implicitDefEqProofs only [push_cast,Nat.reduceAdd,Nat.reduceSub,Nat.reduceMul,Nat.reduceLT,Nat.reduceLeDiff,Nat.reduceEqDiff,Nat.reduceBEq,reduceCtorEq,reduceIte,Int.reduceLE,Int.reduceLT,Int.reduceNeg,Int.reduceToNat,encQ,Int.reduceEq,if_false,if_true,or_true,or_false,true_or,false_or,List.map_cons,List.map_nil,List.length_cons,List.length_nil,Int.reduceAdd,List.set_cons_zero,List.set_cons_succ,List.cons_append,List.nil_append]
 refine ahdq hSa ?_
 simp -implicitDefEqProofs only [push_cast,Nat.reduceAdd,Nat.reduceSub,Nat.reduceMul,Nat.reduceLT,Nat.reduceLeDiff,Nat.reduceEqDiff,Nat.reduceBEq,reduceCtorEq,reduceIte,Int.reduceLE,Int.reduceLT,Int.reduceNeg,Int.reduceToNat,encQ,Int.reduceEq,if_false,if_true,or_true,or_false,true_or,false_or,List.map_cons,List.map_nil,List.length_cons,List.length_nil,Int.reduceAdd,List.set_cons_zero,List.set_cons_succ,List.cons_append,List.nil_append]
 refine ahdq hSb ?_
 simp -implicitDefEqProofs only [push_cast,Nat.reduceAdd,Nat.reduceSub,Nat.reduceMul,Nat.reduceLT,Nat.reduceLeDiff,Nat.reduceEqDiff,Nat.reduceBEq,reduceCtorEq,reduceIte,Int.reduceLE,Int.reduceLT,Int.reduceNeg,Int.reduceToNat,encQ,Int.reduceEq,if_false,if_true,or_true,or_false,true_or,false_or,List.map_cons,List.map_nil,List.length_cons,List.length_nil,Int.reduceAdd,List.set_cons_zero,List.set_cons_succ,List.cons_append,List.nil_append]
 refine callq hWs ?_
 simp -implicitDefEqProofs only [push_cast,Nat.reduceAdd,Nat.reduceSub,Nat.reduceMul,Nat.reduceLT,Nat.reduceLeDiff,Nat.reduceEqDiff,Nat.reduceBEq,reduceCtorEq,reduceIte,Int.reduceLE,Int.reduceLT,Int.reduceNeg,Int.reduceToNat,encQ,Int.reduceEq,if_false,if_true,or_true,or_false,true_or,false_or,List.map_cons,List.map_nil,List.length_cons,List.length_nil,Int.reduceAdd,List.set_cons_zero,List.set_cons_succ,List.cons_append,List.nil_append]
 refine loop_at hs (σ:=Nat) (fun k=>k ≤ ws.length) (fun k=>ws.length - k)
  (fun k=>[(62, .int k),(61, .int ws.length),(60, .sl (ws.map encPl)),(12, .int sa),(13, .int sb),(10, .clo (.func 144) [] [.ptr (H.nxt + 4) 1 0 0]),(9, .ptr (H.nxt + 4) 1 0 0),(3, .int col),(4, .ptr (H.nxt + 0) 1 0 0),(5, .ptr (H.nxt + 1) 6 0 0),(6, .ptr (H.nxt + 2) 2 0 0),(8, .ptr (H.nxt + 3) 6 0 0)])
  (fun k=>[some (.cells 1 [[.sl (c.map encD)]] 0),some (.cells 6 [encQ q] 0),some (.cells 2 [[.int 0, .sl [encT a,encT b]]] 0),some (.cells 6 [encCh (0,plO)] 0),some (.cells 1 [[.rsl (H.nxt + 5) 6 0 (accC W ws k).length]] 0),some (.cells 6 ((accC W ws k).map encCh) 0)]) [some 0,some 1,some 2,some 3,some 4,none] 0 (by omega) rfl ?_ ?_ ?_
 ·(try simp -implicitDefEqProofs only [push_cast,Nat.reduceAdd,Nat.reduceSub,Nat.reduceMul,Nat.reduceLT,Nat.reduceLeDiff,Nat.reduceEqDiff,Nat.reduceBEq,reduceCtorEq,reduceIte,Int.reduceLE,Int.reduceLT,Int.reduceNeg,Int.reduceToNat,encPls_pure,encQ,encDs_pure,encEs_pure,encIs_pure,Int.reduceEq,if_false,if_true,or_true,or_false,true_or,false_or,List.map_cons,List.map_nil,List.length_cons,List.length_nil,Int.reduceAdd,List.set_cons_zero,List.set_cons_succ,List.cons_append,List.nil_append])
 ·(try simp -implicitDefEqProofs only [push_cast,Nat.reduceAdd,Nat.reduceSub,Nat.reduceMul,Nat.reduceLT,Nat.reduceLeDiff,Nat.reduceEqDiff,Nat.reduceBEq,reduceCtorEq,reduceIte,Int.reduceLE,Int.reduceLT,Int.reduceNeg,Int.reduceToNat,encPls_pure,encQ,encDs_pure,encEs_pure,encIs_pure,accC_zero,encCh,plO,Int.reduceEq,if_false,if_true,or_true,or_false,true_or,false_or,List.map_cons,List.map_nil,List.length_cons,List.length_nil,Int.reduceAdd,List.set_cons_zero,List.set_cons_succ,List.cons_append,List.nil_append])
 intro k hk
 have hal:=accC_len hWl ws k
 by_cases hkl:k < ws.length
 ·have hk':((k:Int) < (ws.length:Int)) = True:=by simp; omega
  have hk0:(0 ≤ (k:Int)) = True:=by simp
  have hsn:=accC_snoc W ws hkl
  have hwd:=hWdef ws[k]
  have hget:=encPls_get ws k hkl
  generalize ws[k] = w at hsn hwd hget
  have hMu:=must_ok w col
  have hax:=ha (mustP w col).1
  have hby:=hb (mustP w col).2
  have hCo:=containsI_ok _ hcl2 (mustP w col).1
  obtain ⟨x,y,hxy⟩:∃ x y,mustP w col = (x,y):=⟨_,_,rfl⟩
  rw [hxy] at hwd hMu hax hby hCo
  dsimp only at hwd hMu hax hby hCo
  generalize bestF c q d a x = l at hwd hax
  generalize bestF c q d b y = r at hwd hby
  obtain ⟨ln,lp⟩:=l
  obtain ⟨rn,rp⟩:=r
  dsimp only at hwd
  have hOw':=hOw (.mk w.op w.occ w.a w.b [lp,rp])
  have hoe:ownW c q (.mk w.op w.occ w.a w.b [lp,rp]) sa sb = ownW c q w sa sb:=rfl
  rw [hoe] at hOw'
  generalize ownW c q w sa sb = own at hwd hOw'
  generalize hrow:accC W ws k = row at hsn hal ⊢
  obtain ⟨op,occ,wa,wb,wl⟩:=w
  simp only [Pl.op,Pl.occ,Pl.a,Pl.b] at hwd hOw'
  rw [encPl_mk] at hMu hget
  by_cases hskip:x ≠ -1 ∧ (q.cols c sa).contains x = false
  ·rw [if_pos hskip] at hwd
   rw [hwd,List.append_nil] at hsn
   have hx1:(x = -1) = False:=by simp [hskip.1]
   simp -implicitDefEqProofs only [push_cast,Nat.reduceAdd,Nat.reduceSub,Nat.reduceMul,Nat.reduceLT,Nat.reduceLeDiff,Nat.reduceEqDiff,Nat.reduceBEq,reduceCtorEq,reduceIte,Int.reduceLE,Int.reduceLT,Int.reduceNeg,Int.reduceToNat,encQ,hk',hk0,hget,Int.reduceEq,if_false,if_true,or_true,or_false,true_or,false_or,List.map_cons,List.map_nil,List.length_cons,List.length_nil,Int.reduceAdd,List.set_cons_zero,List.set_cons_succ,List.cons_append,List.nil_append]
   refine callq hMu ?_
   simp -implicitDefEqProofs only [push_cast,Nat.reduceAdd,Nat.reduceSub,Nat.reduceMul,Nat.reduceLT,Nat.reduceLeDiff,Nat.reduceEqDiff,Nat.reduceBEq,reduceCtorEq,reduceIte,Int.reduceLE,Int.reduceLT,Int.reduceNeg,Int.reduceToNat,encQ,hx1,Int.reduceEq,if_false,if_true,or_true,or_false,true_or,false_or,List.map_cons,List.map_nil,List.length_cons,List.length_nil,Int.reduceAdd,List.set_cons_zero,List.set_cons_succ,List.cons_append,List.nil_append]
   refine gcallq' (.sl ((q.cols c sa).map encI)) (fun h=>by simp) (fun _=>hCols) ?_
   simp -implicitDefEqProofs only [push_cast,Nat.reduceAdd,Nat.reduceSub,Nat.reduceMul,Nat.reduceLT,Nat.reduceLeDiff,Nat.reduceEqDiff,Nat.reduceBEq,reduceCtorEq,reduceIte,Int.reduceLE,Int.reduceLT,Int.reduceNeg,Int.reduceToNat,encQ,hx1,Int.reduceEq,if_false,if_true,or_true,or_false,true_or,false_or,List.map_cons,List.map_nil,List.length_cons,List.length_nil,Int.reduceAdd,List.set_cons_zero,List.set_cons_succ,List.cons_append,List.nil_append]
   refine gcallq' (.bool false) (fun h=>by simp) (fun _=>by rw [← hskip.2]; exact hCo) ?_
   simp -implicitDefEqProofs only [push_cast,Nat.reduceAdd,Nat.reduceSub,Nat.reduceMul,Nat.reduceLT,Nat.reduceLeDiff,Nat.reduceEqDiff,Nat.reduceBEq,reduceCtorEq,reduceIte,Int.reduceLE,Int.reduceLT,Int.reduceNeg,Int.reduceToNat,encQ,hx1,Int.reduceEq,if_false,if_true,or_true,or_false,true_or,false_or,List.map_cons,List.map_nil,List.length_cons,List.length_nil,Int.reduceAdd,List.set_cons_zero,List.set_cons_succ,List.cons_append,List.nil_append]
   rw [wrap64 (n:=(k:Int) + 1) (by omega) (by omega)]
   refine next_at [some 0,some 1,some 2,some 3,some 4,some 5] (k + 1) (by omega) (by omega) rfl ?_ ?_
   ·(try simp -implicitDefEqProofs only [push_cast,Nat.reduceAdd,Nat.reduceSub,Nat.reduceMul,Nat.reduceLT,Nat.reduceLeDiff,Nat.reduceEqDiff,Nat.reduceBEq,reduceCtorEq,reduceIte,Int.reduceLE,Int.reduceLT,Int.reduceNeg,Int.reduceToNat,hsn,encPls_pure,encQ,encDs_pure,encEs_pure,encIs_pure,Int.reduceEq,if_false,if_true,or_true,or_false,true_or,false_or,List.map_cons,List.map_nil,List.length_cons,List.length_nil,Int.reduceAdd,List.set_cons_zero,List.set_cons_succ,List.cons_append,List.nil_append])
   ·(try simp -implicitDefEqProofs only [push_cast,Nat.reduceAdd,Nat.reduceSub,Nat.reduceMul,Nat.reduceLT,Nat.reduceLeDiff,Nat.reduceEqDiff,Nat.reduceBEq,reduceCtorEq,reduceIte,Int.reduceLE,Int.reduceLT,Int.reduceNeg,Int.reduceToNat,hsn,encPls_pure,encQ,encDs_pure,encEs_pure,encIs_pure,Int.reduceEq,if_false,if_true,or_true,or_false,true_or,false_or,List.map_cons,List.map_nil,List.length_cons,List.length_nil,Int.reduceAdd,List.set_cons_zero,List.set_cons_succ,List.cons_append,List.nil_append])
    exact encChs_all6 _
  ·rw [if_neg hskip] at hwd
   rw [hwd] at hsn
   have hcnd:(!decide (x = -1) && !(q.cols c sa).contains x) = false:=by
    by_cases h1:x = -1
    ·simp [h1]
    ·have:(q.cols c sa).contains x = true:=by
      rcases Bool.eq_false_or_eq_true ((q.cols c sa).contains x) with h2 | h2
      ·exact h2
      ·exact absurd ⟨h1,h2⟩ hskip
     rw [this]; simp
   simp -implicitDefEqProofs only [push_cast,Nat.reduceAdd,Nat.reduceSub,Nat.reduceMul,Nat.reduceLT,Nat.reduceLeDiff,Nat.reduceEqDiff,Nat.reduceBEq,reduceCtorEq,reduceIte,Int.reduceLE,Int.reduceLT,Int.reduceNeg,Int.reduceToNat,encQ,hk',hk0,hget,Int.reduceEq,if_false,if_true,or_true,or_false,true_or,false_or,List.map_cons,List.map_nil,List.length_cons,List.length_nil,Int.reduceAdd,List.set_cons_zero,List.set_cons_succ,List.cons_append,List.nil_append]
   refine callq hMu ?_
   simp -implicitDefEqProofs only [push_cast,Nat.reduceAdd,Nat.reduceSub,Nat.reduceMul,Nat.reduceLT,Nat.reduceLeDiff,Nat.reduceEqDiff,Nat.reduceBEq,reduceCtorEq,reduceIte,Int.reduceLE,Int.reduceLT,Int.reduceNeg,Int.reduceToNat,encQ,Int.reduceEq,if_false,if_true,or_true,or_false,true_or,false_or,List.map_cons,List.map_nil,List.length_cons,List.length_nil,Int.reduceAdd,List.set_cons_zero,List.set_cons_succ,List.cons_append,List.nil_append]
   refine gcallq' (.sl ((q.cols c sa).map encI)) (fun h=>by simpa using h) (fun _=>hCols) ?_
   simp -implicitDefEqProofs only [push_cast,Nat.reduceAdd,Nat.reduceSub,Nat.reduceMul,Nat.reduceLT,Nat.reduceLeDiff,Nat.reduceEqDiff,Nat.reduceBEq,reduceCtorEq,reduceIte,Int.reduceLE,Int.reduceLT,Int.reduceNeg,Int.reduceToNat,encQ,Int.reduceEq,if_false,if_true,or_true,or_false,true_or,false_or,List.map_cons,List.map_nil,List.length_cons,List.length_nil,Int.reduceAdd,List.set_cons_zero,List.set_cons_succ,List.cons_append,List.nil_append]
   refine gcallq' (.bool ((q.cols c sa).contains x)) (fun h=>by simpa using h) (fun _=>hCo) ?_
   simp -implicitDefEqProofs only [push_cast,Nat.reduceAdd,Nat.reduceSub,Nat.reduceMul,Nat.reduceLT,Nat.reduceLeDiff,Nat.reduceEqDiff,Nat.reduceBEq,reduceCtorEq,reduceIte,Int.reduceLE,Int.reduceLT,Int.reduceNeg,Int.reduceToNat,encQ,Int.reduceEq,if_false,if_true,or_true,or_false,true_or,false_or,List.map_cons,List.map_nil,List.length_cons,List.length_nil,Int.reduceAdd,List.set_cons_zero,List.set_cons_succ,List.cons_append,List.nil_append,hcnd]
   refine areg_at 20 (by kernel_rfl) (by kernel_rfl) ?_
   simp -implicitDefEqProofs only [push_cast,Nat.reduceAdd,Nat.reduceSub,Nat.reduceMul,Nat.reduceLT,Nat.reduceLeDiff,Nat.reduceEqDiff,Nat.reduceBEq,reduceCtorEq,reduceIte,Int.reduceLE,Int.reduceLT,Int.reduceNeg,Int.reduceToNat,encQ,Int.reduceEq,if_false,if_true,or_true,or_false,true_or,false_or,List.map_cons,List.map_nil,List.length_cons,List.length_nil,Int.reduceAdd,List.set_cons_zero,List.set_cons_succ,List.cons_append,List.nil_append]
   refine ahdq hax ?_
   simp -implicitDefEqProofs only [push_cast,Nat.reduceAdd,Nat.reduceSub,Nat.reduceMul,Nat.reduceLT,Nat.reduceLeDiff,Nat.reduceEqDiff,Nat.reduceBEq,reduceCtorEq,reduceIte,Int.reduceLE,Int.reduceLT,Int.reduceNeg,Int.reduceToNat,encQ,Int.reduceEq,if_false,if_true,or_true,or_false,true_or,false_or,List.map_cons,List.map_nil,List.length_cons,List.length_nil,Int.reduceAdd,List.set_cons_zero,List.set_cons_succ,List.cons_append,List.nil_append]
   refine ahdq hby ?_
   simp -implicitDefEqProofs only [push_cast,Nat.reduceAdd,Nat.reduceSub,Nat.reduceMul,Nat.reduceLT,Nat.reduceLeDiff,Nat.reduceEqDiff,Nat.reduceBEq,reduceCtorEq,reduceIte,Int.reduceLE,Int.reduceLT,Int.reduceNeg,Int.reduceToNat,encQ,encCh,Int.reduceEq,if_false,if_true,or_true,or_false,true_or,false_or,List.map_cons,List.map_nil,List.length_cons,List.length_nil,Int.reduceAdd,List.set_cons_zero,List.set_cons_succ,List.cons_append,List.nil_append]
   have hA:=AddK_ok [ln,rn,own] (by simp)
   refine areg_wklink hs [116] 14 [(62, .int k),(61, .int ws.length),(60, .sl (ws.map encPl)),(12, .int sa),(13, .int sb),(10, .clo (.func 144) [] [.ptr (H.nxt + 4) 1 0 0]),(9, .ptr (H.nxt + 4) 1 0 0),(3, .int col),(4, .ptr (H.nxt + 0) 1 0 0),(5, .ptr (H.nxt + 1) 6 0 0),(6, .ptr (H.nxt + 2) 2 0 0),(8, .ptr (H.nxt + 3) 6 0 0),(15, .ptr (H.nxt + 6) 5 0 0),(18, .ptr (H.nxt + 7) 6 0 0),(19, .ptr (H.nxt + 8) 6 0 0)]
    [some (.cells 1 [[.sl (c.map encD)]] 0),some (.cells 6 [encQ q] 0),some (.cells 2 [[.int 0, .sl [encT a,encT b]]] 0),some (.cells 6 [encCh (0,plO)] 0),some (.cells 1 [[.rsl (H.nxt + 5) 6 0 row.length]] 0),some (.cells 6 (row.map encCh) 0),some (.cells 5 [encPl (.mk op occ wa wb [lp,rp])] 0),some (.cells 6 [encCh (ln,lp)] 0),some (.cells 6 [encCh (rn,rp)] 0)] (by kernel_rfl) (by kernel_rfl) ?_ ?_ ?_
   ·(try simp -implicitDefEqProofs only [push_cast,Nat.reduceAdd,Nat.reduceSub,Nat.reduceMul,Nat.reduceLT,Nat.reduceLeDiff,Nat.reduceEqDiff,Nat.reduceBEq,reduceCtorEq,reduceIte,Int.reduceLE,Int.reduceLT,Int.reduceNeg,Int.reduceToNat,encPls_pure,encQ,encDs_pure,encEs_pure,encIs_pure,Int.reduceEq,if_false,if_true,or_true,or_false,true_or,false_or,List.map_cons,List.map_nil,List.length_cons,List.length_nil,Int.reduceAdd,List.set_cons_zero,List.set_cons_succ,List.cons_append,List.nil_append])
   ·(try simp -implicitDefEqProofs only [push_cast,Nat.reduceAdd,Nat.reduceSub,Nat.reduceMul,Nat.reduceLT,Nat.reduceLeDiff,Nat.reduceEqDiff,Nat.reduceBEq,reduceCtorEq,reduceIte,Int.reduceLE,Int.reduceLT,Int.reduceNeg,Int.reduceToNat,encPls_pure,encQ,encDs_pure,encEs_pure,encIs_pure,encCh,Int.reduceEq,if_false,if_true,or_true,or_false,true_or,false_or,List.map_cons,List.map_nil,List.length_cons,List.length_nil,Int.reduceAdd,List.set_cons_zero,List.set_cons_succ,List.cons_append,List.nil_append])
    exact encChs_all6 _
   rw [encPl_mk,List.map_cons,List.map_cons,List.map_nil] at hOw'
   simp -implicitDefEqProofs only [push_cast,Nat.reduceAdd,Nat.reduceSub,Nat.reduceMul,Nat.reduceLT,Nat.reduceLeDiff,Nat.reduceEqDiff,Nat.reduceBEq,reduceCtorEq,reduceIte,Int.reduceLE,Int.reduceLT,Int.reduceNeg,Int.reduceToNat,encQ,encCh,Int.reduceEq,if_false,if_true,or_true,or_false,true_or,false_or,List.map_cons,List.map_nil,List.length_cons,List.length_nil,Int.reduceAdd,List.set_cons_zero,List.set_cons_succ,List.cons_append,List.nil_append]
   refine ahdq hOw' ?_
   simp -implicitDefEqProofs only [push_cast,Nat.reduceAdd,Nat.reduceSub,Nat.reduceMul,Nat.reduceLT,Nat.reduceLeDiff,Nat.reduceEqDiff,Nat.reduceBEq,reduceCtorEq,reduceIte,Int.reduceLE,Int.reduceLT,Int.reduceNeg,Int.reduceToNat,encQ,encCh,Int.reduceEq,if_false,if_true,or_true,or_false,true_or,false_or,List.map_cons,List.map_nil,List.length_cons,List.length_nil,Int.reduceAdd,List.set_cons_zero,List.set_cons_succ,List.cons_append,List.nil_append]
   refine ahdq hA ?_
   simp -implicitDefEqProofs only [push_cast,Nat.reduceAdd,Nat.reduceSub,Nat.reduceMul,Nat.reduceLT,Nat.reduceLeDiff,Nat.reduceEqDiff,Nat.reduceBEq,reduceCtorEq,reduceIte,Int.reduceLE,Int.reduceLT,Int.reduceNeg,Int.reduceToNat,encQ,encCh,Int.reduceEq,if_false,if_true,or_true,or_false,true_or,false_or,List.map_cons,List.map_nil,List.length_cons,List.length_nil,Int.reduceAdd,List.set_cons_zero,List.set_cons_succ,List.cons_append,List.nil_append]
   refine told [.int (addK [ln,rn,own]), .agg (encPl (.mk op occ wa wb [lp,rp])), .ptr (H.nxt + 4) 1 0 0] ?_ ?_
   ·(try simp -implicitDefEqProofs only [push_cast,Nat.reduceAdd,Nat.reduceSub,Nat.reduceMul,Nat.reduceLT,Nat.reduceLeDiff,Nat.reduceEqDiff,Nat.reduceBEq,reduceCtorEq,reduceIte,Int.reduceLE,Int.reduceLT,Int.reduceNeg,Int.reduceToNat,Int.reduceEq,if_false,if_true,or_true,or_false,true_or,false_or,List.map_cons,List.map_nil,List.length_cons,List.length_nil,Int.reduceAdd,List.set_cons_zero,List.set_cons_succ,List.cons_append,List.nil_append])
   refine (put_ok row (by omega) (addK [ln,rn,own]) (.mk op occ wa wb [lp,rp]) (H.nxt + 4) (H.nxt + 5) _ (by omega) (by simp [plus_nxt]) (by simp [plus_nxt]) (by rw [plus_obj]; rfl) (by rw [plus_obj]; rfl)).mono ?_
   rintro r H2 ⟨rfl,rfl⟩
   rw [plus_del _ _ 5,plus_set _ _ 4 _ (by simp),plus_plus]
   simp -implicitDefEqProofs only [push_cast,Nat.reduceAdd,Nat.reduceSub,Nat.reduceMul,Nat.reduceLT,Nat.reduceLeDiff,Nat.reduceEqDiff,Nat.reduceBEq,reduceCtorEq,reduceIte,Int.reduceLE,Int.reduceLT,Int.reduceNeg,Int.reduceToNat,encQ,encCh,Nat.add_assoc,Int.reduceEq,if_false,if_true,or_true,or_false,true_or,false_or,List.map_cons,List.map_nil,List.length_cons,List.length_nil,Int.reduceAdd,List.set_cons_zero,List.set_cons_succ,List.cons_append,List.nil_append]
   have hln:(accC W ws (k + 1)).length = row.length + 1:=by rw [hsn,List.length_append]; rfl
   rw [wrap64 (n:=(k:Int) + 1) (by omega) (by omega),← hsn]
   refine next_at [some 0,some 1,some 2,some 3,some 4,some 11] (k + 1) (by omega) (by omega) rfl ?_ ?_
   ·(try simp -implicitDefEqProofs only [push_cast,Nat.reduceAdd,Nat.reduceSub,Nat.reduceMul,Nat.reduceLT,Nat.reduceLeDiff,Nat.reduceEqDiff,Nat.reduceBEq,reduceCtorEq,reduceIte,Int.reduceLE,Int.reduceLT,Int.reduceNeg,Int.reduceToNat,hln,encPls_pure,encQ,encDs_pure,encEs_pure,encIs_pure,Int.reduceEq,if_false,if_true,or_true,or_false,true_or,false_or,List.map_cons,List.map_nil,List.length_cons,List.length_nil,Int.reduceAdd,List.set_cons_zero,List.set_cons_succ,List.cons_append,List.nil_append])
   ·(try simp -implicitDefEqProofs only [push_cast,Nat.reduceAdd,Nat.reduceSub,Nat.reduceMul,Nat.reduceLT,Nat.reduceLeDiff,Nat.reduceEqDiff,Nat.reduceBEq,reduceCtorEq,reduceIte,Int.reduceLE,Int.reduceLT,Int.reduceNeg,Int.reduceToNat,hln,encPls_pure,encQ,encDs_pure,encEs_pure,encIs_pure,Int.reduceEq,if_false,if_true,or_true,or_false,true_or,false_or,List.map_cons,List.map_nil,List.length_cons,List.length_nil,Int.reduceAdd,List.set_cons_zero,List.set_cons_succ,List.cons_append,List.nil_append])
    exact encChs_all6 _
 ·have hk':((k:Int) < (ws.length:Int)) = False:=by simp; omega
  obtain rfl:k = ws.length:=by omega
  generalize accC W ws ws.length = acc at hal ⊢
  by_cases hc:col = -1
  ·subst hc
   rw [if_pos rfl,List.append_nil]
   have hL:=least_ok acc (by omega)
   simp -implicitDefEqProofs only [push_cast,Nat.reduceAdd,Nat.reduceSub,Nat.reduceMul,Nat.reduceLT,Nat.reduceLeDiff,Nat.reduceEqDiff,Nat.reduceBEq,reduceCtorEq,reduceIte,Int.reduceLE,Int.reduceLT,Int.reduceNeg,Int.reduceToNat,encQ,hk',Int.reduceEq,if_false,if_true,or_true,or_false,true_or,false_or,List.map_cons,List.map_nil,List.length_cons,List.length_nil,Int.reduceAdd,List.set_cons_zero,List.set_cons_succ,List.cons_append,List.nil_append]
   have htk:List.take acc.length (acc.map encCh) = acc.map encCh:=List.take_of_length_le (by simp)
   refine fzk H 5 acc.length [.sl (acc.map encCh), .clo (.func 148) [] []] (by rfl) (by omega) (by simp) ?_ ?_
   ·(try simp -implicitDefEqProofs only [push_cast,Nat.reduceAdd,Nat.reduceSub,Nat.reduceMul,Nat.reduceLT,Nat.reduceLeDiff,Nat.reduceEqDiff,Nat.reduceBEq,reduceCtorEq,reduceIte,Int.reduceLE,Int.reduceLT,Int.reduceNeg,Int.reduceToNat,htk,encChs_pure,Int.reduceEq,if_false,if_true,or_true,or_false,true_or,false_or,List.map_cons,List.map_nil,List.length_cons,List.length_nil,Int.reduceAdd,List.set_cons_zero,List.set_cons_succ,List.cons_append,List.nil_append])
   refine callq hL ?_
   simp -implicitDefEqProofs only [push_cast,Nat.reduceAdd,Nat.reduceSub,Nat.reduceMul,Nat.reduceLT,Nat.reduceLeDiff,Nat.reduceEqDiff,Nat.reduceBEq,reduceCtorEq,reduceIte,Int.reduceLE,Int.reduceLT,Int.reduceNeg,Int.reduceToNat,encQ,Int.reduceEq,if_false,if_true,or_true,or_false,true_or,false_or,List.map_cons,List.map_nil,List.length_cons,List.length_nil,Int.reduceAdd,List.set_cons_zero,List.set_cons_succ,List.cons_append,List.nil_append]
  ·rw [if_neg hc]
   have hc1:(col = -1) = False:=by simp [hc]
   have hB:=hn hc
   have hL:=least_ok (acc ++ [(m,Pl.mk 4 0 col 0 [p])]) (by simp; omega)
   simp -implicitDefEqProofs only [push_cast,Nat.reduceAdd,Nat.reduceSub,Nat.reduceMul,Nat.reduceLT,Nat.reduceLeDiff,Nat.reduceEqDiff,Nat.reduceBEq,reduceCtorEq,reduceIte,Int.reduceLE,Int.reduceLT,Int.reduceNeg,Int.reduceToNat,encQ,hk',hc1,Int.reduceEq,if_false,if_true,or_true,or_false,true_or,false_or,List.map_cons,List.map_nil,List.length_cons,List.length_nil,Int.reduceAdd,List.set_cons_zero,List.set_cons_succ,List.cons_append,List.nil_append]
   refine callq hB ?_
   simp -implicitDefEqProofs only [push_cast,Nat.reduceAdd,Nat.reduceSub,Nat.reduceMul,Nat.reduceLT,Nat.reduceLeDiff,Nat.reduceEqDiff,Nat.reduceBEq,reduceCtorEq,reduceIte,Int.reduceLE,Int.reduceLT,Int.reduceNeg,Int.reduceToNat,encQ,hc1,encCh,Int.reduceEq,if_false,if_true,or_true,or_false,true_or,false_or,List.map_cons,List.map_nil,List.length_cons,List.length_nil,Int.reduceAdd,List.set_cons_zero,List.set_cons_succ,List.cons_append,List.nil_append]
   refine areg_linkim [139] 14 (by kernel_rfl) (by kernel_rfl) ?_
   simp -implicitDefEqProofs only [push_cast,Nat.reduceAdd,Nat.reduceSub,Nat.reduceMul,Nat.reduceLT,Nat.reduceLeDiff,Nat.reduceEqDiff,Nat.reduceBEq,reduceCtorEq,reduceIte,Int.reduceLE,Int.reduceLT,Int.reduceNeg,Int.reduceToNat,encQ,Int.reduceEq,if_false,if_true,or_true,or_false,true_or,false_or,List.map_cons,List.map_nil,List.length_cons,List.length_nil,Int.reduceAdd,List.set_cons_zero,List.set_cons_succ,List.cons_append,List.nil_append]
   refine ahdq hSt ?_
   simp -implicitDefEqProofs only [push_cast,Nat.reduceAdd,Nat.reduceSub,Nat.reduceMul,Nat.reduceLT,Nat.reduceLeDiff,Nat.reduceEqDiff,Nat.reduceBEq,reduceCtorEq,reduceIte,Int.reduceLE,Int.reduceLT,Int.reduceNeg,Int.reduceToNat,encQ,Int.reduceEq,if_false,if_true,or_true,or_false,true_or,false_or,List.map_cons,List.map_nil,List.length_cons,List.length_nil,Int.reduceAdd,List.set_cons_zero,List.set_cons_succ,List.cons_append,List.nil_append]
   refine ahdq hSo' ?_
   simp -implicitDefEqProofs only [push_cast,Nat.reduceAdd,Nat.reduceSub,Nat.reduceMul,Nat.reduceLT,Nat.reduceLeDiff,Nat.reduceEqDiff,Nat.reduceBEq,reduceCtorEq,reduceIte,Int.reduceLE,Int.reduceLT,Int.reduceNeg,Int.reduceToNat,encQ,Int.reduceEq,if_false,if_true,or_true,or_false,true_or,false_or,List.map_cons,List.map_nil,List.length_cons,List.length_nil,Int.reduceAdd,List.set_cons_zero,List.set_cons_succ,List.cons_append,List.nil_append]
   refine told [.int m, .agg (encPl (.mk 4 0 col 0 [p])), .ptr (H.nxt + 4) 1 0 0] ?_ ?_
   ·(try simp -implicitDefEqProofs only [push_cast,Nat.reduceAdd,Nat.reduceSub,Nat.reduceMul,Nat.reduceLT,Nat.reduceLeDiff,Nat.reduceEqDiff,Nat.reduceBEq,reduceCtorEq,reduceIte,Int.reduceLE,Int.reduceLT,Int.reduceNeg,Int.reduceToNat,Int.reduceEq,if_false,if_true,or_true,or_false,true_or,false_or,List.map_cons,List.map_nil,List.length_cons,List.length_nil,Int.reduceAdd,List.set_cons_zero,List.set_cons_succ,List.cons_append,List.nil_append])
   refine (put_ok acc (by omega) m (.mk 4 0 col 0 [p]) (H.nxt + 4) (H.nxt + 5) _ (by omega) (by simp [plus_nxt]) (by simp [plus_nxt]) (by rw [plus_obj]; rfl) (by rw [plus_obj]; rfl)).mono ?_
   rintro r H2 ⟨rfl,rfl⟩
   rw [plus_del _ _ 5,plus_set _ _ 4 _ (by simp),plus_plus]
   simp -implicitDefEqProofs only [push_cast,Nat.reduceAdd,Nat.reduceSub,Nat.reduceMul,Nat.reduceLT,Nat.reduceLeDiff,Nat.reduceEqDiff,Nat.reduceBEq,reduceCtorEq,reduceIte,Int.reduceLE,Int.reduceLT,Int.reduceNeg,Int.reduceToNat,encQ,Nat.add_assoc,Int.reduceEq,if_false,if_true,or_true,or_false,true_or,false_or,List.map_cons,List.map_nil,List.length_cons,List.length_nil,Int.reduceAdd,List.set_cons_zero,List.set_cons_succ,List.cons_append,List.nil_append]
   have hlen:(acc ++ [(m,Pl.mk 4 0 col 0 [p])]).length = acc.length + 1:=by rw [List.length_append]; rfl
   generalize acc ++ [(m,Pl.mk 4 0 col 0 [p])] = acc' at hL hlen ⊢
   have htk:List.take (acc.length + 1) (acc'.map encCh) = acc'.map encCh:=List.take_of_length_le (by simp; omega)
   refine fzk H 9 (acc.length + 1) [.sl (acc'.map encCh), .clo (.func 148) [] []] (by rfl) (by omega) (by simp; omega) ?_ ?_
   ·(try simp -implicitDefEqProofs only [push_cast,Nat.reduceAdd,Nat.reduceSub,Nat.reduceMul,Nat.reduceLT,Nat.reduceLeDiff,Nat.reduceEqDiff,Nat.reduceBEq,reduceCtorEq,reduceIte,Int.reduceLE,Int.reduceLT,Int.reduceNeg,Int.reduceToNat,htk,encChs_pure,Int.reduceEq,if_false,if_true,or_true,or_false,true_or,false_or,List.map_cons,List.map_nil,List.length_cons,List.length_nil,Int.reduceAdd,List.set_cons_zero,List.set_cons_succ,List.cons_append,List.nil_append])
    try omega
   refine callq hL ?_
   simp -implicitDefEqProofs only [push_cast,Nat.reduceAdd,Nat.reduceSub,Nat.reduceMul,Nat.reduceLT,Nat.reduceLeDiff,Nat.reduceEqDiff,Nat.reduceBEq,reduceCtorEq,reduceIte,Int.reduceLE,Int.reduceLT,Int.reduceNeg,Int.reduceToNat,encQ,encCh,encPl_drop,Int.reduceEq,if_false,if_true,or_true,or_false,true_or,false_or,List.map_cons,List.map_nil,List.length_cons,List.length_nil,Int.reduceAdd,List.set_cons_zero,List.set_cons_succ,List.cons_append,List.nil_append]
end
section
theorem foldC_spec (l:List Ch):∀ x:Ch,let r:=l.foldl (fun out y=>if y.1 < out.1 then y else out) x
  (r = x ∨ r ∈ l) ∧ r.1 ≤ x.1 ∧ ∀ y ∈ l,r.1 ≤ y.1:=by
 induction l with
 | nil=>intro x; exact ⟨.inl rfl,Int.le_refl _,by simp⟩
 | cons y l ih =>
  intro x
  rw [List.foldl_cons]
  have h:=ih (if y.1 < x.1 then y else x)
  generalize l.foldl (fun out y=>if y.1 < out.1 then y else out) (if y.1 < x.1 then y else x) = r at h ⊢
  obtain ⟨h1,h2,h3⟩:=h
  by_cases hc:y.1 < x.1
  ·rw [if_pos hc] at h1 h2
   refine ⟨?_,by omega, ?_⟩
   ·rcases h1 with h1 | h1
    ·right; rw [h1]; exact .head _
    ·right; exact .tail _ h1
   ·intro z hz
    rcases List.mem_cons.1 hz with rfl | hz
    ·exact h2
    ·exact h3 z hz
  ·rw [if_neg hc] at h1 h2
   refine ⟨?_,h2, ?_⟩
   ·rcases h1 with h1 | h1
    ·left; exact h1
    ·right; exact .tail _ h1
   ·intro z hz
    rcases List.mem_cons.1 hz with rfl | hz
    ·omega
    ·exact h3 z hz
theorem leastC_mem {l:List Ch} (h:l ≠ []):leastC l ∈ l:=by
 match l,h with
 | x :: l,_ =>
  rw [leastC]
  rcases (foldC_spec l x).1 with h | h
  ·rw [h]; exact .head _
  ·exact .tail _ h
theorem cols_mem_iff {c:List Df} {q:Qy} (h:q.may c = true) (s x:Int):(q.cols c s).contains x = true ↔ isCol c q x = true ∧ bitI s (x / 4).toNat = true:=by
 rw [List.contains_iff_mem,Qy.cols,if_pos h,colsIn,List.mem_filter,Bool.and_eq_true]
 refine ⟨fun h=>h.2,fun h=>⟨?_,h⟩⟩
 have:=isCol_range h.1
 simp only [upto,List.mem_map,List.mem_range]
 exact ⟨x.toNat,by omega,by show ((x.toNat:Nat):Int) = x; omega⟩
theorem isCol_pos {c:List Df} {q:Qy} {x:Int} (h:isCol c q x = true):x ≠ -1:=by
 have:=isCol_range h
 omega
theorem pairs_cols {c:List Df} {q:Qy} (h:q.may c = true) {a b:Int} (h0:band .i64 a b = 0) {p:Int × Int} (hp:(q.pairs a b).contains p = true):(q.cols c a).contains p.1 = true ∧ (q.cols c b).contains p.2 = true:=by
 have hd:=apart_band h0
 rw [List.contains_iff_mem] at hp
 obtain ⟨h1,h2,h3,h4,_⟩:=pairs_mem hd hp
 rw [cols_mem_iff h,cols_mem_iff h]
 unfold Qy.pairs pairsF at hp
 rw [List.mem_flatMap] at hp
 obtain ⟨i,hi,hp⟩:=hp
 obtain ⟨hn,hm⟩:=new_mem hi
 rcases (pairOf_new hd hn).2 with ⟨_,h0⟩ | ⟨his,x,y,h0,_,_,_,_,_,h6⟩
 ·rw [h0] at hp; cases hp
 ·rw [h0,List.mem_singleton] at hp
  subst hp
  have hs:=(pair_spec his).2.2.2.2
  have hc:=((may_split h).2.2.2.2.2.1 _ hm).2
  refine ⟨⟨hc _ ((hs _).2 (h6.elim (fun h=>.inl h.1) fun h=>.inr h.1)),h3⟩,⟨hc _ ((hs _).2 (h6.elim (fun h=>.inr h.2) fun h=>.inl h.2)),h4⟩⟩
theorem ways_mem {q:Qy} {a b col:Int} {w:Pl} (h:w ∈ waysP q a b col):w = nestW ∨ ∃ (op:Int) (p:Int × Int),w = .mk op 0 p.1 p.2 [] ∧ (q.pairs a b).contains p = true ∧ ((op = 2 ∧ col = -1) ∨ (op = 3 ∧ (col = -1 ∨ col = p.1))):=by
 unfold waysP at h
 have one:∀ op:Int,w ∈ innerL op col (q.pairs a b) → ∃ p:Int × Int,w = .mk op 0 p.1 p.2 [] ∧ (q.pairs a b).contains p = true ∧ (col = -1 ∨ (op = 3 ∧ col = p.1)):=by
  intro op h
  unfold innerL at h
  rw [List.mem_map] at h
  obtain ⟨p,hp,rfl⟩:=h
  rw [List.mem_filter,Bool.or_eq_true,Bool.and_eq_true,decide_eq_true_eq,decide_eq_true_eq,decide_eq_true_eq] at hp
  exact ⟨p,rfl,List.contains_iff_mem.2 hp.1,hp.2⟩
 rcases List.mem_append.1 h with h | h
 ·rcases List.mem_append.1 h with h | h
  ·left; simpa using h
  ·obtain ⟨p,h1,h2,h3⟩:=one 2 h
   exact .inr ⟨2,p,h1,h2, .inl ⟨rfl,by omega⟩⟩
 ·obtain ⟨p,h1,h2,h3⟩:=one 3 h
  exact .inr ⟨3,p,h1,h2, .inr ⟨rfl,by omega⟩⟩
theorem ways_nest (q:Qy) (a b col:Int):nestW ∈ waysP q a b col:=by unfold waysP; simp
theorem setT_join {d:Nat} {x y:Tr} (h:(setT (d + 1) (.join x y)).2 = true):(setT d x).2 = true ∧ (setT d y).2 = true ∧ band .i64 (setT d x).1 (setT d y).1 = 0:=by
 rw [Tr.join,setT_two,if_pos rfl] at h
 simp only [Bool.and_eq_true,decide_eq_true_eq] at h
 exact ⟨h.1.1,h.1.2,h.2⟩
theorem may_of_d {d:Nat} (hd:d ≤ 4) {t:Tr} (h:(setT d t).2 = true):t.may = true ∧ t.set = (setT d t).1:=by
 have e:=setT_le hd h
 have hm:t.may = true:=by unfold Tr.may; rw [e]; exact h
 exact ⟨hm,by rw [set_of_may hm,e]⟩
theorem wayC_mem {c:List Df} {q:Qy} {f g:Int → Ch} {a b col:Int} {w:Pl} (h:(mustP w col).1 = -1 ∨ (q.cols c a).contains (mustP w col).1 = true) :
  (addK [(f (mustP w col).1).1,(g (mustP w col).2).1,ownW c q w a b],Pl.mk w.op w.occ w.a w.b [(f (mustP w col).1).2,(g (mustP w col).2).2]) ∈ wayC c q f g a b col w:=by
 unfold wayC
 rw [if_neg]
 ·exact List.mem_singleton.2 rfl
 ·rintro ⟨h1,h2⟩
  rcases h with h | h
  ·exact h1 h
  ·rw [h] at h2; cases h2
theorem few_mk {op occ a b:Int} {l:List Pl} (h:(Pl.mk op occ a b l).form = true) (hl:∀ x ∈ l,x.few = true) (hn:1 + (partsPl l).length ≤ 20):(Pl.mk op occ a b l).few = true:=by
 unfold Pl.few
 rw [parts_mk,List.all_cons,h,List.length_cons,Bool.true_and,Bool.and_eq_true,decide_eq_true_eq]
 refine ⟨by omega, ?_⟩
 clear hn h
 induction l with
 | nil=>rfl
 | cons x l ih =>
  rw [partsPl_cons,List.all_append,Bool.and_eq_true]
  exact ⟨few_forms (hl x (.head _)),ih fun y hy=>hl y (.tail _ hy)⟩
theorem two_of {c:List Df} {q:Qy} {op a b:Int} {x y:Pl} (hx:mayP c q x = true) (hy:mayP c q y = true) (h0:band .i64 (treeP x).set (treeP y).set = 0) (hf:(Pl.mk op 0 a b [x,y]).form = true) (hn:1 + ((parts x).length + (parts y).length) ≤ 20)
  (hfit:fitP c q (.mk op 0 a b [x,y]) = true):mayP c q (.mk op 0 a b [x,y]) = true:=by
 obtain ⟨h1,h2,h3,h4,h5⟩:=mayP_iff.1 hx
 obtain ⟨_,k2,k3,k4,k5⟩:=mayP_iff.1 hy
 have hj:=may_join h3 k3 h0
 have ra:=(treeP x).set_range
 have rb:=(treeP y).set_range
 have hfew:(Pl.mk op 0 a b [x,y]).few = true:=by
  refine few_mk hf (fun z hz=>?_) ?_
  ·simp only [List.mem_cons,List.not_mem_nil,or_false] at hz
   rcases hz with rfl | rfl
   ·exact h2
   ·exact k2
  ·rw [partsPl_cons,partsPl_cons,partsPl,List.append_nil,List.length_append]
   exact hn
 refine mayP_iff.2 ⟨h1,hfew,by rw [treeP]; exact hj, ?_, ?_⟩
 ·rw [treeP,(join_may hj).2.2.2,bor_lt ra.1 ra.2 rb.1 rb.2 (may_len h1)]
  exact ⟨h4,k4⟩
 ·rw [parts_all,partsPl_cons,partsPl_cons,partsPl,List.append_nil,List.all_append,h5,k5,hfit]
  rfl
def Good (c:List Df) (q:Qy) (d:Nat) (t:Tr) (col:Int) (x:Ch):Prop :=
 mayP c q x.2 = true ∧ treeP x.2 = t ∧ costP c q x.2 = x.1 ∧ (col ≠ -1 → x.2.order = col) ∧ (parts x.2).length + (if col = -1 then 3 else 2) ≤ 4 * (lvsT d t).1.length
theorem lv4 {d:Nat} {t:Tr} (h:(setT d t).2 = true):(lvsT d t).1.length ≤ 4:=by
 have:=(set_lvs d t).1.1 h
 exact nodup4 this.2 (lvsT_range d t this.1)
theorem way_good {c:List Df} {q:Qy} {d:Nat} {a b:Tr} {col:Int} (hq:q.may c = true) (hd:d + 1 ≤ 4) (hs:(setT (d + 1) (.join a b)).2 = true) (f:Tr → Int → Ch)
  (ha:∀ x,x = -1 ∨ (q.cols c a.set).contains x = true → Good c q d a x (f a x)) (hb:∀ x,x = -1 ∨ (q.cols c b.set).contains x = true → Good c q d b x (f b x)) {w:Pl} (hw:w ∈ waysP q a.set b.set col)
  (hm:(mustP w col).1 = -1 ∨ (q.cols c a.set).contains (mustP w col).1 = true) :
  Good c q (d + 1) (.join a b) col (addK [(f a (mustP w col).1).1,(f b (mustP w col).2).1,ownW c q w a.set b.set], .mk w.op w.occ w.a w.b [(f a (mustP w col).1).2,(f b (mustP w col).2).2]):=by
 obtain ⟨sx,sy,s0⟩:=setT_join hs
 have mx:=may_of_d (by omega) sx
 have my:=may_of_d (by omega) sy
 have hb0:band .i64 a.set b.set = 0:=by rw [mx.2,my.2]; exact s0
 have hlv:(lvsT (d + 1) (.join a b)).1.length = (lvsT d a).1.length + (lvsT d b).1.length:=by
  rw [Tr.join,lvsT_two,if_pos rfl,List.length_append]
 have h4:=lv4 hs
 have hA:=ha (mustP w col).1 hm
 have hB:(mustP w col).2 = -1 ∨ (q.cols c b.set).contains (mustP w col).2 = true:=by
  rcases ways_mem hw with rfl | ⟨op,p,rfl,hp,h⟩
  ·exact .inl rfl
  ·rcases h with ⟨rfl,_⟩ | ⟨rfl,_⟩
   ·exact .inl rfl
   ·exact .inr (pairs_cols hq hb0 hp).2
 have hB:=hb _ hB
 generalize hx:f a (mustP w col).1 = x at hA
 generalize hy:f b (mustP w col).2 = y at hB
 obtain ⟨a1,a2,a3,a4,a5⟩:=hA
 obtain ⟨b1,b2,b3,b4,b5⟩:=hB
 have hn:(parts x.2).length + (parts y.2).length + 4 ≤ 4 * (lvsT (d + 1) (.join a b)).1.length:=by
  rw [hlv]
  split at a5 <;> split at b5 <;> omega
 have fin:∀ op p1 p2:Int,w = .mk op 0 p1 p2 [] → (Pl.mk op 0 p1 p2 [x.2,y.2]).form = true → fitP c q (.mk op 0 p1 p2 [x.2,y.2]) = true → (col ≠ -1 → (Pl.mk op 0 p1 p2 [x.2,y.2]).few = true → (Pl.mk op 0 p1 p2 [x.2,y.2]).order = col) → ownC c q (.mk op 0 p1 p2 [x.2,y.2]) = ownW c q w a.set b.set →
   Good c q (d + 1) (.join a b) col (addK [x.1,y.1,ownW c q w a.set b.set], .mk w.op w.occ w.a w.b [x.2,y.2]):=by
  intro op p1 p2 hwe hf hfit ho hown
  subst hwe
  have hmay:=two_of a1 b1 (by rw [a2,b2]; exact hb0) hf (by omega) hfit
  refine ⟨hmay, ?_, ?_,fun hc=>ho hc (mayP_iff.1 hmay).2.1, ?_⟩
  ·show treeP (.mk op 0 p1 p2 [x.2,y.2]) = _
   rw [treeP,a2,b2]
  ·show costP c q (.mk op 0 p1 p2 [x.2,y.2]) = addK [x.1,y.1,_]
   rw [costP_mk hmay,← hown,← a3,← b3]
   rfl
  ·show (parts (.mk op 0 p1 p2 [x.2,y.2])).length + _ ≤ _
   rw [parts_mk,partsPl_cons,partsPl_cons,partsPl,List.append_nil,List.length_cons,List.length_append]
   split <;> omega
 rcases ways_mem hw with rfl | ⟨op,p,rfl,hp,h⟩
 ·refine fin 1 0 0 rfl rfl rfl (fun hc hf=>?_) ?_
  ·rw [nest_order hf]
   exact a4 hc
  ·show nestK (rowsQ c q (treeP x.2).set) (rowsQ c q (treeP y.2).set) = nestK _ _
   rw [a2,b2]
 ·rcases h with ⟨rfl,h⟩ | ⟨rfl,h⟩
  ·refine fin 2 p.1 p.2 rfl (form_two (.inl rfl)) (fit_of (by rw [a2,b2]; exact hp) (.inl rfl)) (fun hc=>absurd h hc) ?_
   show hashK (rowsQ c q (treeP x.2).set) (rowsQ c q (treeP y.2).set) = hashK _ _
   rw [a2,b2]
  ·have hpc:=pairs_cols hq hb0 hp
   have n1:=isCol_pos ((cols_mem_iff hq _ _).1 hpc.1).1
   have n2:=isCol_pos ((cols_mem_iff hq _ _).1 hpc.2).1
   refine fin 3 p.1 p.2 rfl (form_two (.inr rfl)) (fit_of (by rw [a2,b2]; exact hp) (.inr ⟨a4 n1,b4 n2⟩)) (fun hc hf=>?_) ?_
   ·rw [Pl.order,if_pos hf,orderL,if_neg (by decide),if_pos (.inr rfl)]
    rcases h with h | h
    ·exact absurd h hc
    ·exact h.symm
   ·show mergeK (rowsQ c q (treeP x.2).set) (rowsQ c q (treeP y.2).set) = mergeK _ _
    rw [a2,b2]
theorem cand_good {c:List Df} {q:Qy} {d:Nat} {a b:Tr} {col:Int} (hq:q.may c = true) (hd:d + 1 ≤ 4) (hs:(setT (d + 1) (.join a b)).2 = true) (f:Tr → Int → Ch)
  (ha:∀ x,x = -1 ∨ (q.cols c a.set).contains x = true → Good c q d a x (f a x)) (hb:∀ x,x = -1 ∨ (q.cols c b.set).contains x = true → Good c q d b x (f b x)) {x:Ch} (hx:x ∈ candC c q f (.join a b) col):Good c q (d + 1) (.join a b) col x:=by
 have hx':x ∈ (waysP q a.set b.set col).flatMap (wayC c q (f a) (f b) a.set b.set col):=hx
 rw [List.mem_flatMap] at hx'
 obtain ⟨w,hw,hx'⟩:=hx'
 unfold wayC at hx'
 split at hx'
 ·cases hx'
 ·rename_i hn
  rw [List.mem_singleton] at hx'
  subst hx'
  refine way_good hq hd hs f ha hb hw ?_
  by_cases h1:(mustP w col).1 = -1
  ·exact .inl h1
  ·right
   rcases Bool.eq_false_or_eq_true ((q.cols c a.set).contains (mustP w col).1) with h2 | h2
   ·exact h2
   ·exact absurd ⟨h1,h2⟩ hn
theorem leaf_good {c:List Df} {q:Qy} {d:Nat} {o:Int} (hq:q.may c = true) (hs:(setT (d + 1) (.mk o [])).2 = true) (hlt:(Tr.leaf o).set < 2 ^ q.occ.length):Good c q (d + 1) (.leaf o) (-1) (costP c q (.mk 0 o 0 0 []), .mk 0 o 0 0 []):=by
 have ho:0 ≤ o ∧ o < 4:=by rw [setT_nil] at hs; simpa using hs
 refine ⟨mayP_iff.2 ⟨hq,by rfl,by rw [treeP,leaf_may]; simp [ho],by rw [treeP]; exact hlt,by rw [parts_all]; rfl⟩,by rw [treeP],rfl,fun h=>absurd rfl h, ?_⟩
 rw [parts_mk,partsPl,Tr.leaf,lvsT_nil]
 exact Nat.le_refl _
theorem sort_good {c:List Df} {q:Qy} {d:Nat} {t:Tr} {col:Int} {x:Ch} (hs:(setT d t).2 = true) (hc:col ≠ -1) (hcol:(q.cols c t.set).contains col = true) (hx:Good c q d t (-1) x):Good c q d t col (sortC c q t col x):=by
 obtain ⟨a1,a2,a3,_,a5⟩:=hx
 rw [if_pos rfl] at a5
 have h4:=lv4 hs
 have hfew:(Pl.mk 4 0 col 0 [x.2]).few = true:=by
  refine few_mk (by simp [Pl.form,Pl.op,Pl.b,Pl.a,Pl.occ,Pl.l,plansP]) (fun z hz=>?_) ?_
  ·rw [List.mem_singleton] at hz
   subst hz
   exact (mayP_iff.1 a1).2.1
  ·rw [partsPl_cons,partsPl,List.append_nil]
   omega
 have hmay:mayP c q (.mk 4 0 col 0 [x.2]) = true:=by rw [sort_may a1 hfew,a2]; exact hcol
 refine ⟨hmay, ?_, ?_,fun _=>sort_order hfew, ?_⟩
 ·show treeP (.mk 4 0 col 0 [x.2]) = t
  rw [treeP,a2]
 ·show costP c q (.mk 4 0 col 0 [x.2]) = sortedC c q t.set x.1
  rw [sort_cost hmay,a2,a3]
  rfl
 ·show (parts (.mk 4 0 col 0 [x.2])).length + _ ≤ _
  rw [parts_mk,partsPl_cons,partsPl,List.append_nil,List.length_cons,if_neg hc]
  omega
theorem tr_form {d:Nat} {t:Tr} (h:(setT (d + 1) t).2 = true):(∃ o,t = .leaf o) ∨ ∃ a b,t = .join a b:=by
 obtain ⟨o,l⟩:=t
 match l,h with
 | [],_=>exact .inl ⟨o,rfl⟩
 | [a],h=>rw [setT_one] at h; cases h
 | [a,b],h =>
  rw [setT_two] at h
  by_cases ho:o = 0
  ·subst ho; exact .inr ⟨a,b,rfl⟩
  ·rw [if_neg ho] at h; cases h
 | a :: b :: e :: l,h=>rw [setT_more] at h; cases h
theorem best_good {c:List Df} {q:Qy} (hq:q.may c = true):∀ (d:Nat) (t:Tr) (col:Int),d ≤ 4 → (setT d t).2 = true → t.set < 2 ^ q.occ.length → (col = -1 ∨ (q.cols c t.set).contains col = true) → Good c q d t col (bestF c q d t col):=by
 intro d
 induction d with
 | zero=>intro t col _ h; simp [setT] at h
 | succ d ih =>
 intro t col hd hs hlt hcol
 have hcand:(∀ col x,x ∈ candC c q (bestF c q d) t col → Good c q (d + 1) t col x) ∧ candC c q (bestF c q d) t (-1) ≠ []:=by
  rcases tr_form hs with ⟨o,rfl⟩ | ⟨a,b,rfl⟩
  ·refine ⟨fun col x hx=>?_,by simp [candC,Tr.leaf]⟩
   simp only [candC,Tr.leaf] at hx
   split at hx
   ·rename_i h
    subst h
    rw [List.mem_singleton] at hx
    subst hx
    exact leaf_good hq hs hlt
   ·cases hx
  ·obtain ⟨sx,sy,s0⟩:=setT_join hs
   have mx:=may_of_d (by omega) sx
   have my:=may_of_d (by omega) sy
   have mt:=(may_of_d hd hs).1
   have ra:=a.set_range
   have rb:=b.set_range
   have hl2:=hlt
   rw [(join_may mt).2.2.2,bor_lt ra.1 ra.2 rb.1 rb.2 (may_len hq)] at hl2
   refine ⟨fun col x hx=>cand_good hq hd hs _ (fun y hy=>ih a y (by omega) sx hl2.1 hy) (fun y hy=>ih b y (by omega) sy hl2.2 hy) hx, ?_⟩
   have h1:=wayC_mem (c:=c) (q:=q) (f:=bestF c q d a) (g:=bestF c q d b) (a:=a.set) (b:=b.set) (col:=-1) (w:=nestW) (.inl rfl)
   have h2:_ ∈ candC c q (bestF c q d) (.join a b) (-1):=List.mem_flatMap.2 ⟨nestW,ways_nest q _ _ _,h1⟩
   exact fun h=>by rw [h] at h2; cases h2
 have hnone:Good c q (d + 1) t (-1) (leastC (candC c q (bestF c q d) t (-1))):=hcand.1 _ _ (leastC_mem hcand.2)
 rw [bestF]
 split
 ·rename_i h
  subst h
  exact hnone
 ·rename_i h
  have hc:(q.cols c t.set).contains col = true:=by rcases hcol with h2 | h2; exact absurd h2 h; exact h2
  rcases List.mem_append.1 (leastC_mem (l:=candC c q (bestF c q d) t col ++ [sortC c q t col (leastC (candC c q (bestF c q d) t (-1)))]) (by simp)) with h2 | h2
  ·exact hcand.1 _ _ h2
  ·rw [List.mem_singleton] at h2
   rw [h2]
   exact sort_good hs h hc hnone
end
section
attribute [local push_cast] encPl_mk encPl_take encPl_len encPl_one encPls_pure encPl_pure encT_pure encT_len encT_one encT_take encCh_take encCh_drop encCh_len encCh_one encCh_pure encChs_pure
theorem best_ok (c:List Df) (hcl:c.length ≤ 1000000) (q:Qy) (hq:q.Ok) (hp8:q.p.length ≤ 8):∀ (d:Nat) (t:Tr) (col:Int),t.Ok → (setT d t).2 = true → BestAt c q d t col:=by
 intro d
 induction d with
 | zero=>intro t col _ h; simp [setT] at h
 | succ d ih =>
 have none:∀ t:Tr,t.Ok → (setT (d + 1) t).2 = true → BestAt c q (d + 1) t (-1):=by
  intro t hok hs
  rcases tr_form hs with ⟨o,rfl⟩ | ⟨a,b,rfl⟩
  ·exact bestLeaf_ok c hcl q hq d o
  ·obtain ⟨_,hlo⟩:=hok
   obtain ⟨sx,sy,_⟩:=setT_join hs
   exact bestJoin_ok c hcl q hq hp8 d a b (hlo a (by simp)) (hlo b (by simp)) (-1) (fun x=>ih a x (hlo a (by simp)) sx) (fun x=>ih b x (hlo b (by simp)) sy) (fun h=>absurd rfl h)
 intro t col hok hs
 by_cases hc:col = -1
 ·rw [hc]; exact none t hok hs
 ·have hN:=none t hok hs
  rcases tr_form hs with ⟨o,rfl⟩ | ⟨a,b,rfl⟩
  ·exact bestLeafS_ok c hcl q hq d o col hc hN
  ·obtain ⟨_,hlo⟩:=hok
   obtain ⟨sx,sy,_⟩:=setT_join hs
   exact bestJoin_ok c hcl q hq hp8 d a b (hlo a (by simp)) (hlo b (by simp)) col (fun x=>ih a x (hlo a (by simp)) sx) (fun x=>ih b x (hlo b (by simp)) sy) (fun _=>hN)
def validT (c:List Df) (q:Qy) (t:Tr) (col:Int):Bool:=q.may c && t.may && decide (t.set < 2 ^ q.occ.length) && (decide (col = -1) || (q.cols c t.set).contains col)
def bestR (c:List Df) (q:Qy) (t:Tr) (col:Int):Int × Pl × Bool:=if validT c q t col then ((bestF c q 4 t col).1,(bestF c q 4 t col).2,true) else (0,plO,false)
set_option maxHeartbeats 4000000 in
theorem Best_ok (c:List Df) (hcl:c.length ≤ 1000000) (q:Qy) (hq:q.Ok) (hp8:q.p.length ≤ 8) (t:Tr) (hok:t.Ok) (col:Int):Quiet Go.Proofs.Tryz.prog 44 [.agg [.sl (c.map encD)], .agg (encQ q), .agg (encT t), .int col] (.tup [.int (bestR c q t col).1, .agg (encPl (bestR c q t col).2.1), .bool (bestR c q t col).2.2]):=by
 have hM:=MayQ_ok c hcl q hq
 have hT:=MayT_ok t hok
 have hS:=SetT_ok t hok
 have hC:=ColsQ_ok c hcl q hq t.set
 have hcl2:(q.cols c t.set).length ≤ 1000000:=by
  unfold Qy.cols
  split
  ·have:=colsIn_le c q (bitI t.set); omega
  ·simp
 have hH:=containsI_ok _ hcl2 col
 have hv:validT c q t col = !(!q.may c || !t.may || decide (0 < bshr .i64 t.set q.occ.length) || (!decide (col = -1) && !(q.cols c t.set).contains col)):=by
  unfold validT
  cases hm:q.may c
  ·rfl
  have hn:=may_len hm
  have e:decide (t.set < 2 ^ q.occ.length) = !decide (0 < bshr .i64 t.set q.occ.length):=by
   rw [← decide_not,decide_eq_decide]
   exact (shr_iff hn).symm
  rw [e]
  cases t.may <;> cases decide (0 < bshr .i64 t.set q.occ.length) <;> cases decide (col = -1) <;> simp
 have hB:validT c q t col = true → BestAt c q 4 t col:=fun h=>by
  unfold validT at h
  simp only [Bool.and_eq_true] at h
  exact best_ok c hcl q hq hp8 4 t col hok h.1.1.2
 unfold bestR
 unfold BestAt at hB
 generalize bestF c q 4 t col = x at hB ⊢
 obtain ⟨n,p⟩:=x
 generalize validT c q t col = v at hv hB ⊢
 generalize q.may c = m at hM hv
 generalize (q.cols c t.set).contains col = has at hH hv
 generalize q.cols c t.set = cols at hC hH
 generalize t.may = tm at hT hv
 refine quiet_of (rs:=#[.tmp 8, .cell 9 32, .tmp 10]) Go.Proofs.Tryz.func44 rfl rfl rfl mixed rfl rfl fun H hs=>?_
 simp -implicitDefEqProofs only [push_cast,Nat.reduceAdd,Nat.reduceSub,Nat.reduceMul,Nat.reduceLT,Nat.reduceLeDiff,Nat.reduceEqDiff,Nat.reduceBEq,reduceCtorEq,reduceIte,Int.reduceLE,Int.reduceLT,Int.reduceNeg,Int.reduceToNat,encQ,encT_take,encT_len,encT_one]
 refine areg_at 32 (by kernel_rfl) (by kernel_rfl) ?_
 simp -implicitDefEqProofs only [push_cast,Nat.reduceAdd,Nat.reduceSub,Nat.reduceMul,Nat.reduceLT,Nat.reduceLeDiff,Nat.reduceEqDiff,Nat.reduceBEq,reduceCtorEq,reduceIte,Int.reduceLE,Int.reduceLT,Int.reduceNeg,Int.reduceToNat,encQ]
 refine ahdq hM ?_
 simp -implicitDefEqProofs only [push_cast,Nat.reduceAdd,Nat.reduceSub,Nat.reduceMul,Nat.reduceLT,Nat.reduceLeDiff,Nat.reduceEqDiff,Nat.reduceBEq,reduceCtorEq,reduceIte,Int.reduceLE,Int.reduceLT,Int.reduceNeg,Int.reduceToNat,encQ]
 refine gcallq (.bool tm) (fun _=>hT) ?_
 simp -implicitDefEqProofs only [push_cast,Nat.reduceAdd,Nat.reduceSub,Nat.reduceMul,Nat.reduceLT,Nat.reduceLeDiff,Nat.reduceEqDiff,Nat.reduceBEq,reduceCtorEq,reduceIte,Int.reduceLE,Int.reduceLT,Int.reduceNeg,Int.reduceToNat,encQ]
 refine gcallq (.int t.set) (fun _=>hS) ?_
 simp -implicitDefEqProofs only [push_cast,Nat.reduceAdd,Nat.reduceSub,Nat.reduceMul,Nat.reduceLT,Nat.reduceLeDiff,Nat.reduceEqDiff,Nat.reduceBEq,reduceCtorEq,reduceIte,Int.reduceLE,Int.reduceLT,Int.reduceNeg,Int.reduceToNat,encQ]
 refine ⟨fun _=>by omega,gcallq (.int t.set) (fun _=>hS) ?_⟩
 simp -implicitDefEqProofs only [push_cast,Nat.reduceAdd,Nat.reduceSub,Nat.reduceMul,Nat.reduceLT,Nat.reduceLeDiff,Nat.reduceEqDiff,Nat.reduceBEq,reduceCtorEq,reduceIte,Int.reduceLE,Int.reduceLT,Int.reduceNeg,Int.reduceToNat,encQ]
 refine gcallq (.sl (cols.map encI)) (fun _=>hC) ?_
 simp -implicitDefEqProofs only [push_cast,Nat.reduceAdd,Nat.reduceSub,Nat.reduceMul,Nat.reduceLT,Nat.reduceLeDiff,Nat.reduceEqDiff,Nat.reduceBEq,reduceCtorEq,reduceIte,Int.reduceLE,Int.reduceLT,Int.reduceNeg,Int.reduceToNat,encQ]
 refine gcallq (.bool has) (fun _=>hH) ?_
 simp -implicitDefEqProofs only [push_cast,Nat.reduceAdd,Nat.reduceSub,Nat.reduceMul,Nat.reduceLT,Nat.reduceLeDiff,Nat.reduceEqDiff,Nat.reduceBEq,reduceCtorEq,reduceIte,Int.reduceLE,Int.reduceLT,Int.reduceNeg,Int.reduceToNat,encQ]
 generalize bshr .i64 t.set q.occ.length = bs at hv ⊢
 refine ⟨?_,fun h=>?_,fun h=>?_⟩
 ·exact fun h1 h2=>by rw [h1,decide_eq_false h2]; rfl
 ·rw [h] at hv
  subst hv
  simp -implicitDefEqProofs only [push_cast,Nat.reduceAdd,Nat.reduceSub,Nat.reduceMul,Nat.reduceLT,Nat.reduceLeDiff,Nat.reduceEqDiff,Nat.reduceBEq,reduceCtorEq,reduceIte,Int.reduceLE,Int.reduceLT,Int.reduceNeg,Int.reduceToNat,encQ,plO,Bool.not_true,Bool.false_eq_true,if_false]
 ·rw [h] at hv
  subst hv
  simp -implicitDefEqProofs only [push_cast,Nat.reduceAdd,Nat.reduceSub,Nat.reduceMul,Nat.reduceLT,Nat.reduceLeDiff,Nat.reduceEqDiff,Nat.reduceBEq,reduceCtorEq,reduceIte,Int.reduceLE,Int.reduceLT,Int.reduceNeg,Int.reduceToNat,encQ,Bool.not_false,if_true]
  refine callq (hB rfl) ?_
  simp -implicitDefEqProofs only [push_cast,Nat.reduceAdd,Nat.reduceSub,Nat.reduceMul,Nat.reduceLT,Nat.reduceLeDiff,Nat.reduceEqDiff,Nat.reduceBEq,reduceCtorEq,reduceIte,Int.reduceLE,Int.reduceLT,Int.reduceNeg,Int.reduceToNat,encQ,encCh]
  refine areg_at 5 (by kernel_rfl) (by kernel_rfl) ?_
  simp -implicitDefEqProofs only [push_cast,Nat.reduceAdd,Nat.reduceSub,Nat.reduceMul,Nat.reduceLT,Nat.reduceLeDiff,Nat.reduceEqDiff,Nat.reduceBEq,reduceCtorEq,reduceIte,Int.reduceLE,Int.reduceLT,Int.reduceNeg,Int.reduceToNat,encQ]
end
section
attribute [local push_cast] encE_mk encE_take encE_len encV encE_one encEs_pure encE_pure
def catTwo:List Df:=[⟨2,100⟩,⟨1,10⟩]
def rowsTwo:AV:=.sl [[.sl [[.sl [[.int 0, .int 1],[.int 0, .int 2]]],[.sl [[.int 0, .int 3],[.int 0, .int 4]]]]],[.sl [[.sl [[.int 0, .int 4]]]]]]
theorem Two_ok:Quiet Go.Proofs.Tryz.prog 58 [] (.tup [.agg [.sl (catTwo.map encD)], .agg [rowsTwo]]):=by
 refine quiet_of (rs:=#[.cell 0 24, .cell 1 78]) Go.Proofs.Tryz.func58 rfl rfl rfl mixed rfl rfl fun H hs=>?_
 simp -implicitDefEqProofs only [push_cast,Nat.reduceAdd,Nat.reduceSub,Nat.reduceMul,Nat.reduceLT,Nat.reduceLeDiff,Nat.reduceEqDiff,Nat.reduceBEq,reduceCtorEq,reduceIte,Int.reduceLE,Int.reduceLT,Int.reduceNeg,Int.reduceToNat]
 (try simp -implicitDefEqProofs only [push_cast,Nat.reduceAdd,Nat.reduceSub,Nat.reduceMul,Nat.reduceLT,Nat.reduceLeDiff,Nat.reduceEqDiff,Nat.reduceBEq,reduceCtorEq,reduceIte,Int.reduceLE,Int.reduceLT,Int.reduceNeg,Int.reduceToNat,catTwo,rowsTwo,List.map_cons,List.map_nil,encD])
def fewQ (c:List Df) (q:Qy):Bool:=decide (c.length ≤ 10) && decide (q.occ.length ≤ 20) && decide (q.p.length ≤ 8) && decide (q.sums.length ≤ 20) && decide (q.out.length ≤ 20) && q.p.all fun e=>decide (sz e 60 ≤ 60)
def Qy.Raw (q:Qy) (c:List Df):Prop:=c.length ≤ 140737488355328 ∧ q.occ.length ≤ 140737488355328 ∧ q.p.length ≤ 140737488355328 ∧ q.sums.length ≤ 140737488355328 ∧ q.out.length ≤ 140737488355328 ∧ ∀ e ∈ q.p,e.Ok
theorem few5_ok (c:List Df) (q:Qy) (hr:q.Raw c):Quiet Go.Proofs.Tryz.prog 96 [.agg [.sl (c.map encD)], .agg (encQ q)] (.bool (fewQ c q)):=by
 obtain ⟨h1,h2,h3,h4,h5,hok⟩:=hr
 refine quiet_of (rs:=#[.tmp 4]) Go.Proofs.Tryz.func96 rfl rfl rfl mixed rfl rfl fun H hs=>?_
 simp -implicitDefEqProofs only [push_cast,Nat.reduceAdd,Nat.reduceSub,Nat.reduceMul,Nat.reduceLT,Nat.reduceLeDiff,Nat.reduceEqDiff,Nat.reduceBEq,reduceCtorEq,reduceIte,Int.reduceLE,Int.reduceLT,Int.reduceNeg,Int.reduceToNat,encQ]
 obtain ⟨hd,hhd⟩:∃ hd:Bool,hd = (decide ((c.length:Int) ≤ 10) && decide ((q.occ.length:Int) ≤ 20) && decide ((q.p.length:Int) ≤ 8) && decide ((q.sums.length:Int) ≤ 20) && decide ((q.out.length:Int) ≤ 20)):=⟨_,rfl⟩
 rw [← hhd]
 have hf:fewQ c q = (hd && q.p.all fun e=>decide (sz e 60 ≤ 60)):=by
  have ic:∀ m n:Nat,decide ((m:Int) ≤ (n:Int)) = decide (m ≤ n):=fun m n=>by rw [decide_eq_decide]; omega
  have i1:=ic c.length 10
  have i2:=ic q.occ.length 20
  have i3:=ic q.p.length 8
  have i4:=ic q.sums.length 20
  have i5:=ic q.out.length 20
  simp only [Int.cast_ofNat_Int] at i1 i2 i3 i4 i5
  rw [hhd,i1,i2,i3,i4,i5]
  rfl
 rw [hf]
 clear hf hhd
 have htk:∀ i,(h:i < q.p.length) → (q.p.take (i + 1)).all (fun e=>decide (sz e 60 ≤ 60)) = ((q.p.take i).all (fun e=>decide (sz e 60 ≤ 60)) && decide (sz q.p[i] 60 ≤ 60)):=fun i h=>by
  rw [List.take_succ_eq_append_getElem h,List.all_append,List.all_cons,List.all_nil,Bool.and_true]
 refine loop_at hs (σ:=Nat) (fun i=>i ≤ q.p.length) (fun i=>q.p.length - i)
  (fun i=>[(6, .int i),(5, .bool (hd && (q.p.take i).all fun e=>decide (sz e 60 ≤ 60))),(3, .ptr (H.nxt + 1) 6 0 0)]) (fun i=>[none,some (.cells 6 [encQ q] 0)]) [some 0,some 1] 0 (by omega) rfl ?_ ?_ ?_
 ·(try simp -implicitDefEqProofs only [push_cast,Nat.reduceAdd,Nat.reduceSub,Nat.reduceMul,Nat.reduceLT,Nat.reduceLeDiff,Nat.reduceEqDiff,Nat.reduceBEq,reduceCtorEq,reduceIte,Int.reduceLE,Int.reduceLT,Int.reduceNeg,Int.reduceToNat,List.take_zero,List.all_nil,encEs_pure,encIs_pure,encQ])
 ·(try simp -implicitDefEqProofs only [push_cast,Nat.reduceAdd,Nat.reduceSub,Nat.reduceMul,Nat.reduceLT,Nat.reduceLeDiff,Nat.reduceEqDiff,Nat.reduceBEq,reduceCtorEq,reduceIte,Int.reduceLE,Int.reduceLT,Int.reduceNeg,Int.reduceToNat,encEs_pure,encIs_pure,encQ])
 intro i hi2
 by_cases hi:i < q.p.length
 ·have hi':((i:Int) < (q.p.length:Int)) = True:=by simp; omega
  have hi0:(0 ≤ (i:Int)) = True:=by simp
  cases hfi:(hd && (q.p.take i).all fun e=>decide (sz e 60 ≤ 60))
  ·simp -implicitDefEqProofs only [push_cast,Nat.reduceAdd,Nat.reduceSub,Nat.reduceMul,Nat.reduceLT,Nat.reduceLeDiff,Nat.reduceEqDiff,Nat.reduceBEq,reduceCtorEq,reduceIte,Int.reduceLE,Int.reduceLT,Int.reduceNeg,Int.reduceToNat,hi',encQ]
   rcases Bool.and_eq_false_iff.1 hfi with h | h
   ·rw [h]; rfl
   ·have:q.p.all (fun e=>decide (sz e 60 ≤ 60)) = false:=by
     rw [List.all_eq_false] at h ⊢
     obtain ⟨x,hx,h⟩:=h
     exact ⟨x,List.mem_of_mem_take hx,h⟩
    rw [this,Bool.and_false]
  ·simp -implicitDefEqProofs only [push_cast,Nat.reduceAdd,Nat.reduceSub,Nat.reduceMul,Nat.reduceLT,Nat.reduceLeDiff,Nat.reduceEqDiff,Nat.reduceBEq,reduceCtorEq,reduceIte,Int.reduceLE,Int.reduceLT,Int.reduceNeg,Int.reduceToNat,hi',hi0,encEs_get q.p i hi,encQ]
   refine callq (few_ok _ (hok _ (List.getElem_mem hi)) 60 (by omega) (by omega)) ?_
   simp -implicitDefEqProofs only [push_cast,Nat.reduceAdd,Nat.reduceSub,Nat.reduceMul,Nat.reduceLT,Nat.reduceLeDiff,Nat.reduceEqDiff,Nat.reduceBEq,reduceCtorEq,reduceIte,Int.reduceLE,Int.reduceLT,Int.reduceNeg,Int.reduceToNat,encQ]
   rw [wrap64 (n:=(i:Int) + 1) (by omega) (by omega)]
   have hnx:(hd && (q.p.take (i + 1)).all fun e=>decide (sz e 60 ≤ 60)) = decide (sz q.p[i] 60 ≤ 60):=by
    rw [htk i hi,← Bool.and_assoc,hfi,Bool.true_and]
   refine next_at [none,some 1] (i + 1) (by omega) (by omega) rfl ?_ ?_
   ·(try simp -implicitDefEqProofs only [push_cast,Nat.reduceAdd,Nat.reduceSub,Nat.reduceMul,Nat.reduceLT,Nat.reduceLeDiff,Nat.reduceEqDiff,Nat.reduceBEq,reduceCtorEq,reduceIte,Int.reduceLE,Int.reduceLT,Int.reduceNeg,Int.reduceToNat,hnx,encEs_pure,encIs_pure,encQ])
   ·(try simp -implicitDefEqProofs only [push_cast,Nat.reduceAdd,Nat.reduceSub,Nat.reduceMul,Nat.reduceLT,Nat.reduceLeDiff,Nat.reduceEqDiff,Nat.reduceBEq,reduceCtorEq,reduceIte,Int.reduceLE,Int.reduceLT,Int.reduceNeg,Int.reduceToNat,encEs_pure,encIs_pure,encQ])
 ·have hi':((i:Int) < (q.p.length:Int)) = False:=by simp; omega
  obtain rfl:i = q.p.length:=by omega
  simp -implicitDefEqProofs only [push_cast,Nat.reduceAdd,Nat.reduceSub,Nat.reduceMul,Nat.reduceLT,Nat.reduceLeDiff,Nat.reduceEqDiff,Nat.reduceBEq,reduceCtorEq,reduceIte,Int.reduceLE,Int.reduceLT,Int.reduceNeg,Int.reduceToNat,hi',encQ,List.take_length]
theorem Far_ok (c:List Df) (q:Qy) (hr:q.Raw c):Quiet Go.Proofs.Tryz.prog 42 [.agg [.sl (c.map encD)], .agg (encQ q)] (.int (if fewQ c q then 0 else 1)):=by
 have hf:=few5_ok c q hr
 refine quiet_of (rs:=#[.tmp 4]) Go.Proofs.Tryz.func42 rfl rfl rfl mixed rfl rfl fun H hs=>?_
 simp only [encQ] at hf
 simp -implicitDefEqProofs only [push_cast,Nat.reduceAdd,Nat.reduceSub,Nat.reduceMul,Nat.reduceLT,Nat.reduceLeDiff,Nat.reduceEqDiff,Nat.reduceBEq,reduceCtorEq,reduceIte,Int.reduceLE,Int.reduceLT,Int.reduceNeg,Int.reduceToNat,encQ]
 refine callq hf ?_
 simp -implicitDefEqProofs only [push_cast,Nat.reduceAdd,Nat.reduceSub,Nat.reduceMul,Nat.reduceLT,Nat.reduceLeDiff,Nat.reduceEqDiff,Nat.reduceBEq,reduceCtorEq,reduceIte,Int.reduceLE,Int.reduceLT,Int.reduceNeg,Int.reduceToNat,encQ]
 refine ⟨fun h=>by rw [h]; rfl,fun h=>by rw [h]; rfl⟩
theorem szL_ge:∀ (l:List Ex) (m n:Int),0 ≤ m → n ≤ szL l m n
 | [],_,n,_=>by rw [szL]; exact Int.le_refl _
 | x :: l,m,n,h0=>by
  rw [szL]
  split
  ·have:=sz_bound x (m - n) (by omega)
   have:=szL_ge l m (n + sz x (m - n)) h0
   omega
  ·exact Int.le_refl _
mutual
theorem sz_cnt:∀ (e:Ex) (m:Int),0 ≤ m → sz e m ≤ m → sz e m = cnt e
 | .mk _ _ _ _ l,m,h0,h=>by
  have h1:=szL_ge l m 1 h0
  rw [sz] at h ⊢
  rw [cnt,szL_cnt l m 1 h0 (by omega) h]
  omega
theorem szL_cnt:∀ (l:List Ex) (m n:Int),0 ≤ m → n ≤ m → szL l m n ≤ m → szL l m n = n + cntL l
 | [],m,n,_,h0,h=>by rw [szL,cntL]; omega
 | x :: l,m,n,h1,h0,h=>by
  rw [szL,if_pos h0] at h ⊢
  have h2:=szL_ge l m (n + sz x (m - n)) h1
  have h3:=sz_cnt x (m - n) (by omega) (by omega)
  rw [szL_cnt l m _ h1 (by omega) h,cntL]
  omega
end
theorem fewQ_split {c:List Df} {q:Qy} (h:fewQ c q = true):c.length ≤ 10 ∧ q.occ.length ≤ 20 ∧ q.p.length ≤ 8 ∧ q.sums.length ≤ 20 ∧ q.out.length ≤ 20 ∧ ∀ e ∈ q.p,cnt e ≤ 60:=by
 unfold fewQ at h
 simp only [Bool.and_eq_true,decide_eq_true_eq,List.all_eq_true] at h
 obtain ⟨⟨⟨⟨⟨h1,h2⟩,h3⟩,h4⟩,h5⟩,h6⟩:=h
 refine ⟨h1,h2,h3,h4,h5,fun e he=>?_⟩
 have:=sz_cnt e 60 (by omega) (h6 e he)
 have:=h6 e he
 omega
theorem ok_of_few {c:List Df} {q:Qy} (hr:q.Raw c) (h:fewQ c q = true):q.Ok:=by
 obtain ⟨h1,h2,h3,h4,h5,h6⟩:=fewQ_split h
 exact ⟨by omega,fun e he=>⟨hr.2.2.2.2.2 e he,Nat.le_trans (h6 e he) (by omega)⟩,by omega,by omega,by omega⟩
theorem cols_of {e:Ex} {l:List Int} (hm:e.may = true) (hl:l.Pairwise (· < ·)) (h:e.colsAll = l):e.cols = l:=by
 rw [Ex.cols,if_pos hm,h]
 exact pw_ext (uniq_pw l) hl fun x=>uniq_mem l x
theorem exOk2 {op col k n:Int} {a b:Ex} (ha:a.Ok) (hb:b.Ok):Ex.Ok (.mk op col k n [a,b]):=.mk (by simp) (by
 intro x hx
 simp only [List.mem_cons,List.not_mem_nil,or_false] at hx
 rcases hx with rfl | rfl
 ·exact ha
 ·exact hb)
theorem exOk0 {op col k n:Int}:Ex.Ok (.mk op col k n []):=.mk (by decide) (by simp)
end
section
theorem shp_V2 {n:Nat} {vs:List AV} (h:Shp Go.Proofs.Tryz.prog n 110 vs):∃ v:Vl,vs = encV v ∧ In64 v.n:=by
 obtain ⟨m,parts,_,rfl,hl,hp⟩:=shp_struct Go.Proofs.Tryz.underlying110 h
 match parts,hl with
 | [p0,p1],_ =>
  obtain ⟨k,rfl,_⟩:=shp_int Go.Proofs.Tryz.underlying3 (hp 0 _ p0 rfl rfl).2
  obtain ⟨n,rfl,hn⟩:=shp_int Go.Proofs.Tryz.underlying3 (hp 1 _ p1 rfl rfl).2
  exact ⟨⟨k,n⟩,rfl,wf64 hn⟩
theorem shp_E2:∀ (n:Nat) {vs:List AV},Shp Go.Proofs.Tryz.prog n 112 vs → ∃ e:Ex,vs = encE e ∧ (e.Ok ∧ e.In):=by
 intro n
 induction n using Nat.strongRecOn with
 | ind n ih =>
 intro vs h
 obtain ⟨m,parts,hn,rfl,hl,hp⟩:=shp_struct Go.Proofs.Tryz.underlying112 h
 match parts,hl with
 | [p0,p1,p2,p3],_ =>
  obtain ⟨op,rfl,_⟩:=shp_int Go.Proofs.Tryz.underlying3 (hp 0 _ p0 rfl rfl).2
  obtain ⟨col,rfl,_⟩:=shp_int Go.Proofs.Tryz.underlying3 (hp 1 _ p1 rfl rfl).2
  obtain ⟨⟨k,n'⟩,rfl,hv⟩:=shp_V2 (hp 2 _ p2 rfl rfl).2
  obtain ⟨m',es,hm,rfl,hle,hpe⟩:=shp_slice Go.Proofs.Tryz.underlying26 (hp 3 _ p3 rfl rfl).2
  rw [bytesE] at hle
  obtain ⟨l,rfl,hq⟩:=map_of (f:=encE) (q:=fun e=>e.Ok ∧ e.In) fun x hx=>ih m' (by omega) (hpe x hx).2
  refine ⟨.mk op col k n' l,by rw [encE_mk]; rfl, .mk ?_ fun x hx=>(hq x hx).1, .mk hv fun x hx=>(hq x hx).2⟩
  simp [reachBytes] at hle
  omega
end
section
theorem bytesD:Program.bytesOf Go.Proofs.Tryz.prog 123 = 16:=by kernel_rfl
theorem shp_D {n:Nat} {vs:List AV} (h:Shp Go.Proofs.Tryz.prog n 123 vs):∃ d:Df,vs = encD d ∧ (In64 d.cols ∧ In64 d.rows):=by
 obtain ⟨m,parts,_,rfl,hl,hp⟩:=shp_struct Go.Proofs.Tryz.underlying123 h
 match parts,hl with
 | [p0,p1],_ =>
  obtain ⟨k,rfl,hk⟩:=shp_int Go.Proofs.Tryz.underlying3 (hp 0 _ p0 rfl rfl).2
  obtain ⟨n,rfl,hn⟩:=shp_int Go.Proofs.Tryz.underlying3 (hp 1 _ p1 rfl rfl).2
  exact ⟨⟨k,n⟩,rfl,wf64 hk,wf64 hn⟩
theorem shp_Ds {n:Nat} {vs:List AV} (h:Shp Go.Proofs.Tryz.prog n 22 vs):∃ l:List Df,vs = [.sl (l.map encD)] ∧ l.length ≤ 140737488355328 ∧ ∀ d ∈ l,In64 d.cols ∧ In64 d.rows:=by
 obtain ⟨m,es,_,rfl,hl,hp⟩:=shp_slice Go.Proofs.Tryz.underlying22 h
 rw [bytesD] at hl
 obtain ⟨l,rfl,hq⟩:=map_of (f:=encD) (q:=fun d=>In64 d.cols ∧ In64 d.rows) fun x hx=>shp_D (hp x hx).2
 exact ⟨l,rfl,by simp [reachBytes] at hl; omega,hq⟩
theorem shp_C {n:Nat} {vs:List AV} (h:Shp Go.Proofs.Tryz.prog n 24 vs):∃ l:List Df,vs = [.sl (l.map encD)] ∧ l.length ≤ 140737488355328 ∧ ∀ d ∈ l,In64 d.cols ∧ In64 d.rows:=by
 obtain ⟨m,parts,_,rfl,hl,hp⟩:=shp_struct Go.Proofs.Tryz.underlying24 h
 match parts,hl with
 | [p0],_ =>
  obtain ⟨l,rfl,h1,h2⟩:=shp_Ds (hp 0 _ p0 rfl rfl).2
  exact ⟨l,rfl,h1,h2⟩
theorem shp_Is2 {n:Nat} {vs:List AV} (h:Shp Go.Proofs.Tryz.prog n 25 vs):∃ l:List Int,vs = [.sl (l.map encI)] ∧ l.length ≤ 140737488355328 ∧ ∀ x ∈ l,In64 x:=by
 obtain ⟨m,es,_,rfl,hl,hp⟩:=shp_slice Go.Proofs.Tryz.underlying25 h
 rw [bytesI] at hl
 obtain ⟨l,rfl,hq⟩:=map_of (f:=encI) (q:=fun x=>In64 x) fun x hx=>let ⟨v,hv,hw⟩:=shp_int Go.Proofs.Tryz.underlying3 (hp x hx).2; ⟨v,hv,wf64 hw⟩
 exact ⟨l,rfl,by simp [reachBytes] at hl; omega,hq⟩
theorem shp_Es {n:Nat} {vs:List AV} (h:Shp Go.Proofs.Tryz.prog n 26 vs):∃ l:List Ex,vs = [.sl (l.map encE)] ∧ l.length ≤ 140737488355328 ∧ ∀ e ∈ l,e.Ok ∧ e.In:=by
 obtain ⟨m,es,_,rfl,hl,hp⟩:=shp_slice Go.Proofs.Tryz.underlying26 h
 rw [bytesE] at hl
 obtain ⟨l,rfl,hq⟩:=map_of (f:=encE) (q:=fun e=>e.Ok ∧ e.In) fun x hx=>shp_E2 m (hp x hx).2
 exact ⟨l,rfl,by simp [reachBytes] at hl; omega,hq⟩
def Qy.In2 (q:Qy):Prop:=q.In ∧ (∀ x ∈ q.occ,In64 x) ∧ In64 q.ord
theorem shp_Q {n:Nat} {vs:List AV} (h:Shp Go.Proofs.Tryz.prog n 28 vs) (c:List Df) (hc:c.length ≤ 140737488355328):∃ q:Qy,vs = encQ q ∧ q.Raw c ∧ q.In2:=by
 obtain ⟨m,parts,_,rfl,hl,hp⟩:=shp_struct Go.Proofs.Tryz.underlying28 h
 match parts,hl with
 | [p0,p1,p2,p3,p4,p5],_ =>
  obtain ⟨occ,rfl,h0,i0⟩:=shp_Is2 (hp 0 _ p0 rfl rfl).2
  obtain ⟨p,rfl,h1,i1⟩:=shp_Es (hp 1 _ p1 rfl rfl).2
  obtain ⟨by_,rfl,i2⟩:=shp_int Go.Proofs.Tryz.underlying3 (hp 2 _ p2 rfl rfl).2
  obtain ⟨sums,rfl,h3,i3⟩:=shp_Is2 (hp 3 _ p3 rfl rfl).2
  obtain ⟨out,rfl,h4,i4⟩:=shp_Is2 (hp 4 _ p4 rfl rfl).2
  obtain ⟨ord,rfl,i5⟩:=shp_int Go.Proofs.Tryz.underlying3 (hp 5 _ p5 rfl rfl).2
  exact ⟨⟨occ,p,by_,sums,out,ord⟩,rfl,⟨hc,h0,h1,h3,h4,fun e he=>(i1 e he).1⟩,⟨i4,i3,wf64 i2⟩,i0,wf64 i5⟩
theorem asV_C (vs:List AV):asV Go.Proofs.Tryz.prog 24 vs = .agg vs:=by simp only [asV,Go.Proofs.Tryz.underlying24]
theorem asV_Q (vs:List AV):asV Go.Proofs.Tryz.prog 28 vs = .agg vs:=by simp only [asV,Go.Proofs.Tryz.underlying28]
theorem told_CQ {ts:List TypeId} {us:List AV} (h:ToldAll Go.Proofs.Tryz.prog (24 :: 28 :: ts) us) :
  ∃ (c:List Df) (q:Qy) (us':List AV),us = .agg [.sl (c.map encD)] :: .agg (encQ q) :: us' ∧ (c.length ≤ 140737488355328 ∧ ∀ d ∈ c,In64 d.cols ∧ In64 d.rows) ∧ q.Raw c ∧ q.In2 ∧ ToldAll Go.Proofs.Tryz.prog ts us':=by
 simp only [ToldAll] at h
 obtain ⟨n,vs,us1,rfl,h1,n2,vs2,us2,rfl,h2,h3⟩:=h
 obtain ⟨c,rfl,hc,hc2⟩:=shp_C h1
 obtain ⟨q,rfl,hq,hq2⟩:=shp_Q h2 c hc
 exact ⟨c,q,us2,by rw [asV_C,asV_Q],⟨hc,hc2⟩,hq,hq2,h3⟩
theorem told_I {ts:List TypeId} {us:List AV} (h:ToldAll Go.Proofs.Tryz.prog (3 :: ts) us):∃ (n:Int) (us':List AV),us = .int n :: us' ∧ In64 n ∧ ToldAll Go.Proofs.Tryz.prog ts us':=by
 simp only [ToldAll] at h
 obtain ⟨n,vs,us1,rfl,h1,h3⟩:=h
 obtain ⟨k,rfl,hk⟩:=shp_int Go.Proofs.Tryz.underlying3 h1
 exact ⟨k,us1,by rw [asV_I]; rfl,wf64 hk,h3⟩
theorem told_nil {us:List AV} (h:ToldAll Go.Proofs.Tryz.prog [] us):us = []:=by simpa only [ToldAll] using h
end
section
attribute [local push_cast] encE_mk encE_take encE_len encV encE_one encEs_pure encE_pure
def pair9:Ex:=.mk 6 0 0 0 [.mk 1 0 0 0 [], .mk 1 4 0 0 []]
def oneQ9:Qy:=⟨[0,1],[pair9],-1,[],[0],-1⟩
theorem pair9_cols:pair9.cols = [0,4]:=cols_of (by decide) (by decide) (by decide)
theorem pair9_set:setE pair9 = 3:=by unfold setE hasOcc; rw [pair9_cols]; decide +kernel
theorem oneQ9_p:oneQ9.p = [pair9]:=rfl
theorem oneQ9_may:oneQ9.may catTwo = true:=by
 unfold Qy.may
 rw [oneQ9_p]
 simp only [List.all_cons,List.all_nil,exIn,pair9_cols]
 decide +kernel
theorem oneQ9_idx (f:Ex → Bool):idxF f oneQ9.p = (if f pair9 then [0] else []):=by
 rw [oneQ9_p]
 cases h1:f pair9 <;> simp [idxF,upto,List.range_succ,h1]
theorem oneQ9_own (s:Int):oneQ9.own s = (if holdsI s 3 then [0] else []):=by
 rw [Qy.own,oneQ9_idx]
 simp only [ownT,pair9_set]
theorem oneQ9_rows (s:Int):rowsQ catTwo oneQ9 s = max 1 (times (rowsL catTwo oneQ9 s) / prodI ((if holdsI s 3 then [0] else []).map fun i:Int=>wE (oneQ9.p.getD i.toNat exO))):=by
 rw [rowsQ,if_pos oneQ9_may,Qy.fewer,oneQ9_own]
theorem oneQ9_3:rowsQ catTwo oneQ9 3 = 100:=by rw [oneQ9_rows]; decide +kernel
theorem oneQ9_1:rowsQ catTwo oneQ9 1 = 100:=by rw [oneQ9_rows]; decide +kernel
theorem oneQ9_b:baseR catTwo oneQ9 1 = 10:=by
 rw [baseR,if_pos ⟨oneQ9_may,by decide,by decide⟩]
 decide +kernel
theorem pair9_ok:pair9.Ok:=exOk2 exOk0 exOk0
theorem oneQ9_raw (c:List Df) (hc:c.length ≤ 140737488355328):oneQ9.Raw c:=by
 refine ⟨hc,by decide,by decide,by decide,by decide, ?_⟩
 rw [oneQ9_p]
 intro e he
 simp only [List.mem_cons,List.not_mem_nil,or_false] at he
 subst he
 exact pair9_ok
theorem oneQ9_few:fewQ catTwo oneQ9 = true:=by decide
theorem oneQ9_ok:oneQ9.Ok:=ok_of_few (oneQ9_raw catTwo (by decide)) oneQ9_few
end
section
attribute [local push_cast] encPl_mk encPl_take encPl_len encPl_one encPls_pure encPl_pure encT_pure encT_len encT_one encT_take
def q11:Qy:=⟨[0,1],[],-1,[],[0],-1⟩
def p11:Pl:=.mk 1 0 0 0 [.mk 0 0 0 0 [], .mk 0 1 0 0 []]
end
section
attribute [local push_cast] encPl_mk encPl_take encPl_len encPl_one encPls_pure encPl_pure encT_pure encT_len encT_one encT_take
section size
attribute [local push_cast] encT_mk encTs_pure
mutual
def szT:Tr → Int → Int
 | .mk _ l,m=>szTL l m 1
def szTL:List Tr → Int → Int → Int
 | [],_,n=>n
 | x :: l,m,n=>if n ≤ m then szTL l m (n + szT x (m - n)) else n
end
mutual
theorem szT_bound:∀ (e:Tr) (m:Int),0 ≤ m → 1 ≤ szT e m ∧ szT e m ≤ m + 1
 | .mk _ l,m,h=>by rw [szT]; exact szTL_bound l m 1 h (by omega) (by omega)
theorem szTL_bound:∀ (l:List Tr) (m n:Int),0 ≤ m → 1 ≤ n → n ≤ m + 1 → 1 ≤ szTL l m n ∧ szTL l m n ≤ m + 1
 | [],m,n,h,h1,h2=>by rw [szTL]; exact ⟨h1,h2⟩
 | x :: l,m,n,h,h1,h2=>by
  rw [szTL]
  split
  ·have:=szT_bound x (m - n) (by omega)
   exact szTL_bound l m _ h (by omega) (by omega)
  ·exact ⟨h1,h2⟩
end
theorem sizeT_ok (e:Tr):∀ (m:Int),0 ≤ m → m ≤ 1000 → e.Ok → Quiet Go.Proofs.Tryz.prog 43 [.agg (encT e), .int m] (.int (szT e m)):=by
 induction e using Tr.ind with
 | h o l ih =>
 intro m h0 h1 hok
 refine quiet_of (rs:=#[.tmp 4]) Go.Proofs.Tryz.func43 rfl rfl rfl mixed rfl rfl fun H hs=>?_
 obtain ⟨hl,hlo⟩:=hok
 simp -implicitDefEqProofs only [push_cast,Nat.reduceAdd,Nat.reduceSub,Nat.reduceMul,Nat.reduceLT,Nat.reduceLeDiff,Nat.reduceEqDiff,Nat.reduceBEq,reduceCtorEq,reduceIte,Int.reduceLE,Int.reduceLT,Int.reduceNeg,Int.reduceToNat]
 refine loop_at hs (σ:=Nat × Int) (fun s=>s.1 ≤ l.length ∧ 1 ≤ s.2 ∧ s.2 ≤ m + 1 ∧ szTL (l.drop s.1) m s.2 = szTL l m 1) (fun s=>l.length - s.1)
  (fun s=>[(2, .ptr (H.nxt + 0) 2 0 0),(1, .int m),(5, .int s.2),(6, .int s.1)]) (fun _=>[some (.cells 2 [encT (.mk o l)] 0)]) [some 0] (0,1) ⟨by simp,by omega,by omega,rfl⟩ rfl ?_ ?_ ?_
 ·(try simp -implicitDefEqProofs only [push_cast,Nat.reduceAdd,Nat.reduceSub,Nat.reduceMul,Nat.reduceLT,Nat.reduceLeDiff,Nat.reduceEqDiff,Nat.reduceBEq,reduceCtorEq,reduceIte,Int.reduceLE,Int.reduceLT,Int.reduceNeg,Int.reduceToNat])
 ·(try simp -implicitDefEqProofs only [push_cast,Nat.reduceAdd,Nat.reduceSub,Nat.reduceMul,Nat.reduceLT,Nat.reduceLeDiff,Nat.reduceEqDiff,Nat.reduceBEq,reduceCtorEq,reduceIte,Int.reduceLE,Int.reduceLT,Int.reduceNeg,Int.reduceToNat])
 rintro ⟨i,s⟩ ⟨h2,h3,h4,h5⟩
 dsimp only at h2 h3 h4 h5
 by_cases hi:i < l.length
 ·have hi':((i:Int) < (l.length:Int)) = True:=by simp; omega
  have hi0:(0 ≤ (i:Int)) = True:=by simp
  by_cases hm:s ≤ m
  ·have hm':(s ≤ m) = True:=by simp [hm]
   simp -implicitDefEqProofs only [push_cast,Nat.reduceAdd,Nat.reduceSub,Nat.reduceMul,Nat.reduceLT,Nat.reduceLeDiff,Nat.reduceEqDiff,Nat.reduceBEq,reduceCtorEq,reduceIte,Int.reduceLE,Int.reduceLT,Int.reduceNeg,Int.reduceToNat,hi',hi0,hm',encTs_get l i hi]
   rw [wrap64 (n:=m - s) (by omega) (by omega)]
   refine callq (ih _ (List.getElem_mem hi) _ (by omega) (by omega) (hlo _ (List.getElem_mem hi))) ?_
   have hb:=szT_bound l[i] (m - s) (by omega)
   simp -implicitDefEqProofs only [push_cast,Nat.reduceAdd,Nat.reduceSub,Nat.reduceMul,Nat.reduceLT,Nat.reduceLeDiff,Nat.reduceEqDiff,Nat.reduceBEq,reduceCtorEq,reduceIte,Int.reduceLE,Int.reduceLT,Int.reduceNeg,Int.reduceToNat]
   rw [wrap64 (n:=s + _) (by omega) (by omega),wrap64 (n:=(i:Int) + 1) (by omega) (by omega)]
   refine next_at [some 0] (i + 1,s + szT l[i] (m - s)) ⟨by omega,by omega,by omega, ?_⟩ (by dsimp only; omega) rfl ?_ ?_
   ·rw [← h5,List.drop_eq_getElem_cons hi,szTL,if_pos hm]
   ·(try simp -implicitDefEqProofs only [push_cast,Nat.reduceAdd,Nat.reduceSub,Nat.reduceMul,Nat.reduceLT,Nat.reduceLeDiff,Nat.reduceEqDiff,Nat.reduceBEq,reduceCtorEq,reduceIte,Int.reduceLE,Int.reduceLT,Int.reduceNeg,Int.reduceToNat])
   ·(try simp -implicitDefEqProofs only [push_cast,Nat.reduceAdd,Nat.reduceSub,Nat.reduceMul,Nat.reduceLT,Nat.reduceLeDiff,Nat.reduceEqDiff,Nat.reduceBEq,reduceCtorEq,reduceIte,Int.reduceLE,Int.reduceLT,Int.reduceNeg,Int.reduceToNat])
  ·have hm':(s ≤ m) = False:=by simp [hm]
   simp -implicitDefEqProofs only [push_cast,Nat.reduceAdd,Nat.reduceSub,Nat.reduceMul,Nat.reduceLT,Nat.reduceLeDiff,Nat.reduceEqDiff,Nat.reduceBEq,reduceCtorEq,reduceIte,Int.reduceLE,Int.reduceLT,Int.reduceNeg,Int.reduceToNat,hi',hi0,hm',encTs_get l i hi]
   rw [szT,← h5,List.drop_eq_getElem_cons hi,szTL,if_neg hm]
 ·have hi':((i:Int) < (l.length:Int)) = False:=by simp; omega
  simp -implicitDefEqProofs only [push_cast,Nat.reduceAdd,Nat.reduceSub,Nat.reduceMul,Nat.reduceLT,Nat.reduceLeDiff,Nat.reduceEqDiff,Nat.reduceBEq,reduceCtorEq,reduceIte,Int.reduceLE,Int.reduceLT,Int.reduceNeg,Int.reduceToNat,hi']
  rw [szT,← h5,List.drop_eq_nil_of_le (by omega),szTL]
end size
def firstT (i:Nat):Tr:=if i = 1 then .leaf 0 else .join (.leaf 0) (.leaf 1)
theorem First2_ok:Quiet Go.Proofs.Tryz.prog 95 [.int 2] (.agg (encT (.join (.leaf 0) (.leaf 1)))):=by
 have h2:firstT 2 = .join (.leaf 0) (.leaf 1):=rfl
 refine quiet_of (rs:=#[.cell 2 39]) Go.Proofs.Tryz.func95 rfl rfl rfl mixed rfl rfl fun H hs=>?_
 simp -implicitDefEqProofs only [push_cast,Nat.reduceAdd,Nat.reduceSub,Nat.reduceMul,Nat.reduceLT,Nat.reduceLeDiff,Nat.reduceEqDiff,Nat.reduceBEq,reduceCtorEq,reduceIte,Int.reduceLE,Int.reduceLT,Int.reduceNeg,Int.reduceToNat,Int.reduceEq]
 refine callq (Leaf_ok 0) ?_
 simp -implicitDefEqProofs only [push_cast,Nat.reduceAdd,Nat.reduceSub,Nat.reduceMul,Nat.reduceLT,Nat.reduceLeDiff,Nat.reduceEqDiff,Nat.reduceBEq,reduceCtorEq,reduceIte,Int.reduceLE,Int.reduceLT,Int.reduceNeg,Int.reduceToNat,Int.reduceEq]
 refine loop_at hs (σ:=Nat) (fun i=>i = 1 ∨ i = 2) (fun i=>2 - i)
  (fun i=>[(4, .int i),(0, .int 2),(2, .ptr (H.nxt + 0) 2 0 0),(3, .ptr (H.nxt + 1) 2 0 0)]) (fun i=>[some (.cells 2 [[.int 0, .sl []]] 0),some (.cells 2 [encT (firstT i)] 0)]) [some 0,some 1] 1 (.inl rfl) rfl ?_ ?_ ?_
 ·(try simp -implicitDefEqProofs only [push_cast,Nat.reduceAdd,Nat.reduceSub,Nat.reduceMul,Nat.reduceLT,Nat.reduceLeDiff,Nat.reduceEqDiff,Nat.reduceBEq,reduceCtorEq,reduceIte,Int.reduceLE,Int.reduceLT,Int.reduceNeg,Int.reduceToNat,Int.reduceAdd])
 ·(try simp -implicitDefEqProofs only [push_cast,Nat.reduceAdd,Nat.reduceSub,Nat.reduceMul,Nat.reduceLT,Nat.reduceLeDiff,Nat.reduceEqDiff,Nat.reduceBEq,reduceCtorEq,reduceIte,Int.reduceLE,Int.reduceLT,Int.reduceNeg,Int.reduceToNat,firstT,Tr.leaf,encT_mk,List.map_nil])
 rintro i (rfl | rfl)
 ·have hl:=Leaf_ok 1
  have hj:=Join_ok (.leaf 0) (.leaf 1)
  have e1:firstT 1 = .leaf 0:=rfl
  rw [e1]
  generalize Tr.leaf 0 = u at hj h2 ⊢
  generalize Tr.leaf 1 = v at hj hl h2
  simp -implicitDefEqProofs only [push_cast,Nat.reduceAdd,Nat.reduceSub,Nat.reduceMul,Nat.reduceLT,Nat.reduceLeDiff,Nat.reduceEqDiff,Nat.reduceBEq,reduceCtorEq,reduceIte,Int.reduceLE,Int.reduceLT,Int.reduceNeg,Int.reduceToNat,Int.reduceLT,Int.reduceAdd]
  refine areg_at 4 (by kernel_rfl) (by kernel_rfl) ?_
  simp -implicitDefEqProofs only [push_cast,Nat.reduceAdd,Nat.reduceSub,Nat.reduceMul,Nat.reduceLT,Nat.reduceLeDiff,Nat.reduceEqDiff,Nat.reduceBEq,reduceCtorEq,reduceIte,Int.reduceLE,Int.reduceLT,Int.reduceNeg,Int.reduceToNat]
  refine ahdq hl ?_
  simp -implicitDefEqProofs only [push_cast,Nat.reduceAdd,Nat.reduceSub,Nat.reduceMul,Nat.reduceLT,Nat.reduceLeDiff,Nat.reduceEqDiff,Nat.reduceBEq,reduceCtorEq,reduceIte,Int.reduceLE,Int.reduceLT,Int.reduceNeg,Int.reduceToNat]
  refine ahdq hj ?_
  have hd:(encT u).drop 2 = []:=List.drop_of_length_le (by rw [encT_len]; exact Nat.le_refl _)
  simp -implicitDefEqProofs only [push_cast,Nat.reduceAdd,Nat.reduceSub,Nat.reduceMul,Nat.reduceLT,Nat.reduceLeDiff,Nat.reduceEqDiff,Nat.reduceBEq,reduceCtorEq,reduceIte,Int.reduceLE,Int.reduceLT,Int.reduceNeg,Int.reduceToNat,hd]
  rw [show IntKind.wrap .i64 ((1:Int) + 1) = 2 by decide]
  refine next_at [some 0,some 1] 2 (.inr rfl) (by decide) rfl ?_ ?_
  ·(try simp -implicitDefEqProofs only [push_cast,Nat.reduceAdd,Nat.reduceSub,Nat.reduceMul,Nat.reduceLT,Nat.reduceLeDiff,Nat.reduceEqDiff,Nat.reduceBEq,reduceCtorEq,reduceIte,Int.reduceLE,Int.reduceLT,Int.reduceNeg,Int.reduceToNat,Int.reduceAdd])
  ·(try simp -implicitDefEqProofs only [push_cast,Nat.reduceAdd,Nat.reduceSub,Nat.reduceMul,Nat.reduceLT,Nat.reduceLeDiff,Nat.reduceEqDiff,Nat.reduceBEq,reduceCtorEq,reduceIte,Int.reduceLE,Int.reduceLT,Int.reduceNeg,Int.reduceToNat,h2,hd,List.append_nil])
 ·rw [h2]
  generalize Tr.join (.leaf 0) (.leaf 1) = u
  simp -implicitDefEqProofs only [push_cast,Nat.reduceAdd,Nat.reduceSub,Nat.reduceMul,Nat.reduceLT,Nat.reduceLeDiff,Nat.reduceEqDiff,Nat.reduceBEq,reduceCtorEq,reduceIte,Int.reduceLE,Int.reduceLT,Int.reduceNeg,Int.reduceToNat,Int.reduceLT,Int.reduceAdd]
theorem Two13_ok:Quiet Go.Proofs.Tryz.prog 94 [] (.agg (encQ oneQ9)):=by
 refine quiet_of (rs:=#[.cell 0 28]) Go.Proofs.Tryz.func94 rfl rfl rfl mixed rfl rfl fun H hs=>?_
 simp -implicitDefEqProofs only [push_cast,Nat.reduceAdd,Nat.reduceSub,Nat.reduceMul,Nat.reduceLT,Nat.reduceLeDiff,Nat.reduceEqDiff,Nat.reduceBEq,reduceCtorEq,reduceIte,Int.reduceLE,Int.reduceLT,Int.reduceNeg,Int.reduceToNat]
 (try simp -implicitDefEqProofs only [push_cast,Nat.reduceAdd,Nat.reduceSub,Nat.reduceMul,Nat.reduceLT,Nat.reduceLeDiff,Nat.reduceEqDiff,Nat.reduceBEq,reduceCtorEq,reduceIte,Int.reduceLE,Int.reduceLT,Int.reduceNeg,Int.reduceToNat,oneQ9,pair9,encQ,encI,encE_mk,List.map_cons,List.map_nil])
theorem leafV (c:List Df) (q:Qy) (d:Nat) (o:Int):bestF c q (d + 1) (.leaf o) (-1) = (costP c q (.mk 0 o 0 0 []), .mk 0 o 0 0 []):=by rw [bestF,if_pos rfl]; rfl
theorem leafS (c:List Df) (q:Qy) (d:Nat) (o col:Int) (hcol:col ≠ -1):bestF c q (d + 1) (.leaf o) col = sortC c q (.leaf o) col (bestF c q (d + 1) (.leaf o) (-1)):=by
 rw [bestF,bestF,if_neg hcol,if_pos rfl]
 have e:candC c q (bestF c q d) (.leaf o) col = []:=by show (if col = -1 then _ else _) = _; rw [if_neg hcol]
 rw [e]; rfl
theorem joinV (c:List Df) (q:Qy) (d:Nat) (a b:Tr) (col:Int):bestF c q (d + 1) (.join a b) col = leastC ((waysP q a.set b.set col).flatMap (wayC c q (bestF c q d a) (bestF c q d b) a.set b.set col) ++ (if col = -1 then [] else [sortC c q (.join a b) col (bestF c q (d + 1) (.join a b) (-1))])):=by
 rw [bestF]
 by_cases h:col = -1
 ·subst h
  rw [if_pos rfl,if_pos rfl,List.append_nil]; rfl
 ·rw [if_neg h,if_neg h,bestF,if_pos rfl]; rfl
theorem set0:(Tr.leaf 0).set = 1:=by decide +kernel
theorem set1:(Tr.leaf 1).set = 2:=by decide +kernel
theorem set01:(Tr.join (.leaf 0) (.leaf 1)).set = 3:=by decide +kernel
theorem oneQ9_2:rowsQ catTwo oneQ9 2 = 10:=by rw [oneQ9_rows]; decide +kernel
theorem oneQ9_b0:baseR catTwo oneQ9 0 = 100:=by
 rw [baseR,if_pos ⟨oneQ9_may,by decide,by decide⟩]
 decide +kernel
theorem leaf9_may {o:Int} (h:o = 0 ∨ o = 1):mayP catTwo oneQ9 (.mk 0 o 0 0 []) = true:=by
 rcases h with rfl | rfl
 ·exact mayP_iff.2 ⟨oneQ9_may,rfl,by decide +kernel,by decide +kernel,rfl⟩
 ·exact mayP_iff.2 ⟨oneQ9_may,rfl,by decide +kernel,by decide +kernel,rfl⟩
theorem leaf9_0:costP catTwo oneQ9 (.mk 0 0 0 0 []) = 100:=by
 rw [costP_tree (leaf9_may (.inl rfl))]
 show scanK (baseR catTwo oneQ9 0) = 100
 rw [oneQ9_b0]; decide
theorem leaf9_1:costP catTwo oneQ9 (.mk 0 1 0 0 []) = 10:=by
 rw [costP_tree (leaf9_may (.inr rfl))]
 show scanK (baseR catTwo oneQ9 1) = 10
 rw [oneQ9_b]; decide
theorem oneQ9_new (a b:Int):oneQ9.new a b = (if holdsI (bor .i64 a b) 3 && !holdsI a 3 && !holdsI b 3 then [0] else []):=by
 rw [Qy.new,oneQ9_idx]
 simp only [newT,ownT,pair9_set]
theorem oneQ9_pairs:oneQ9.pairs 1 2 = [(0,4)]:=by
 rw [Qy.pairs,oneQ9_new]
 decide +kernel
theorem oneQ9_cols0:(oneQ9.cols catTwo 1).contains 0 = true:=by rw [Qy.cols,if_pos oneQ9_may]; decide +kernel
theorem oneQ9_cols3:(oneQ9.cols catTwo 3).contains 0 = true:=by rw [Qy.cols,if_pos oneQ9_may]; decide +kernel
theorem ways9:waysP oneQ9 1 2 (-1) = [nestW, .mk 2 0 0 4 [], .mk 3 0 0 4 []]:=by unfold waysP; rw [oneQ9_pairs]; rfl
theorem ways9c:waysP oneQ9 1 2 0 = [nestW, .mk 3 0 0 4 []]:=by unfold waysP; rw [oneQ9_pairs]; rfl
theorem b9_0:bestF catTwo oneQ9 3 (.leaf 0) (-1) = (100, .mk 0 0 0 0 []):=by rw [leafV,leaf9_0]
theorem b9_1:bestF catTwo oneQ9 3 (.leaf 1) (-1) = (10, .mk 0 1 0 0 []):=by rw [leafV,leaf9_1]
theorem b9_0s:bestF catTwo oneQ9 3 (.leaf 0) 0 = (800, .mk 4 0 0 0 [.mk 0 0 0 0 []]):=by
 rw [leafS _ _ _ _ _ (by decide),b9_0,sortC,set0,sortedC,oneQ9_1]
 exact congrArg (fun n:Int=>(n,Pl.mk 4 0 0 0 [Pl.mk 0 0 0 0 []])) (by decide +kernel:addK [100,sortK 100] = 800)
theorem b9_1s:bestF catTwo oneQ9 3 (.leaf 1) 4 = (50, .mk 4 0 4 0 [.mk 0 1 0 0 []]):=by
 rw [leafS _ _ _ _ _ (by decide),b9_1,sortC,set1,sortedC,oneQ9_2]
 exact congrArg (fun n:Int=>(n,Pl.mk 4 0 4 0 [Pl.mk 0 1 0 0 []])) (by decide +kernel:addK [10,sortK 10] = 50)
theorem w9_n (col:Int):wayC catTwo oneQ9 (bestF catTwo oneQ9 3 (.leaf 0)) (bestF catTwo oneQ9 3 (.leaf 1)) 1 2 col nestW = if col ≠ -1 ∧ (oneQ9.cols catTwo 1).contains col = false then [] else [(addK [(bestF catTwo oneQ9 3 (.leaf 0) col).1,(bestF catTwo oneQ9 3 (.leaf 1) (-1)).1,nestK (rowsQ catTwo oneQ9 1) (rowsQ catTwo oneQ9 2)], .mk 1 0 0 0 [(bestF catTwo oneQ9 3 (.leaf 0) col).2,(bestF catTwo oneQ9 3 (.leaf 1) (-1)).2])]:=rfl
theorem w9_h (col:Int):wayC catTwo oneQ9 (bestF catTwo oneQ9 3 (.leaf 0)) (bestF catTwo oneQ9 3 (.leaf 1)) 1 2 col (.mk 2 0 0 4 []) = [(addK [(bestF catTwo oneQ9 3 (.leaf 0) (-1)).1,(bestF catTwo oneQ9 3 (.leaf 1) (-1)).1,hashK (rowsQ catTwo oneQ9 1) (rowsQ catTwo oneQ9 2)], .mk 2 0 0 4 [(bestF catTwo oneQ9 3 (.leaf 0) (-1)).2,(bestF catTwo oneQ9 3 (.leaf 1) (-1)).2])]:=by
 unfold wayC
 rw [if_neg (fun h=>h.1 rfl)]; rfl
theorem w9_m (col:Int):wayC catTwo oneQ9 (bestF catTwo oneQ9 3 (.leaf 0)) (bestF catTwo oneQ9 3 (.leaf 1)) 1 2 col (.mk 3 0 0 4 []) = [(addK [(bestF catTwo oneQ9 3 (.leaf 0) 0).1,(bestF catTwo oneQ9 3 (.leaf 1) 4).1,mergeK (rowsQ catTwo oneQ9 1) (rowsQ catTwo oneQ9 2)], .mk 3 0 0 4 [(bestF catTwo oneQ9 3 (.leaf 0) 0).2,(bestF catTwo oneQ9 3 (.leaf 1) 4).2])]:=by
 unfold wayC
 rw [if_neg (fun h=>by have h2:(oneQ9.cols catTwo 1).contains 0 = false:=h.2; rw [oneQ9_cols0] at h2; cases h2)]; rfl
theorem b9_j:bestF catTwo oneQ9 4 (.join (.leaf 0) (.leaf 1)) (-1) = (230, .mk 2 0 0 4 [.mk 0 0 0 0 [], .mk 0 1 0 0 []]):=by
 rw [joinV,set0,set1,ways9,List.flatMap_cons,List.flatMap_cons,List.flatMap_cons,List.flatMap_nil,w9_n,w9_h,w9_m,if_neg (fun h=>h.1 rfl),b9_0,b9_1,b9_0s,b9_1s,oneQ9_1,oneQ9_2,if_pos rfl]
 rfl
theorem b9_js:bestF catTwo oneQ9 4 (.join (.leaf 0) (.leaf 1)) 0 = (930, .mk 4 0 0 0 [.mk 2 0 0 4 [.mk 0 0 0 0 [], .mk 0 1 0 0 []]]):=by
 rw [joinV,set0,set1,ways9c,List.flatMap_cons,List.flatMap_cons,List.flatMap_nil,w9_n,w9_m,if_neg (fun h=>by have h2:=h.2; rw [oneQ9_cols0] at h2; cases h2),b9_j,sortC,set01,sortedC,b9_1,b9_0s,b9_1s,oneQ9_1,oneQ9_2,oneQ9_3,if_neg (by decide)]
 rfl
theorem valid9 {col:Int} (h:col = -1 ∨ col = 0):validT catTwo oneQ9 (.join (.leaf 0) (.leaf 1)) col = true:=by
 unfold validT
 rw [oneQ9_may,set01]
 rcases h with rfl | rfl
 ·decide +kernel
 ·rw [oneQ9_cols3]
  decide +kernel
theorem bestR9 {col n:Int} {p:Pl} (h:col = -1 ∨ col = 0) (hb:bestF catTwo oneQ9 4 (.join (.leaf 0) (.leaf 1)) col = (n,p)):bestR catTwo oneQ9 (.join (.leaf 0) (.leaf 1)) col = (n,p,true):=by
 rw [bestR,if_pos (valid9 h),hb]
set_option maxHeartbeats 2000000 in
theorem awake13_ok:Quiet Go.Proofs.Tryz.prog 41 [] (.bool true):=by
 have hto:(Tr.join (.leaf 0) (.leaf 1)).Ok:=treeP_ok (.mk 1 0 0 0 [.mk 0 0 0 0 [], .mk 0 1 0 0 []])
 have hB1:=Best_ok catTwo (by decide) oneQ9 oneQ9_ok (by decide) _ hto (-1)
 rw [bestR9 (.inl rfl) b9_j] at hB1
 have hB2:=Best_ok catTwo (by decide) oneQ9 oneQ9_ok (by decide) _ hto 0
 rw [bestR9 (.inr rfl) b9_js] at hB2
 have hW:=Ways_ok oneQ9 oneQ9_ok 1 2 (-1)
 rw [ways9] at hW
 have hF:=First2_ok
 have hT:=Two13_ok
 dsimp only at hB1 hB2
 generalize Tr.join (.leaf 0) (.leaf 1) = t at hB1 hB2 hF
 rw [encPl_mk] at hB1 hB2
 generalize [Pl.mk 0 0 0 0 [],Pl.mk 0 1 0 0 []] = l1 at hB1
 generalize [Pl.mk 2 0 0 4 _] = l2 at hB2
 generalize oneQ9 = q at hB1 hB2 hW hT
 refine quiet_of (rs:=#[.tmp 0]) Go.Proofs.Tryz.func41 rfl rfl rfl mixed rfl rfl fun H hs=>?_
 simp -implicitDefEqProofs only [push_cast,Nat.reduceAdd,Nat.reduceSub,Nat.reduceMul,Nat.reduceLT,Nat.reduceLeDiff,Nat.reduceEqDiff,Nat.reduceBEq,reduceCtorEq,reduceIte,Int.reduceLE,Int.reduceLT,Int.reduceNeg,Int.reduceToNat]
 refine callq Two_ok ?_
 simp -implicitDefEqProofs only [push_cast,Nat.reduceAdd,Nat.reduceSub,Nat.reduceMul,Nat.reduceLT,Nat.reduceLeDiff,Nat.reduceEqDiff,Nat.reduceBEq,reduceCtorEq,reduceIte,Int.reduceLE,Int.reduceLT,Int.reduceNeg,Int.reduceToNat]
 refine ⟨rfl, ?_⟩
 refine areg_at 12 (by kernel_rfl) (by kernel_rfl) ?_
 simp -implicitDefEqProofs only [push_cast,Nat.reduceAdd,Nat.reduceSub,Nat.reduceMul,Nat.reduceLT,Nat.reduceLeDiff,Nat.reduceEqDiff,Nat.reduceBEq,reduceCtorEq,reduceIte,Int.reduceLE,Int.reduceLT,Int.reduceNeg,Int.reduceToNat]
 refine ahdq hT ?_
 simp -implicitDefEqProofs only [push_cast,Nat.reduceAdd,Nat.reduceSub,Nat.reduceMul,Nat.reduceLT,Nat.reduceLeDiff,Nat.reduceEqDiff,Nat.reduceBEq,reduceCtorEq,reduceIte,Int.reduceLE,Int.reduceLT,Int.reduceNeg,Int.reduceToNat]
 refine ahdq hF ?_
 simp -implicitDefEqProofs only [push_cast,Nat.reduceAdd,Nat.reduceSub,Nat.reduceMul,Nat.reduceLT,Nat.reduceLeDiff,Nat.reduceEqDiff,Nat.reduceBEq,reduceCtorEq,reduceIte,Int.reduceLE,Int.reduceLT,Int.reduceNeg,Int.reduceToNat]
 refine ahdq hB1 ?_
 simp -implicitDefEqProofs only [push_cast,Nat.reduceAdd,Nat.reduceSub,Nat.reduceMul,Nat.reduceLT,Nat.reduceLeDiff,Nat.reduceEqDiff,Nat.reduceBEq,reduceCtorEq,reduceIte,Int.reduceLE,Int.reduceLT,Int.reduceNeg,Int.reduceToNat]
 refine areg_at 12 (by kernel_rfl) (by kernel_rfl) ?_
 simp -implicitDefEqProofs only [push_cast,Nat.reduceAdd,Nat.reduceSub,Nat.reduceMul,Nat.reduceLT,Nat.reduceLeDiff,Nat.reduceEqDiff,Nat.reduceBEq,reduceCtorEq,reduceIte,Int.reduceLE,Int.reduceLT,Int.reduceNeg,Int.reduceToNat]
 refine ahdq hT ?_
 simp -implicitDefEqProofs only [push_cast,Nat.reduceAdd,Nat.reduceSub,Nat.reduceMul,Nat.reduceLT,Nat.reduceLeDiff,Nat.reduceEqDiff,Nat.reduceBEq,reduceCtorEq,reduceIte,Int.reduceLE,Int.reduceLT,Int.reduceNeg,Int.reduceToNat]
 refine ahdq hF ?_
 simp -implicitDefEqProofs only [push_cast,Nat.reduceAdd,Nat.reduceSub,Nat.reduceMul,Nat.reduceLT,Nat.reduceLeDiff,Nat.reduceEqDiff,Nat.reduceBEq,reduceCtorEq,reduceIte,Int.reduceLE,Int.reduceLT,Int.reduceNeg,Int.reduceToNat]
 refine ahdq hB2 ?_
 simp -implicitDefEqProofs only [push_cast,Nat.reduceAdd,Nat.reduceSub,Nat.reduceMul,Nat.reduceLT,Nat.reduceLeDiff,Nat.reduceEqDiff,Nat.reduceBEq,reduceCtorEq,reduceIte,Int.reduceLE,Int.reduceLT,Int.reduceNeg,Int.reduceToNat,Int.reduceEq]
 refine gcallq' (.agg (encQ q)) (fun _=>trivial) (fun _=>hT) ?_
 simp -implicitDefEqProofs only [push_cast,Nat.reduceAdd,Nat.reduceSub,Nat.reduceMul,Nat.reduceLT,Nat.reduceLeDiff,Nat.reduceEqDiff,Nat.reduceBEq,reduceCtorEq,reduceIte,Int.reduceLE,Int.reduceLT,Int.reduceNeg,Int.reduceToNat]
 refine gcallq' _ (fun _=>trivial) (fun _=>hW) ?_
 simp -implicitDefEqProofs only [push_cast,Nat.reduceAdd,Nat.reduceSub,Nat.reduceMul,Nat.reduceLT,Nat.reduceLeDiff,Nat.reduceEqDiff,Nat.reduceBEq,reduceCtorEq,reduceIte,Int.reduceLE,Int.reduceLT,Int.reduceNeg,Int.reduceToNat,Int.reduceAdd,Int.reduceEq]
theorem bytesT:Program.bytesOf Go.Proofs.Tryz.prog 39 = 32:=by kernel_rfl
theorem shp_T:∀ (n:Nat) {vs:List AV},Shp Go.Proofs.Tryz.prog n 39 vs → ∃ p:Tr,vs = encT p ∧ p.Ok:=by
 intro n
 induction n using Nat.strongRecOn with
 | ind n ih =>
 intro vs h
 obtain ⟨m,parts,hn,rfl,hl,hp⟩:=shp_struct Go.Proofs.Tryz.underlying39 h
 match parts,hl with
 | [p0,p1],_ =>
  obtain ⟨occ,rfl,_⟩:=shp_int Go.Proofs.Tryz.underlying3 (hp 0 _ p0 rfl rfl).2
  obtain ⟨m',es,hm,rfl,hle,hpe⟩:=shp_slice Go.Proofs.Tryz.underlying37 (hp 1 _ p1 rfl rfl).2
  rw [bytesT] at hle
  obtain ⟨l,rfl,hq⟩:=map_of (f:=encT) (q:=fun e=>e.Ok) fun x hx=>ih m' (by omega) (hpe x hx).2
  refine ⟨.mk occ l,by rw [encT_mk]; rfl, .mk ?_ fun x hx=>hq x hx⟩
  simp [reachBytes] at hle
  omega
theorem asV_T (vs:List AV):asV Go.Proofs.Tryz.prog 39 vs = .agg vs:=by simp only [asV,Go.Proofs.Tryz.underlying39]
theorem told_T {ts:List TypeId} {us:List AV} (h:ToldAll Go.Proofs.Tryz.prog (39 :: ts) us):∃ (p:Tr) (us':List AV),us = .agg (encT p) :: us' ∧ p.Ok ∧ ToldAll Go.Proofs.Tryz.prog ts us':=by
 simp only [ToldAll] at h
 obtain ⟨n,vs,us1,rfl,h1,h3⟩:=h
 obtain ⟨p,rfl,hk⟩:=shp_T n h1
 exact ⟨p,us1,by rw [asV_T],hk,h3⟩
theorem few_ok' (p:Pl):p.few = true → p.Ok:=by
 induction p using Pl.ind with
 | h op occ a b l ih =>
 intro h
 have hl:=form_len (few_own h)
 exact .mk (by simp only [Pl.l] at hl; omega) fun x hx=>ih x hx (few_part h hx)
theorem valid_split {c:List Df} {q:Qy} {t:Tr} {col:Int} (h:validT c q t col = true):q.may c = true ∧ t.may = true ∧ t.set < 2 ^ q.occ.length ∧ (col = -1 ∨ (q.cols c t.set).contains col = true):=by
 unfold validT at h
 simp only [Bool.and_eq_true,Bool.or_eq_true,decide_eq_true_eq] at h
 exact ⟨h.1.1.1,h.1.1.2,h.1.2,h.2⟩
theorem valid_good {c:List Df} {q:Qy} {t:Tr} {col:Int} (h:validT c q t col = true):Good c q 4 t col (bestF c q 4 t col):=by
 obtain ⟨h1,h2,h3,h4⟩:=valid_split h
 exact best_good h1 4 t col (Nat.le_refl _) h2 h3 h4
end
section
attribute [local push_cast] encPl_mk encPl_take encPl_len encPl_one encPls_pure encPl_pure encT_pure encT_len encT_one encT_take
theorem SortedR_ok (c:List Df) (hcl:c.length ≤ 1000000) (q:Qy) (hq:q.Ok) (hqi:q.In) (s n:Int):Quiet Go.Proofs.Tryz.prog 50 [.agg [.sl (c.map encD)], .agg (encQ q), .int s, .int n] (.int (sortedC c q s n)):=by
 have hR:=RowsR_ok c hcl q hq hqi s
 have hA:=Add10_ok [n,sortK (rowsQ c q s)] (by simp)
 refine quiet_of (rs:=#[.tmp 8]) Go.Proofs.Tryz.func50 rfl rfl rfl mixed rfl rfl fun H hs=>?_
 simp -implicitDefEqProofs only [push_cast,Nat.reduceAdd,Nat.reduceSub,Nat.reduceMul,Nat.reduceLT,Nat.reduceLeDiff,Nat.reduceEqDiff,Nat.reduceBEq,reduceCtorEq,reduceIte,Int.reduceLE,Int.reduceLT,Int.reduceNeg,Int.reduceToNat,encQ]
 refine callq hR ?_
 simp -implicitDefEqProofs only [push_cast,Nat.reduceAdd,Nat.reduceSub,Nat.reduceMul,Nat.reduceLT,Nat.reduceLeDiff,Nat.reduceEqDiff,Nat.reduceBEq,reduceCtorEq,reduceIte,Int.reduceLE,Int.reduceLT,Int.reduceNeg,Int.reduceToNat,encQ]
 refine callq (Sort10_ok _) ?_
 simp -implicitDefEqProofs only [push_cast,Nat.reduceAdd,Nat.reduceSub,Nat.reduceMul,Nat.reduceLT,Nat.reduceLeDiff,Nat.reduceEqDiff,Nat.reduceBEq,reduceCtorEq,reduceIte,Int.reduceLE,Int.reduceLT,Int.reduceNeg,Int.reduceToNat,encQ]
 refine fzk H 2 2 [.sl ([n,sortK (rowsQ c q s)].map encI)] (by rfl) (by omega) (by simp) ?_ ?_
 ·(try simp -implicitDefEqProofs only [push_cast,Nat.reduceAdd,Nat.reduceSub,Nat.reduceMul,Nat.reduceLT,Nat.reduceLeDiff,Nat.reduceEqDiff,Nat.reduceBEq,reduceCtorEq,reduceIte,Int.reduceLE,Int.reduceLT,Int.reduceNeg,Int.reduceToNat,encI,List.map_cons,List.map_nil])
 refine callq hA ?_
 simp -implicitDefEqProofs only [push_cast,Nat.reduceAdd,Nat.reduceSub,Nat.reduceMul,Nat.reduceLT,Nat.reduceLeDiff,Nat.reduceEqDiff,Nat.reduceBEq,reduceCtorEq,reduceIte,Int.reduceLE,Int.reduceLT,Int.reduceNeg,Int.reduceToNat,sortedC]
theorem innerL_none (col:Int) (ps:List (Int × Int)) (h:col ≠ -1):innerL 2 col ps = []:=by
 unfold innerL
 rw [List.filter_eq_nil_iff.2,List.map_nil]
 intro p _
 simp [h]
theorem hash_all (ps:List (Int × Int)) (i:Nat) (h:i < ps.length):innerL 2 (-1) (ps.take (i + 1)) = innerL 2 (-1) (ps.take i) ++ [.mk 2 0 ps[i].1 ps[i].2 []]:=by
 rw [innerL_snoc 2 (-1) ps i h]; rfl
theorem curW_len' (B:List Pl) (op col:Int) (ps:List (Int × Int)) (i:Nat):(curW B op col ps i).length ≤ B.length + i:=by
 rw [curW,List.length_append]
 have:=innerL_len op col (ps.take i)
 rw [List.length_take] at this
 omega
set_option maxHeartbeats 4000000 in
theorem WaysR_ok (q:Qy) (hq:q.Ok) (a b col:Int):Quiet Go.Proofs.Tryz.prog 48 [.agg (encQ q), .int a, .int b, .int col] (.sl ((waysP q a b col).map encPl)):=by
 have hP:=PairsR_ok q hq a b
 have hple:=pairs_le q hq a b
 unfold waysP
 generalize q.pairs a b = ps at hP hple ⊢
 have e1:[nestW] ++ innerL 2 col ps ++ innerL 3 col ps = curW (curW [nestW] 2 col ps ps.length) 3 col ps ps.length:=by rw [curW,curW,List.take_length]
 rw [e1]
 refine quiet_of (rs:=#[.tmp 8]) Go.Proofs.Tryz.func48 rfl rfl rfl mixed rfl rfl fun H hs=>?_
 simp -implicitDefEqProofs only [push_cast,Nat.reduceAdd,Nat.reduceSub,Nat.reduceMul,Nat.reduceLT,Nat.reduceLeDiff,Nat.reduceEqDiff,Nat.reduceBEq,reduceCtorEq,reduceIte,Int.reduceLE,Int.reduceLT,Int.reduceNeg,Int.reduceToNat,encQ]
 refine callq hP ?_
 simp -implicitDefEqProofs only [push_cast,Nat.reduceAdd,Nat.reduceSub,Nat.reduceMul,Nat.reduceLT,Nat.reduceLeDiff,Nat.reduceEqDiff,Nat.reduceBEq,reduceCtorEq,reduceIte,Int.reduceLE,Int.reduceLT,Int.reduceNeg,Int.reduceToNat,encQ]
 refine loop_at hs (σ:=Nat) (fun i=>i ≤ ps.length ∧ (col ≠ -1 → i = 0)) (fun i=>ps.length - i)
  (fun i=>[(11, .int i),(10, .sl (ps.map encP)),(3, .int col),(9, .rsl (H.nxt + 1) 5 0 (curW [nestW] 2 col ps i).length)])
  (fun i=>[none,some (.cells 5 ((curW [nestW] 2 col ps i).map encPl) 0)]) [none,some 1] 0 ⟨by omega,fun _=>rfl⟩ rfl ?_ ?_ ?_
 ·(try simp -implicitDefEqProofs only [push_cast,Nat.reduceAdd,Nat.reduceSub,Nat.reduceMul,Nat.reduceLT,Nat.reduceLeDiff,Nat.reduceEqDiff,Nat.reduceBEq,reduceCtorEq,reduceIte,Int.reduceLE,Int.reduceLT,Int.reduceNeg,Int.reduceToNat,curW_zero,rowP_pure,Int.reduceAdd,List.length_singleton])
 ·(try simp -implicitDefEqProofs only [push_cast,Nat.reduceAdd,Nat.reduceSub,Nat.reduceMul,Nat.reduceLT,Nat.reduceLeDiff,Nat.reduceEqDiff,Nat.reduceBEq,reduceCtorEq,reduceIte,Int.reduceLE,Int.reduceLT,Int.reduceNeg,Int.reduceToNat,curW_zero,nestW,List.map_cons,List.map_nil])
 rintro i ⟨hi2,hi3⟩
 have hcl1:=curW_len' [nestW] 2 col ps i
 rw [List.length_singleton] at hcl1
 by_cases hi:i < ps.length ∧ col = -1
 ·obtain ⟨hi,rfl⟩:=hi
  have hi':((i:Int) < (ps.length:Int)) = True:=by simp; omega
  have hi0:(0 ≤ (i:Int)) = True:=by simp
  have hps:=encPs_get ps i hi
  rw [encP] at hps
  have hcs:curW [nestW] 2 (-1) ps (i + 1) = curW [nestW] 2 (-1) ps i ++ [.mk 2 0 ps[i].1 ps[i].2 []]:=by rw [curW,hash_all ps i hi,← List.append_assoc]; rfl
  generalize ps[i].1 = u at hps hcs
  generalize ps[i].2 = v at hps hcs
  generalize curW [nestW] 2 (-1) ps i = row at hcs hcl1 ⊢
  simp -implicitDefEqProofs only [push_cast,Nat.reduceAdd,Nat.reduceSub,Nat.reduceMul,Nat.reduceLT,Nat.reduceLeDiff,Nat.reduceEqDiff,Nat.reduceBEq,reduceCtorEq,reduceIte,Int.reduceLE,Int.reduceLT,Int.reduceNeg,Int.reduceToNat,hi',hi0,hps,Int.reduceEq]
  have hrw:(curW [nestW] 2 (-1) ps (i + 1)).map encPl = row.map encPl ++ [encPl (.mk 2 0 u v [])]:=by rw [hcs,List.map_append]; rfl
  have hln:(curW [nestW] 2 (-1) ps (i + 1)).length = row.length + 1:=by rw [hcs,List.length_append]; rfl
  have hcap:List.take row.length (row.map encPl) = row.map encPl:=List.take_of_length_le (by simp)
  rw [wrap64 (n:=(i:Int) + 1) (by omega) (by omega)]
  refine ⟨by omega,next_at [none,some 3] (i + 1) (by omega) (by omega) rfl ?_ ?_⟩
  ·(try simp -implicitDefEqProofs only [push_cast,Nat.reduceAdd,Nat.reduceSub,Nat.reduceMul,Nat.reduceLT,Nat.reduceLeDiff,Nat.reduceEqDiff,Nat.reduceBEq,reduceCtorEq,reduceIte,Int.reduceLE,Int.reduceLT,Int.reduceNeg,Int.reduceToNat,hln,rowP_pure])
  ·(try simp -implicitDefEqProofs only [push_cast,Nat.reduceAdd,Nat.reduceSub,Nat.reduceMul,Nat.reduceLT,Nat.reduceLeDiff,Nat.reduceEqDiff,Nat.reduceBEq,reduceCtorEq,reduceIte,Int.reduceLE,Int.reduceLT,Int.reduceNeg,Int.reduceToNat,hcap,encPls_pure])
   rw [hrw]
   refine ⟨sealLL_snoc (sealLL_pure _ _ _ (encPls_pure row)) ?_,fun e he=>?_⟩
   ·(try simp -implicitDefEqProofs only [push_cast,Nat.reduceAdd,Nat.reduceSub,Nat.reduceMul,Nat.reduceLT,Nat.reduceLeDiff,Nat.reduceEqDiff,Nat.reduceBEq,reduceCtorEq,reduceIte,Int.reduceLE,Int.reduceLT,Int.reduceNeg,Int.reduceToNat,List.map_nil])
   ·rw [← hrw] at he; exact encPls_all5 _ e he
 have hend:curW [nestW] 2 col ps i = curW [nestW] 2 col ps ps.length:=by
  by_cases hc:col = -1
  ·have:i = ps.length:=by
    rcases Nat.lt_or_ge i ps.length with h | h
    ·exact absurd ⟨h,hc⟩ hi
    ·omega
   rw [this]
  ·rw [curW,curW,innerL_none _ _ hc,innerL_none _ _ hc]
 have hcnd:(decide ((i:Int) < (ps.length:Int)) && decide (col = -1)) = false:=by
  rcases Decidable.not_and_iff_or_not.1 hi with h | h
  ·rw [decide_eq_false (by omega)]; rfl
  ·rw [decide_eq_false h,Bool.and_false]
 have hcl2:=curW_len' [nestW] 2 col ps ps.length
 rw [List.length_singleton] at hcl2
 rw [hend]
 generalize curW [nestW] 2 col ps ps.length = B at hcl2 ⊢
 simp -implicitDefEqProofs only [push_cast,Nat.reduceAdd,Nat.reduceSub,Nat.reduceMul,Nat.reduceLT,Nat.reduceLeDiff,Nat.reduceEqDiff,Nat.reduceBEq,reduceCtorEq,reduceIte,Int.reduceLE,Int.reduceLT,Int.reduceNeg,Int.reduceToNat,hcnd]
 clear hend hi hi2 hi3 hcl1 hcnd e1
 refine loop_at hs (σ:=Nat) (fun i=>i ≤ ps.length) (fun i=>ps.length - i)
  (fun i=>[(12, .int i),(10, .sl (ps.map encP)),(3, .int col),(9, .rsl (H.nxt + 1) 5 0 (curW B 3 col ps i).length)])
  (fun i=>[none,some (.cells 5 ((curW B 3 col ps i).map encPl) 0)]) [none,some 1] 0 (by omega) rfl ?_ ?_ ?_
 ·(try simp -implicitDefEqProofs only [push_cast,Nat.reduceAdd,Nat.reduceSub,Nat.reduceMul,Nat.reduceLT,Nat.reduceLeDiff,Nat.reduceEqDiff,Nat.reduceBEq,reduceCtorEq,reduceIte,Int.reduceLE,Int.reduceLT,Int.reduceNeg,Int.reduceToNat,curW_zero,rowP_pure])
 ·(try simp -implicitDefEqProofs only [push_cast,Nat.reduceAdd,Nat.reduceSub,Nat.reduceMul,Nat.reduceLT,Nat.reduceLeDiff,Nat.reduceEqDiff,Nat.reduceBEq,reduceCtorEq,reduceIte,Int.reduceLE,Int.reduceLT,Int.reduceNeg,Int.reduceToNat,curW_zero,encPls_pure])
  exact encPls_all5 _
 intro i hi2
 have hcl1:=curW_len' B 3 col ps i
 by_cases hi:i < ps.length
 ·have hi':((i:Int) < (ps.length:Int)) = True:=by simp; omega
  have hi0:(0 ≤ (i:Int)) = True:=by simp
  have hps:=encPs_get ps i hi
  rw [encP] at hps
  have hsn:=innerL_snoc 3 col ps i hi
  have hcs:curW B 3 col ps (i + 1) = curW B 3 col ps i ++ (if (decide (col = -1) || decide (col = ps[i].1)) = true then [.mk 3 0 ps[i].1 ps[i].2 []] else []):=by
   rw [curW,hsn,← List.append_assoc]; rfl
  generalize ps[i].1 = u at hps hcs
  generalize ps[i].2 = v at hps hcs
  generalize curW B 3 col ps i = row at hcs hcl1 ⊢
  simp -implicitDefEqProofs only [push_cast,Nat.reduceAdd,Nat.reduceSub,Nat.reduceMul,Nat.reduceLT,Nat.reduceLeDiff,Nat.reduceEqDiff,Nat.reduceBEq,reduceCtorEq,reduceIte,Int.reduceLE,Int.reduceLT,Int.reduceNeg,Int.reduceToNat,hi',hi0,hps]
  refine ⟨fun _=>by decide,fun h=>?_,fun h=>?_⟩
  ·rw [h,if_pos rfl] at hcs
   have hrw:(curW B 3 col ps (i + 1)).map encPl = row.map encPl ++ [encPl (.mk 3 0 u v [])]:=by rw [hcs,List.map_append]; rfl
   have hln:(curW B 3 col ps (i + 1)).length = row.length + 1:=by rw [hcs,List.length_append]; rfl
   have hcap:List.take row.length (row.map encPl) = row.map encPl:=List.take_of_length_le (by simp)
   rw [wrap64 (n:=(i:Int) + 1) (by omega) (by omega)]
   refine ⟨by omega,next_at [none,some 3] (i + 1) (by omega) (by omega) rfl ?_ ?_⟩
   ·(try simp -implicitDefEqProofs only [push_cast,Nat.reduceAdd,Nat.reduceSub,Nat.reduceMul,Nat.reduceLT,Nat.reduceLeDiff,Nat.reduceEqDiff,Nat.reduceBEq,reduceCtorEq,reduceIte,Int.reduceLE,Int.reduceLT,Int.reduceNeg,Int.reduceToNat,hln,rowP_pure])
   ·(try simp -implicitDefEqProofs only [push_cast,Nat.reduceAdd,Nat.reduceSub,Nat.reduceMul,Nat.reduceLT,Nat.reduceLeDiff,Nat.reduceEqDiff,Nat.reduceBEq,reduceCtorEq,reduceIte,Int.reduceLE,Int.reduceLT,Int.reduceNeg,Int.reduceToNat,hcap,encPls_pure])
    rw [hrw]
    refine ⟨sealLL_snoc (sealLL_pure _ _ _ (encPls_pure row)) ?_,fun e he=>?_⟩
    ·(try simp -implicitDefEqProofs only [push_cast,Nat.reduceAdd,Nat.reduceSub,Nat.reduceMul,Nat.reduceLT,Nat.reduceLeDiff,Nat.reduceEqDiff,Nat.reduceBEq,reduceCtorEq,reduceIte,Int.reduceLE,Int.reduceLT,Int.reduceNeg,Int.reduceToNat,List.map_nil])
    ·rw [← hrw] at he; exact encPls_all5 _ e he
  ·rw [h] at hcs
   have hcs':curW B 3 col ps (i + 1) = row:=by rw [hcs]; exact List.append_nil row
   rw [wrap64 (n:=(i:Int) + 1) (by omega) (by omega)]
   refine next_at [none,some 1] (i + 1) (by omega) (by omega) rfl ?_ ?_
   ·(try simp -implicitDefEqProofs only [push_cast,Nat.reduceAdd,Nat.reduceSub,Nat.reduceMul,Nat.reduceLT,Nat.reduceLeDiff,Nat.reduceEqDiff,Nat.reduceBEq,reduceCtorEq,reduceIte,Int.reduceLE,Int.reduceLT,Int.reduceNeg,Int.reduceToNat,hcs',rowP_pure])
   ·(try simp -implicitDefEqProofs only [push_cast,Nat.reduceAdd,Nat.reduceSub,Nat.reduceMul,Nat.reduceLT,Nat.reduceLeDiff,Nat.reduceEqDiff,Nat.reduceBEq,reduceCtorEq,reduceIte,Int.reduceLE,Int.reduceLT,Int.reduceNeg,Int.reduceToNat,hcs',encPls_pure])
    exact encPls_all5 _
 ·have hi':((i:Int) < (ps.length:Int)) = False:=by simp; omega
  obtain rfl:i = ps.length:=by omega
  generalize curW B 3 col ps ps.length = out at hcl1 ⊢
  have hcap:List.take out.length (out.map encPl) = out.map encPl:=List.take_of_length_le (by simp)
  simp -implicitDefEqProofs only [push_cast,Nat.reduceAdd,Nat.reduceSub,Nat.reduceMul,Nat.reduceLT,Nat.reduceLeDiff,Nat.reduceEqDiff,Nat.reduceBEq,reduceCtorEq,reduceIte,Int.reduceLE,Int.reduceLT,Int.reduceNeg,Int.reduceToNat,hi']
  rw [hcap]
  exact sealLL_pure _ _ _ (encPls_pure _)
end
section
attribute [local push_cast] encPl_mk encPl_take encPl_len encPl_one encPls_pure encPl_pure encT_pure encT_len encT_one encT_take
def bestRd (c:List Df) (q:Qy) (d:Nat) (t:Tr) (col:Int):Int × Pl × Bool:=if validT c q t col then ((bestF c q d t col).1,(bestF c q d t col).2,true) else (0,plO,false)
def BestRAt (c:List Df) (q:Qy) (d:Nat) (t:Tr) (col:Int):Prop:=Quiet Go.Proofs.Tryz.prog 45 [.agg [.sl (c.map encD)], .agg (encQ q), .agg (encT t), .int col] (.tup [.int (bestRd c q d t col).1, .agg (encPl (bestRd c q d t col).2.1), .bool (bestRd c q d t col).2.2])
set_option maxHeartbeats 4000000 in
theorem refBestBad_ok (c:List Df) (hcl:c.length ≤ 1000000) (q:Qy) (hq:q.Ok) (hqi:q.In) (d:Nat) (t:Tr) (ht:t.Ok) (col:Int) (hv:validT c q t col = false):BestRAt c q d t col:=by
 have hM:=MayRQ_ok c hcl q hq hqi
 have hT:=MayTR_ok t ht
 unfold BestRAt
 have hr:bestRd c q d t col = (0,plO,false):=by rw [bestRd,hv]; rfl
 rw [hr]
 dsimp only
 unfold plO
 cases hmm:q.may c && t.may
 ·generalize q.may c = m at hM hmm
  generalize t.may = tm at hT hmm
  refine quiet_of (rs:=#[.tmp 8, .cell 9 32, .tmp 10]) Go.Proofs.Tryz.func45 rfl rfl rfl mixed rfl rfl fun H hs=>?_
  simp -implicitDefEqProofs only [push_cast,Nat.reduceAdd,Nat.reduceSub,Nat.reduceMul,Nat.reduceLT,Nat.reduceLeDiff,Nat.reduceEqDiff,Nat.reduceBEq,reduceCtorEq,reduceIte,Int.reduceLE,Int.reduceLT,Int.reduceNeg,Int.reduceToNat,encQ]
  refine callq hM ?_
  simp -implicitDefEqProofs only [push_cast,Nat.reduceAdd,Nat.reduceSub,Nat.reduceMul,Nat.reduceLT,Nat.reduceLeDiff,Nat.reduceEqDiff,Nat.reduceBEq,reduceCtorEq,reduceIte,Int.reduceLE,Int.reduceLT,Int.reduceNeg,Int.reduceToNat,encQ]
  refine callq hT ?_
  have hcnd:(!m || !tm) = true:=by cases m <;> cases tm <;> simp_all
  simp -implicitDefEqProofs only [push_cast,Nat.reduceAdd,Nat.reduceSub,Nat.reduceMul,Nat.reduceLT,Nat.reduceLeDiff,Nat.reduceEqDiff,Nat.reduceBEq,reduceCtorEq,reduceIte,Int.reduceLE,Int.reduceLT,Int.reduceNeg,Int.reduceToNat,encQ,hcnd]
 rw [Bool.and_eq_true] at hmm
 obtain ⟨hm,hmt⟩:=hmm
 rw [hm] at hM
 rw [hmt] at hT
 have hL:=LeavesR_ok t ht
 have hS:=SetR_ok t ht
 have hC:=ColsRQ_ok c hcl q hq hqi t.set
 have hcl2:(q.cols c t.set).length ≤ 1000000:=by
  rw [Qy.cols,if_pos hm]
  have:=colsIn_le c q (bitI t.set)
  omega
 have hPl:=Place_ok _ hcl2 col
 have hix:=idx_has (q.cols c t.set) col
 have h4:q.occ.length ≤ 4:=may_len hm
 have hb:=set_below hmt q.occ.length h4
 have hl16:=lvsT_len 4 t (by omega)
 unfold validT at hv
 rw [hm,hmt] at hv
 refine quiet_of (rs:=#[.tmp 8, .cell 9 32, .tmp 10]) Go.Proofs.Tryz.func45 rfl rfl rfl mixed rfl rfl fun H hs=>?_
 simp -implicitDefEqProofs only [push_cast,Nat.reduceAdd,Nat.reduceSub,Nat.reduceMul,Nat.reduceLT,Nat.reduceLeDiff,Nat.reduceEqDiff,Nat.reduceBEq,reduceCtorEq,reduceIte,Int.reduceLE,Int.reduceLT,Int.reduceNeg,Int.reduceToNat,encQ]
 refine callq hM ?_
 simp -implicitDefEqProofs only [push_cast,Nat.reduceAdd,Nat.reduceSub,Nat.reduceMul,Nat.reduceLT,Nat.reduceLeDiff,Nat.reduceEqDiff,Nat.reduceBEq,reduceCtorEq,reduceIte,Int.reduceLE,Int.reduceLT,Int.reduceNeg,Int.reduceToNat,encQ]
 refine callq hT ?_
 simp -implicitDefEqProofs only [push_cast,Nat.reduceAdd,Nat.reduceSub,Nat.reduceMul,Nat.reduceLT,Nat.reduceLeDiff,Nat.reduceEqDiff,Nat.reduceBEq,reduceCtorEq,reduceIte,Int.reduceLE,Int.reduceLT,Int.reduceNeg,Int.reduceToNat,encQ]
 refine callq hL ?_
 simp -implicitDefEqProofs only [push_cast,Nat.reduceAdd,Nat.reduceSub,Nat.reduceMul,Nat.reduceLT,Nat.reduceLeDiff,Nat.reduceEqDiff,Nat.reduceBEq,reduceCtorEq,reduceIte,Int.reduceLE,Int.reduceLT,Int.reduceNeg,Int.reduceToNat,encQ]
 generalize (lvsT 4 t).1 = lv at hb hl16 ⊢
 refine loop_at hs (σ:=Nat) (fun i=>i ≤ lv.length ∧ ∀ (j:Nat) (h:j < lv.length),j < i → lv[j] < q.occ.length) (fun i=>lv.length - i)
  (fun i=>[(14, .int i),(13, .sl (lv.map encI)),(3, .int col),(4, .ptr (H.nxt + 0) 1 0 0),(5, .ptr (H.nxt + 1) 6 0 0),(6, .ptr (H.nxt + 2) 2 0 0),(9, .ptr (H.nxt + 3) 5 0 0)]) (fun i=>[some (.cells 1 [[.sl (c.map encD)]] 0),some (.cells 6 [encQ q] 0),some (.cells 2 [encT t] 0),some (.cells 5 [encPl plO] 0)]) [some 0,some 1,some 2,some 3] 0 ⟨by omega,fun j _ h=>by omega⟩ rfl ?_ ?_ ?_
 ·(try simp -implicitDefEqProofs only [push_cast,Nat.reduceAdd,Nat.reduceSub,Nat.reduceMul,Nat.reduceLT,Nat.reduceLeDiff,Nat.reduceEqDiff,Nat.reduceBEq,reduceCtorEq,reduceIte,Int.reduceLE,Int.reduceLT,Int.reduceNeg,Int.reduceToNat,encDs_pure,encEs_pure,encIs_pure,encQ])
 ·(try simp -implicitDefEqProofs only [push_cast,Nat.reduceAdd,Nat.reduceSub,Nat.reduceMul,Nat.reduceLT,Nat.reduceLeDiff,Nat.reduceEqDiff,Nat.reduceBEq,reduceCtorEq,reduceIte,Int.reduceLE,Int.reduceLT,Int.reduceNeg,Int.reduceToNat,encDs_pure,encEs_pure,encIs_pure,encQ,plO,List.map_nil])
 rintro i ⟨hi2,hai⟩
 by_cases hi:i < lv.length
 ·have hi':((i:Int) < (lv.length:Int)) = True:=by simp; omega
  have hi0:(0 ≤ (i:Int)) = True:=by simp
  simp -implicitDefEqProofs only [push_cast,Nat.reduceAdd,Nat.reduceSub,Nat.reduceMul,Nat.reduceLT,Nat.reduceLeDiff,Nat.reduceEqDiff,Nat.reduceBEq,reduceCtorEq,reduceIte,Int.reduceLE,Int.reduceLT,Int.reduceNeg,Int.reduceToNat,hi',hi0,encIs_get lv i hi,encI,encQ]
  refine areg_at 8 (by kernel_rfl) (by kernel_rfl) ?_
  simp -implicitDefEqProofs only [push_cast,Nat.reduceAdd,Nat.reduceSub,Nat.reduceMul,Nat.reduceLT,Nat.reduceLeDiff,Nat.reduceEqDiff,Nat.reduceBEq,reduceCtorEq,reduceIte,Int.reduceLE,Int.reduceLT,Int.reduceNeg,Int.reduceToNat,hi',hi0,encIs_get lv i hi,encI,encQ]
  intro h
  rw [wrap64 (n:=(i:Int) + 1) (by omega) (by omega)]
  refine next_at [some 0,some 1,some 2,some 3] (i + 1) ⟨by omega,fun j hj hji=>?_⟩ (by omega) rfl ?_ ?_
  ·rcases Nat.lt_or_ge j i with h4 | h4
   ·exact hai j hj h4
   ·obtain rfl:j = i:=by omega
    omega
  ·(try simp -implicitDefEqProofs only [push_cast,Nat.reduceAdd,Nat.reduceSub,Nat.reduceMul,Nat.reduceLT,Nat.reduceLeDiff,Nat.reduceEqDiff,Nat.reduceBEq,reduceCtorEq,reduceIte,Int.reduceLE,Int.reduceLT,Int.reduceNeg,Int.reduceToNat,encDs_pure,encEs_pure,encIs_pure,encQ])
  ·(try simp -implicitDefEqProofs only [push_cast,Nat.reduceAdd,Nat.reduceSub,Nat.reduceMul,Nat.reduceLT,Nat.reduceLeDiff,Nat.reduceEqDiff,Nat.reduceBEq,reduceCtorEq,reduceIte,Int.reduceLE,Int.reduceLT,Int.reduceNeg,Int.reduceToNat,encDs_pure,encEs_pure,encIs_pure,encQ])
 have hi':((i:Int) < (lv.length:Int)) = False:=by simp; omega
 have hy:t.set < 2 ^ q.occ.length:=hb.2 fun o ho=>by
  obtain ⟨j,hj,rfl⟩:=List.getElem_of_mem ho
  exact hai j hj (by omega)
 rw [decide_eq_true hy] at hv
 simp only [Bool.true_and,Bool.and_true,Bool.or_eq_false_iff,decide_eq_false_iff_not] at hv
 obtain ⟨hc1,hc2⟩:=hv
 rw [hc2] at hix
 have hix2:idx (fun c=>decide (col = c)) (q.cols c t.set) < 0:=of_decide_eq_true hix
 have hcf:(col = -1) = False:=by simp [hc1]
 simp -implicitDefEqProofs only [push_cast,Nat.reduceAdd,Nat.reduceSub,Nat.reduceMul,Nat.reduceLT,Nat.reduceLeDiff,Nat.reduceEqDiff,Nat.reduceBEq,reduceCtorEq,reduceIte,Int.reduceLE,Int.reduceLT,Int.reduceNeg,Int.reduceToNat,hi',encQ,hcf]
 refine callq hS ?_
 simp -implicitDefEqProofs only [push_cast,Nat.reduceAdd,Nat.reduceSub,Nat.reduceMul,Nat.reduceLT,Nat.reduceLeDiff,Nat.reduceEqDiff,Nat.reduceBEq,reduceCtorEq,reduceIte,Int.reduceLE,Int.reduceLT,Int.reduceNeg,Int.reduceToNat,encQ,hcf]
 refine callq hC ?_
 simp -implicitDefEqProofs only [push_cast,Nat.reduceAdd,Nat.reduceSub,Nat.reduceMul,Nat.reduceLT,Nat.reduceLeDiff,Nat.reduceEqDiff,Nat.reduceBEq,reduceCtorEq,reduceIte,Int.reduceLE,Int.reduceLT,Int.reduceNeg,Int.reduceToNat,encQ,hcf]
 refine gcallq' (.int (idx (fun c=>decide (col = c)) (q.cols c t.set))) (fun _=>by simp) (fun _=>hPl) ?_
 have hd:decide (idx (fun c=>decide (col = c)) (q.cols c t.set) < 0) = true:=decide_eq_true hix2
 simp -implicitDefEqProofs only [push_cast,Nat.reduceAdd,Nat.reduceSub,Nat.reduceMul,Nat.reduceLT,Nat.reduceLeDiff,Nat.reduceEqDiff,Nat.reduceBEq,reduceCtorEq,reduceIte,Int.reduceLE,Int.reduceLT,Int.reduceNeg,Int.reduceToNat,encQ,hd]
end
section
attribute [local push_cast] encPl_mk encPl_take encPl_len encPl_one encPls_pure encPl_pure encT_pure encT_len encT_one encT_take
def stN (acc:List Ch):Int:=if acc = [] then -1 else (leastC acc).1
def stP (acc:List Ch):Pl:=if acc = [] then plO else (leastC acc).2
theorem stN_nil:stN [] = -1:=rfl
theorem stP_nil:stP [] = plO:=rfl
theorem leastC_push {acc:List Ch} (h:acc ≠ []) (x:Ch):leastC (acc ++ [x]) = if x.1 < (leastC acc).1 then x else leastC acc:=by
 match acc,h with
 | y :: l,_=>rw [List.cons_append,leastC,leastC,List.foldl_append]; rfl
theorem stN_neg {acc:List Ch} (h:∀ x ∈ acc,0 ≤ x.1):stN acc < 0 ↔ acc = []:=by
 unfold stN
 split
 ·rename_i e; exact ⟨fun _=>e,fun _=>by omega⟩
 ·rename_i e
  have:=h _ (leastC_mem e)
  exact ⟨fun h=>by omega,fun h=>absurd h e⟩
theorem st_push {acc:List Ch} (h:∀ x ∈ acc,0 ≤ x.1) (x:Ch):((stN acc < 0 ∨ x.1 < stN acc) → stN (acc ++ [x]) = x.1 ∧ stP (acc ++ [x]) = x.2) ∧ (¬ (stN acc < 0 ∨ x.1 < stN acc) → stN (acc ++ [x]) = stN acc ∧ stP (acc ++ [x]) = stP acc):=by
 have hne:acc ++ [x] ≠ []:=by simp
 by_cases e:acc = []
 ·subst e
  refine ⟨fun _=>⟨by rw [stN,if_neg hne]; rfl,by rw [stP,if_neg hne]; rfl⟩,fun hn=>absurd (.inl (by rw [stN_nil]; decide)) hn⟩
 ·have hs:=stN_neg h
  have e1:stN acc = (leastC acc).1:=if_neg e
  have e2:stP acc = (leastC acc).2:=if_neg e
  have e3:stN (acc ++ [x]) = (leastC (acc ++ [x])).1:=if_neg hne
  have e4:stP (acc ++ [x]) = (leastC (acc ++ [x])).2:=if_neg hne
  rw [leastC_push e] at e3 e4
  rw [e3,e4]
  constructor
  ·rintro (h1 | h1)
   ·exact absurd (hs.1 h1) e
   ·rw [e1] at h1
    rw [if_pos h1]; exact ⟨rfl,rfl⟩
  ·intro h1
   rw [e1] at h1
   rw [if_neg (fun h2=>h1 (.inr h2)),e1,e2]
   exact ⟨rfl,rfl⟩
theorem addK_nonneg (l:List Int):0 ≤ addK l:=(addK_range l).1
set_option maxHeartbeats 8000000 in
theorem refLeaf_ok (c:List Df) (hcl:c.length ≤ 1000000) (q:Qy) (hq:q.Ok) (hqi:q.In) (d:Nat) (o:Int) (hv:validT c q (.leaf o) (-1) = true):BestRAt c q (d + 1) (.leaf o) (-1):=by
 have hto:(Tr.leaf o).Ok:=.mk (by simp) (by simp)
 have hM:=MayRQ_ok c hcl q hq hqi
 have hT:=MayTR_ok _ hto
 have hL:=LeavesR_ok _ hto
 have hS:=SetR_ok _ hto
 obtain ⟨hm,hmt,hlt,_⟩:=valid_split hv
 rw [hm] at hM
 rw [hmt] at hT
 have hC:=ColsRQ_ok c hcl q hq hqi (Tr.leaf o).set
 have h4:q.occ.length ≤ 4:=may_len hm
 have hb:=(set_below hmt q.occ.length h4).1 hlt
 have hl16:=lvsT_len 4 (Tr.leaf o) (by omega)
 have hCo:=CostR_ok c hcl q hq hqi (.mk 0 o 0 0 []) plOk0'
 have hr:bestRd c q (d + 1) (.leaf o) (-1) = (costP c q (.mk 0 o 0 0 []), .mk 0 o 0 0 [],true):=by rw [bestRd,hv,if_pos rfl,leafV]
 unfold BestRAt
 rw [hr]
 dsimp only
 generalize costP c q (.mk 0 o 0 0 []) = n at hCo
 rw [encPl_mk,List.map_nil] at hCo
 generalize (Tr.leaf o).set = S at hS hC
 generalize q.cols c S = cols at hC
 have he:encT (Tr.leaf o) = [.int o, .sl []]:=by rw [Tr.leaf,encT_mk]; rfl
 rw [he] at hT hL hS ⊢
 refine quiet_of (rs:=#[.tmp 8, .cell 9 32, .tmp 10]) Go.Proofs.Tryz.func45 rfl rfl rfl mixed rfl rfl fun H hs=>?_
 simp -implicitDefEqProofs only [push_cast,Nat.reduceAdd,Nat.reduceSub,Nat.reduceMul,Nat.reduceLT,Nat.reduceLeDiff,Nat.reduceEqDiff,Nat.reduceBEq,reduceCtorEq,reduceIte,Int.reduceLE,Int.reduceLT,Int.reduceNeg,Int.reduceToNat,encQ]
 refine callq hM ?_
 simp -implicitDefEqProofs only [push_cast,Nat.reduceAdd,Nat.reduceSub,Nat.reduceMul,Nat.reduceLT,Nat.reduceLeDiff,Nat.reduceEqDiff,Nat.reduceBEq,reduceCtorEq,reduceIte,Int.reduceLE,Int.reduceLT,Int.reduceNeg,Int.reduceToNat,encQ]
 refine callq hT ?_
 simp -implicitDefEqProofs only [push_cast,Nat.reduceAdd,Nat.reduceSub,Nat.reduceMul,Nat.reduceLT,Nat.reduceLeDiff,Nat.reduceEqDiff,Nat.reduceBEq,reduceCtorEq,reduceIte,Int.reduceLE,Int.reduceLT,Int.reduceNeg,Int.reduceToNat,encQ]
 refine callq hL ?_
 simp -implicitDefEqProofs only [push_cast,Nat.reduceAdd,Nat.reduceSub,Nat.reduceMul,Nat.reduceLT,Nat.reduceLeDiff,Nat.reduceEqDiff,Nat.reduceBEq,reduceCtorEq,reduceIte,Int.reduceLE,Int.reduceLT,Int.reduceNeg,Int.reduceToNat,encQ]
 generalize (lvsT 4 (Tr.leaf o)).1 = lv at hb hl16 ⊢
 refine loop_at hs (σ:=Nat) (fun i=>i ≤ lv.length) (fun i=>lv.length - i)
  (fun i=>[(14, .int i),(13, .sl (lv.map encI)),(3, .int (-1)),(4, .ptr (H.nxt + 0) 1 0 0),(5, .ptr (H.nxt + 1) 6 0 0),(6, .ptr (H.nxt + 2) 2 0 0),(9, .ptr (H.nxt + 3) 5 0 0)]) (fun i=>[some (.cells 1 [[.sl (c.map encD)]] 0),some (.cells 6 [encQ q] 0),some (.cells 2 [[.int o, .sl []]] 0),some (.cells 5 [encPl plO] 0)]) [some 0,some 1,some 2,some 3] 0 (by omega) rfl ?_ ?_ ?_
 ·(try simp -implicitDefEqProofs only [push_cast,Nat.reduceAdd,Nat.reduceSub,Nat.reduceMul,Nat.reduceLT,Nat.reduceLeDiff,Nat.reduceEqDiff,Nat.reduceBEq,reduceCtorEq,reduceIte,Int.reduceLE,Int.reduceLT,Int.reduceNeg,Int.reduceToNat,encDs_pure,encEs_pure,encIs_pure,encQ])
 ·(try simp -implicitDefEqProofs only [push_cast,Nat.reduceAdd,Nat.reduceSub,Nat.reduceMul,Nat.reduceLT,Nat.reduceLeDiff,Nat.reduceEqDiff,Nat.reduceBEq,reduceCtorEq,reduceIte,Int.reduceLE,Int.reduceLT,Int.reduceNeg,Int.reduceToNat,encDs_pure,encEs_pure,encIs_pure,encQ,plO,List.map_nil])
 intro i hi2
 by_cases hi:i < lv.length
 ·have hi':((i:Int) < (lv.length:Int)) = True:=by simp; omega
  have hi0:(0 ≤ (i:Int)) = True:=by simp
  have hlv:=hb lv[i] (List.getElem_mem hi)
  have hge:((q.occ.length:Int) ≤ lv[i]) = False:=by simp; omega
  simp -implicitDefEqProofs only [push_cast,Nat.reduceAdd,Nat.reduceSub,Nat.reduceMul,Nat.reduceLT,Nat.reduceLeDiff,Nat.reduceEqDiff,Nat.reduceBEq,reduceCtorEq,reduceIte,Int.reduceLE,Int.reduceLT,Int.reduceNeg,Int.reduceToNat,hi',hi0,encIs_get lv i hi,encI,encQ]
  refine areg_at 8 (by kernel_rfl) (by kernel_rfl) ?_
  simp -implicitDefEqProofs only [push_cast,Nat.reduceAdd,Nat.reduceSub,Nat.reduceMul,Nat.reduceLT,Nat.reduceLeDiff,Nat.reduceEqDiff,Nat.reduceBEq,reduceCtorEq,reduceIte,Int.reduceLE,Int.reduceLT,Int.reduceNeg,Int.reduceToNat,hi',hi0,encIs_get lv i hi,encI,encQ,hge]
  rw [wrap64 (n:=(i:Int) + 1) (by omega) (by omega)]
  refine next_at [some 0,some 1,some 2,some 3] (i + 1) (by omega) (by omega) rfl ?_ ?_
  ·(try simp -implicitDefEqProofs only [push_cast,Nat.reduceAdd,Nat.reduceSub,Nat.reduceMul,Nat.reduceLT,Nat.reduceLeDiff,Nat.reduceEqDiff,Nat.reduceBEq,reduceCtorEq,reduceIte,Int.reduceLE,Int.reduceLT,Int.reduceNeg,Int.reduceToNat,encDs_pure,encEs_pure,encIs_pure,encQ])
  ·(try simp -implicitDefEqProofs only [push_cast,Nat.reduceAdd,Nat.reduceSub,Nat.reduceMul,Nat.reduceLT,Nat.reduceLeDiff,Nat.reduceEqDiff,Nat.reduceBEq,reduceCtorEq,reduceIte,Int.reduceLE,Int.reduceLT,Int.reduceNeg,Int.reduceToNat,encDs_pure,encEs_pure,encIs_pure,encQ])
 have hi':((i:Int) < (lv.length:Int)) = False:=by simp; omega
 simp -implicitDefEqProofs only [push_cast,Nat.reduceAdd,Nat.reduceSub,Nat.reduceMul,Nat.reduceLT,Nat.reduceLeDiff,Nat.reduceEqDiff,Nat.reduceBEq,reduceCtorEq,reduceIte,Int.reduceLE,Int.reduceLT,Int.reduceNeg,Int.reduceToNat,hi',encQ]
 refine callq hS ?_
 simp -implicitDefEqProofs only [push_cast,Nat.reduceAdd,Nat.reduceSub,Nat.reduceMul,Nat.reduceLT,Nat.reduceLeDiff,Nat.reduceEqDiff,Nat.reduceBEq,reduceCtorEq,reduceIte,Int.reduceLE,Int.reduceLT,Int.reduceNeg,Int.reduceToNat,encQ]
 refine callq hC ?_
 simp -implicitDefEqProofs only [push_cast,Nat.reduceAdd,Nat.reduceSub,Nat.reduceMul,Nat.reduceLT,Nat.reduceLeDiff,Nat.reduceEqDiff,Nat.reduceBEq,reduceCtorEq,reduceIte,Int.reduceLE,Int.reduceLT,Int.reduceNeg,Int.reduceToNat,encQ]
 refine gcallq' (.int 0) (fun h=>by cases h) (fun h=>by cases h) ?_
 simp -implicitDefEqProofs only [push_cast,Nat.reduceAdd,Nat.reduceSub,Nat.reduceMul,Nat.reduceLT,Nat.reduceLeDiff,Nat.reduceEqDiff,Nat.reduceBEq,reduceCtorEq,reduceIte,Int.reduceLE,Int.reduceLT,Int.reduceNeg,Int.reduceToNat,encQ]
 refine areg_at 6 (by kernel_rfl) (by kernel_rfl) ?_
 simp -implicitDefEqProofs only [push_cast,Nat.reduceAdd,Nat.reduceSub,Nat.reduceMul,Nat.reduceLT,Nat.reduceLeDiff,Nat.reduceEqDiff,Nat.reduceBEq,reduceCtorEq,reduceIte,Int.reduceLE,Int.reduceLT,Int.reduceNeg,Int.reduceToNat,encQ]
 refine ahdq (quiet_told hCo fun H=>?_) ?_
 ·(try simp -implicitDefEqProofs only [push_cast,Nat.reduceAdd,Nat.reduceSub,Nat.reduceMul,Nat.reduceLT,Nat.reduceLeDiff,Nat.reduceEqDiff,Nat.reduceBEq,reduceCtorEq,reduceIte,Int.reduceLE,Int.reduceLT,Int.reduceNeg,Int.reduceToNat,encQ,encDs_pure,encEs_pure,encIs_pure,List.map_nil])
 simp -implicitDefEqProofs only [push_cast,Nat.reduceAdd,Nat.reduceSub,Nat.reduceMul,Nat.reduceLT,Nat.reduceLeDiff,Nat.reduceEqDiff,Nat.reduceBEq,reduceCtorEq,reduceIte,Int.reduceLE,Int.reduceLT,Int.reduceNeg,Int.reduceToNat,encQ,List.map_nil]
end
section
attribute [local push_cast] encPl_mk encPl_take encPl_len encPl_one encPls_pure encPl_pure encT_pure encT_len encT_one encT_take
theorem valid_one {c:List Df} {q:Qy} {t:Tr} {col:Int} (h:validT c q t col = true):validT c q t (-1) = true:=by
 unfold validT at h ⊢
 simp only [Bool.and_eq_true,Bool.or_eq_true] at h ⊢
 exact ⟨h.1, .inl rfl⟩
theorem valid_split' {c:List Df} {q:Qy} {t:Tr} {col:Int} (h:validT c q t col = true):q.may c = true ∧ t.may = true ∧ t.set < 2 ^ q.occ.length ∧ (col = -1 ∨ (q.cols c t.set).contains col = true):=by
 unfold validT at h
 simp only [Bool.and_eq_true,Bool.or_eq_true,decide_eq_true_eq] at h
 exact ⟨h.1.1.1,h.1.1.2,h.1.2,h.2⟩
set_option maxHeartbeats 8000000 in
theorem refLeafS_ok (c:List Df) (hcl:c.length ≤ 1000000) (q:Qy) (hq:q.Ok) (hqi:q.In) (d:Nat) (o col:Int) (hcol:col ≠ -1) (hv:validT c q (.leaf o) col = true):BestRAt c q (d + 1) (.leaf o) col:=by
 have hto:(Tr.leaf o).Ok:=.mk (by simp) (by simp)
 have hM:=MayRQ_ok c hcl q hq hqi
 have hT:=MayTR_ok _ hto
 have hL:=LeavesR_ok _ hto
 have hS:=SetR_ok _ hto
 obtain ⟨hm,hmt,hlt,hcolv⟩:=valid_split' hv
 rw [hm] at hM
 rw [hmt] at hT
 have hC:=ColsRQ_ok c hcl q hq hqi (Tr.leaf o).set
 have h4:q.occ.length ≤ 4:=may_len hm
 have hb:=(set_below hmt q.occ.length h4).1 hlt
 have hl16:=lvsT_len 4 (Tr.leaf o) (by omega)
 have hcl2:(q.cols c (Tr.leaf o).set).length ≤ 1000000:=by
  rw [Qy.cols,if_pos hm]
  have:=colsIn_le c q (bitI (Tr.leaf o).set)
  omega
 have hPl:=Place_ok _ hcl2 col
 have hix:=idx_has (q.cols c (Tr.leaf o).set) col
 have hin:(q.cols c (Tr.leaf o).set).contains col = true:=by
  rcases hcolv with h | h
  ·exact absurd h hcol
  ·exact h
 rw [hin] at hix
 have hv1:validT c q (.leaf o) (-1) = true:=valid_one hv
 have hr:bestRd c q (d + 1) (.leaf o) col = ((sortC c q (.leaf o) col (bestF c q (d + 1) (.leaf o) (-1))).1,(sortC c q (.leaf o) col (bestF c q (d + 1) (.leaf o) (-1))).2,true):=by
  rw [bestRd,hv,if_pos rfl]
  have e:bestF c q (d + 1) (.leaf o) col = sortC c q (.leaf o) col (bestF c q (d + 1) (.leaf o) (-1)):=by
   rw [bestF,bestF,if_neg hcol,if_pos rfl]
   have e:candC c q (bestF c q d) (.leaf o) col = []:=by show (if col = -1 then _ else _) = _; rw [if_neg hcol]
   rw [e]; rfl
  rw [e]
 have hB:BestRAt c q (d + 1) (.leaf o) (-1):=refLeaf_ok c hcl q hq hqi d o hv1
 unfold BestRAt at hB ⊢
 rw [hr]
 rw [bestRd,hv1,if_pos rfl] at hB
 dsimp only at hB ⊢
 generalize bestF c q (d + 1) (.leaf o) (-1) = x at hB ⊢
 obtain ⟨n,p⟩:=x
 have hSo:=SortedR_ok c hcl q hq hqi (Tr.leaf o).set n
 unfold sortC
 dsimp only at hB ⊢
 generalize (Tr.leaf o).set = S at hS hC hSo hPl hix ⊢
 generalize q.cols c S = cols at hC hPl hix hcl2
 generalize sortedC c q S n = m at hSo ⊢
 rw [encPl_mk,List.map_cons,List.map_nil]
 have hcf:(col = -1) = False:=by simp [hcol]
 have he:encT (Tr.leaf o) = [.int o, .sl []]:=by rw [Tr.leaf,encT_mk]; rfl
 rw [he] at hT hL hS hB ⊢
 refine quiet_of (rs:=#[.tmp 8, .cell 9 32, .tmp 10]) Go.Proofs.Tryz.func45 rfl rfl rfl mixed rfl rfl fun H hs=>?_
 simp -implicitDefEqProofs only [push_cast,Nat.reduceAdd,Nat.reduceSub,Nat.reduceMul,Nat.reduceLT,Nat.reduceLeDiff,Nat.reduceEqDiff,Nat.reduceBEq,reduceCtorEq,reduceIte,Int.reduceLE,Int.reduceLT,Int.reduceNeg,Int.reduceToNat,encQ]
 refine callq hM ?_
 simp -implicitDefEqProofs only [push_cast,Nat.reduceAdd,Nat.reduceSub,Nat.reduceMul,Nat.reduceLT,Nat.reduceLeDiff,Nat.reduceEqDiff,Nat.reduceBEq,reduceCtorEq,reduceIte,Int.reduceLE,Int.reduceLT,Int.reduceNeg,Int.reduceToNat,encQ]
 refine callq hT ?_
 simp -implicitDefEqProofs only [push_cast,Nat.reduceAdd,Nat.reduceSub,Nat.reduceMul,Nat.reduceLT,Nat.reduceLeDiff,Nat.reduceEqDiff,Nat.reduceBEq,reduceCtorEq,reduceIte,Int.reduceLE,Int.reduceLT,Int.reduceNeg,Int.reduceToNat,encQ]
 refine callq hL ?_
 simp -implicitDefEqProofs only [push_cast,Nat.reduceAdd,Nat.reduceSub,Nat.reduceMul,Nat.reduceLT,Nat.reduceLeDiff,Nat.reduceEqDiff,Nat.reduceBEq,reduceCtorEq,reduceIte,Int.reduceLE,Int.reduceLT,Int.reduceNeg,Int.reduceToNat,encQ]
 generalize (lvsT 4 (Tr.leaf o)).1 = lv at hb hl16 ⊢
 refine loop_at hs (σ:=Nat) (fun i=>i ≤ lv.length) (fun i=>lv.length - i)
  (fun i=>[(14, .int i),(13, .sl (lv.map encI)),(3, .int col),(4, .ptr (H.nxt + 0) 1 0 0),(5, .ptr (H.nxt + 1) 6 0 0),(6, .ptr (H.nxt + 2) 2 0 0),(9, .ptr (H.nxt + 3) 5 0 0)]) (fun i=>[some (.cells 1 [[.sl (c.map encD)]] 0),some (.cells 6 [encQ q] 0),some (.cells 2 [[.int o, .sl []]] 0),some (.cells 5 [encPl plO] 0)]) [some 0,some 1,some 2,some 3] 0 (by omega) rfl ?_ ?_ ?_
 ·(try simp -implicitDefEqProofs only [push_cast,Nat.reduceAdd,Nat.reduceSub,Nat.reduceMul,Nat.reduceLT,Nat.reduceLeDiff,Nat.reduceEqDiff,Nat.reduceBEq,reduceCtorEq,reduceIte,Int.reduceLE,Int.reduceLT,Int.reduceNeg,Int.reduceToNat,encDs_pure,encEs_pure,encIs_pure,encQ])
 ·(try simp -implicitDefEqProofs only [push_cast,Nat.reduceAdd,Nat.reduceSub,Nat.reduceMul,Nat.reduceLT,Nat.reduceLeDiff,Nat.reduceEqDiff,Nat.reduceBEq,reduceCtorEq,reduceIte,Int.reduceLE,Int.reduceLT,Int.reduceNeg,Int.reduceToNat,encDs_pure,encEs_pure,encIs_pure,encQ,plO,List.map_nil])
 intro i hi2
 by_cases hi:i < lv.length
 ·have hi':((i:Int) < (lv.length:Int)) = True:=by simp; omega
  have hi0:(0 ≤ (i:Int)) = True:=by simp
  have hlv:=hb lv[i] (List.getElem_mem hi)
  have hge:((q.occ.length:Int) ≤ lv[i]) = False:=by simp; omega
  simp -implicitDefEqProofs only [push_cast,Nat.reduceAdd,Nat.reduceSub,Nat.reduceMul,Nat.reduceLT,Nat.reduceLeDiff,Nat.reduceEqDiff,Nat.reduceBEq,reduceCtorEq,reduceIte,Int.reduceLE,Int.reduceLT,Int.reduceNeg,Int.reduceToNat,hi',hi0,encIs_get lv i hi,encI,encQ]
  refine areg_at 8 (by kernel_rfl) (by kernel_rfl) ?_
  simp -implicitDefEqProofs only [push_cast,Nat.reduceAdd,Nat.reduceSub,Nat.reduceMul,Nat.reduceLT,Nat.reduceLeDiff,Nat.reduceEqDiff,Nat.reduceBEq,reduceCtorEq,reduceIte,Int.reduceLE,Int.reduceLT,Int.reduceNeg,Int.reduceToNat,hi',hi0,encIs_get lv i hi,encI,encQ,hge]
  rw [wrap64 (n:=(i:Int) + 1) (by omega) (by omega)]
  refine next_at [some 0,some 1,some 2,some 3] (i + 1) (by omega) (by omega) rfl ?_ ?_
  ·(try simp -implicitDefEqProofs only [push_cast,Nat.reduceAdd,Nat.reduceSub,Nat.reduceMul,Nat.reduceLT,Nat.reduceLeDiff,Nat.reduceEqDiff,Nat.reduceBEq,reduceCtorEq,reduceIte,Int.reduceLE,Int.reduceLT,Int.reduceNeg,Int.reduceToNat,encDs_pure,encEs_pure,encIs_pure,encQ])
  ·(try simp -implicitDefEqProofs only [push_cast,Nat.reduceAdd,Nat.reduceSub,Nat.reduceMul,Nat.reduceLT,Nat.reduceLeDiff,Nat.reduceEqDiff,Nat.reduceBEq,reduceCtorEq,reduceIte,Int.reduceLE,Int.reduceLT,Int.reduceNeg,Int.reduceToNat,encDs_pure,encEs_pure,encIs_pure,encQ])
 have hi':((i:Int) < (lv.length:Int)) = False:=by simp; omega
 simp -implicitDefEqProofs only [push_cast,Nat.reduceAdd,Nat.reduceSub,Nat.reduceMul,Nat.reduceLT,Nat.reduceLeDiff,Nat.reduceEqDiff,Nat.reduceBEq,reduceCtorEq,reduceIte,Int.reduceLE,Int.reduceLT,Int.reduceNeg,Int.reduceToNat,hi',encQ,hcf]
 refine callq hS ?_
 simp -implicitDefEqProofs only [push_cast,Nat.reduceAdd,Nat.reduceSub,Nat.reduceMul,Nat.reduceLT,Nat.reduceLeDiff,Nat.reduceEqDiff,Nat.reduceBEq,reduceCtorEq,reduceIte,Int.reduceLE,Int.reduceLT,Int.reduceNeg,Int.reduceToNat,encQ,hcf]
 refine callq hC ?_
 simp -implicitDefEqProofs only [push_cast,Nat.reduceAdd,Nat.reduceSub,Nat.reduceMul,Nat.reduceLT,Nat.reduceLeDiff,Nat.reduceEqDiff,Nat.reduceBEq,reduceCtorEq,reduceIte,Int.reduceLE,Int.reduceLT,Int.reduceNeg,Int.reduceToNat,encQ,hcf]
 refine gcallq' (.int (idx (fun c=>decide (col = c)) cols)) (fun _=>by simp) (fun _=>hPl) ?_
 simp -implicitDefEqProofs only [push_cast,Nat.reduceAdd,Nat.reduceSub,Nat.reduceMul,Nat.reduceLT,Nat.reduceLeDiff,Nat.reduceEqDiff,Nat.reduceBEq,reduceCtorEq,reduceIte,Int.reduceLE,Int.reduceLT,Int.reduceNeg,Int.reduceToNat,encQ,hix,hcf]
 refine callq hB ?_
 simp -implicitDefEqProofs only [push_cast,Nat.reduceAdd,Nat.reduceSub,Nat.reduceMul,Nat.reduceLT,Nat.reduceLeDiff,Nat.reduceEqDiff,Nat.reduceBEq,reduceCtorEq,reduceIte,Int.reduceLE,Int.reduceLT,Int.reduceNeg,Int.reduceToNat,encQ,hcf]
 refine callq hSo ?_
 simp -implicitDefEqProofs only [push_cast,Nat.reduceAdd,Nat.reduceSub,Nat.reduceMul,Nat.reduceLT,Nat.reduceLeDiff,Nat.reduceEqDiff,Nat.reduceBEq,reduceCtorEq,reduceIte,Int.reduceLE,Int.reduceLT,Int.reduceNeg,Int.reduceToNat,encQ,hcf]
 refine areg_at 3 (by kernel_rfl) (by kernel_rfl) ?_
 simp -implicitDefEqProofs only [push_cast,Nat.reduceAdd,Nat.reduceSub,Nat.reduceMul,Nat.reduceLT,Nat.reduceLeDiff,Nat.reduceEqDiff,Nat.reduceBEq,reduceCtorEq,reduceIte,Int.reduceLE,Int.reduceLT,Int.reduceNeg,Int.reduceToNat,encQ]
 trace_state
end
section
attribute [local push_cast] encPl_mk encPl_take encPl_len encPl_one encPls_pure encPl_pure encT_pure encT_len encT_one encT_take
theorem two_valid {c:List Df} {q:Qy} {s t:Tr}:validT c q (.join s t) (-1) = (validT c q s (-1) && validT c q t (-1) && decide (band .i64 s.set t.set = 0)):=by
 have v:∀ u:Tr,validT c q u (-1) = (q.may c && u.may && decide (u.set < 2 ^ q.occ.length)):=fun u=>by unfold validT; simp
 rw [v,v,v]
 cases hm:q.may c
 ·rfl
 have hn:=may_len hm
 rw [Bool.eq_iff_iff]
 simp only [Bool.true_and,Bool.and_eq_true,decide_eq_true_eq]
 have rs:=s.set_range
 have rt:=t.set_range
 constructor
 ·rintro ⟨h1,h2⟩
  obtain ⟨m1,m2,h0,he⟩:=join_may h1
  rw [he,bor_lt rs.1 rs.2 rt.1 rt.2 hn] at h2
  exact ⟨⟨⟨m1,h2.1⟩,m2,h2.2⟩,h0⟩
 ·rintro ⟨⟨⟨m1,l1⟩,m2,l2⟩,h0⟩
  have hj:=may_join m1 m2 h0
  exact ⟨hj,by rw [(join_may hj).2.2.2,bor_lt rs.1 rs.2 rt.1 rt.2 hn]; exact ⟨l1,l2⟩⟩
end
section
attribute [local push_cast] encPl_mk encPl_take encPl_len encPl_one encPls_pure encPl_pure encT_pure encT_len encT_one encT_take
theorem acc_pos {W:Pl → List Ch} (h:∀ w,∀ x ∈ W w,0 ≤ x.1) (ws:List Pl) (k:Nat):∀ x ∈ accC W ws k,0 ≤ x.1:=by
 intro x hx
 obtain ⟨w,_,h2⟩:=List.mem_flatMap.1 hx
 exact h w x h2
theorem acc_st {acc:List Ch} (h:acc ≠ []):leastC acc = (stN acc,stP acc):=by
 rw [stN,stP,if_neg h,if_neg h]
set_option maxHeartbeats 32000000 in
theorem refJoin_ok (c:List Df) (hcl:c.length ≤ 1000000) (q:Qy) (hq:q.Ok) (hqi:q.In) (hp8:q.p.length ≤ 8) (d:Nat) (a b:Tr) (hao:a.Ok) (hbo:b.Ok) (col:Int) (hv:validT c q (.join a b) col = true)
  (ha:∀ x,BestRAt c q d a x) (hb:∀ x,BestRAt c q d b x) (hn:col ≠ -1 → BestRAt c q (d + 1) (.join a b) (-1)):BestRAt c q (d + 1) (.join a b) col:=by
 have hto:(Tr.join a b).Ok:=.mk (by simp) (by
  intro x hx
  simp only [List.mem_cons,List.not_mem_nil,or_false] at hx
  rcases hx with rfl | rfl
  ·exact hao
  ·exact hbo)
 have hv1:validT c q (.join a b) (-1) = true:=valid_one hv
 obtain ⟨hm,hmt,hlt,hcolv⟩:=valid_split hv
 have h2:=hv1
 rw [two_valid] at h2
 simp only [Bool.and_eq_true,decide_eq_true_eq] at h2
 obtain ⟨⟨hva,hvb⟩,h0⟩:=h2
 have va:∀ x,validT c q a x = (decide (x = -1) || (q.cols c a.set).contains x):=fun x=>by
  obtain ⟨e1,e2,e3,_⟩:=valid_split hva
  unfold validT; simp [e1,e2,e3]
 have vb:∀ x,validT c q b x = (decide (x = -1) || (q.cols c b.set).contains x):=fun x=>by
  obtain ⟨e1,e2,e3,_⟩:=valid_split hvb
  unfold validT; simp [e1,e2,e3]
 have hM:=MayRQ_ok c hcl q hq hqi
 have hT:=MayTR_ok _ hto
 have hL:=LeavesR_ok _ hto
 have hS:=SetR_ok _ hto
 have hSa:=SetR_ok a hao
 have hSb:=SetR_ok b hbo
 rw [hm] at hM
 rw [hmt] at hT
 have hC:=ColsRQ_ok c hcl q hq hqi (Tr.join a b).set
 have h4:q.occ.length ≤ 4:=may_len hm
 have hbl:=(set_below hmt q.occ.length h4).1 hlt
 have hl16:=lvsT_len 4 (Tr.join a b) (by omega)
 have hcl2:(q.cols c (Tr.join a b).set).length ≤ 1000000:=by
  rw [Qy.cols,if_pos hm]
  have:=colsIn_le c q (bitI (Tr.join a b).set)
  omega
 have hPl:=Place_ok _ hcl2 col
 have hix:=idx_has (q.cols c (Tr.join a b).set) col
 have hcnd:(!decide (col = -1) && decide (idx (fun c=>decide (col = c)) (q.cols c (Tr.join a b).set) < 0)) = false:=by
  rw [hix]
  rcases hcolv with h | h
  ·simp [h]
  ·rw [h]; simp
 have hWs:=WaysR_ok q hq a.set b.set col
 have hwl:(waysP q a.set b.set col).length ≤ 100:=by
  have h1:=ways_len q hq a.set b.set col
  have h2:=pairs_len q a.set b.set
  have h3:(q.new a.set b.set).length ≤ q.p.length:=idxF_lt _ _
  omega
 have hRa:=RowsR_ok c hcl q hq hqi a.set
 have hRb:=RowsR_ok c hcl q hq hqi b.set
 have hSo:=fun n=>SortedR_ok c hcl q hq hqi (Tr.join a b).set n
 have hcand:candC c q (bestF c q d) (.join a b) col = accC (wayC c q (bestF c q d a) (bestF c q d b) a.set b.set col) (waysP q a.set b.set col) (waysP q a.set b.set col).length:=by
  rw [accC,List.take_length]; rfl
 have hvv:bestF c q (d + 1) (.join a b) col = leastC (candC c q (bestF c q d) (.join a b) col ++ (if col = -1 then [] else [sortC c q (.join a b) col (bestF c q (d + 1) (.join a b) (-1))])):=by
  rw [bestF]
  by_cases h:col = -1
  ·subst h
   rw [if_pos rfl,if_pos rfl,List.append_nil]
  ·rw [if_neg h,if_neg h,bestF,if_pos rfl]
 rw [hcand] at hvv
 have hWdef:∀ w,wayC c q (bestF c q d a) (bestF c q d b) a.set b.set col w = (if (mustP w col).1 ≠ -1 ∧ (q.cols c a.set).contains (mustP w col).1 = false then [] else [(addK [(bestF c q d a (mustP w col).1).1,(bestF c q d b (mustP w col).2).1,ownW c q w a.set b.set], .mk w.op w.occ w.a w.b [(bestF c q d a (mustP w col).1).2,(bestF c q d b (mustP w col).2).2])]):=fun w=>rfl
 have hWp:∀ w,∀ x ∈ wayC c q (bestF c q d a) (bestF c q d b) a.set b.set col w,0 ≤ x.1:=fun w x hx=>by
  rw [hWdef] at hx
  split at hx
  ·cases hx
  ·rw [List.mem_singleton] at hx
   subst hx
   exact addK_nonneg _
 have hWm:∀ w ∈ waysP q a.set b.set col,w = nestW ∨ ∃ (op:Int) (p:Int × Int),w = .mk op 0 p.1 p.2 [] ∧ ((q.cols c a.set).contains p.1 = true ∧ (q.cols c b.set).contains p.2 = true) ∧ ((op = 2 ∧ col = -1) ∨ op = 3):=fun w hw=>by
  rcases ways_mem hw with h | ⟨op,p,e,hp,h⟩
  ·exact .inl h
  ·exact .inr ⟨op,p,e,pairs_cols hm h0 hp,h.imp id fun h=>h.1⟩
 have hne:col = -1 → accC (wayC c q (bestF c q d a) (bestF c q d b) a.set b.set col) (waysP q a.set b.set col) (waysP q a.set b.set col).length ≠ []:=by
  intro e h
  have h1:=wayC_mem (c:=c) (q:=q) (f:=bestF c q d a) (g:=bestF c q d b) (a:=a.set) (b:=b.set) (col:=col) (w:=nestW) (.inl e)
  rw [accC,List.take_length] at h
  have h2:=List.mem_flatMap.2 ⟨nestW,ways_nest q a.set b.set col,h1⟩
  rw [h] at h2; cases h2
 have hown:∀ w,ownW c q w a.set b.set = (if w.op = 1 then nestK (rowsQ c q a.set) (rowsQ c q b.set) else if w.op = 2 then hashK (rowsQ c q a.set) (rowsQ c q b.set) else mergeK (rowsQ c q a.set) (rowsQ c q b.set)):=fun w=>rfl
 unfold BestRAt at ha hb hn ⊢
 have hr:bestRd c q (d + 1) (.join a b) col = ((bestF c q (d + 1) (.join a b) col).1,(bestF c q (d + 1) (.join a b) col).2,true):=by rw [bestRd,hv,if_pos rfl]
 have hr1:bestRd c q (d + 1) (.join a b) (-1) = ((bestF c q (d + 1) (.join a b) (-1)).1,(bestF c q (d + 1) (.join a b) (-1)).2,true):=by rw [bestRd,hv1,if_pos rfl]
 rw [hr,hvv]
 rw [hr1] at hn
 have hRa':∀ x,bestRd c q d a x = if (decide (x = -1) || (q.cols c a.set).contains x) = true then ((bestF c q d a x).1,(bestF c q d a x).2,true) else (0,plO,false):=fun x=>by rw [bestRd,va]
 have hRb':∀ x,bestRd c q d b x = if (decide (x = -1) || (q.cols c b.set).contains x) = true then ((bestF c q d b x).1,(bestF c q d b x).2,true) else (0,plO,false):=fun x=>by rw [bestRd,vb]
 generalize wayC c q (bestF c q d a) (bestF c q d b) a.set b.set col = W at hWp hWdef hne hvv ⊢
 generalize waysP q a.set b.set col = ws at hWs hwl hWm hne hvv ⊢
 have hSj:∀ n,sortC c q (.join a b) col n = (sortedC c q (Tr.join a b).set n.1, .mk 4 0 col 0 [n.2]):=fun n=>rfl
 generalize (lvsT 4 (Tr.join a b)).1 = lv at hbl hl16 hL
 generalize (Tr.join a b).set = sj at hS hC hSo hSj hPl hcnd hcl2
 generalize q.cols c sj = cols at hC hPl hcnd hcl2
 generalize rowsQ c q a.set = ra at hRa hown
 generalize rowsQ c q b.set = rb at hRb hown
 generalize a.set = sa at hSa hWs hRa hWdef hown hRa' hWm
 generalize b.set = sb at hSb hWs hRb hWdef hown hRb' hWm
 generalize bestF c q (d + 1) (a.join b) (-1) = xn at hn ⊢
 have hsj:=hSj xn
 obtain ⟨n,p⟩:=xn
 dsimp only at hsj hn ⊢
 rw [hsj]
 have hSo':=hSo n
 generalize hmd:sortedC c q sj n = m at hSo' ⊢
 have hm0:0 ≤ m:=hmd ▸ addK_nonneg _
 clear hr hr1 hvv hcand hmd hSj hSo hix
 have hta:encT (Tr.join a b) = [.int 0, .sl [encT a,encT b]]:=by rw [Tr.join,encT_mk]; rfl
 rw [hta] at hT hL hS hn ⊢
 refine quiet_of (rs:=#[.tmp 8, .cell 9 32, .tmp 10]) Go.Proofs.Tryz.func45 rfl rfl rfl mixed rfl rfl fun H hs=>?_
 simp -implicitDefEqProofs only [push_cast,Nat.reduceAdd,Nat.reduceSub,Nat.reduceMul,Nat.reduceLT,Nat.reduceLeDiff,Nat.reduceEqDiff,Nat.reduceBEq,reduceCtorEq,reduceIte,Int.reduceLE,Int.reduceLT,Int.reduceNeg,Int.reduceToNat,encQ,Int.reduceEq,if_false,if_true,or_true,or_false,true_or,false_or,List.map_cons,List.map_nil,List.length_cons,List.length_nil,Int.reduceAdd,List.set_cons_zero,List.set_cons_succ,List.cons_append,List.nil_append]
 refine callq hM ?_
 simp -implicitDefEqProofs only [push_cast,Nat.reduceAdd,Nat.reduceSub,Nat.reduceMul,Nat.reduceLT,Nat.reduceLeDiff,Nat.reduceEqDiff,Nat.reduceBEq,reduceCtorEq,reduceIte,Int.reduceLE,Int.reduceLT,Int.reduceNeg,Int.reduceToNat,encQ,Int.reduceEq,if_false,if_true,or_true,or_false,true_or,false_or,List.map_cons,List.map_nil,List.length_cons,List.length_nil,Int.reduceAdd,List.set_cons_zero,List.set_cons_succ,List.cons_append,List.nil_append]
 refine callq hT ?_
 simp -implicitDefEqProofs only [push_cast,Nat.reduceAdd,Nat.reduceSub,Nat.reduceMul,Nat.reduceLT,Nat.reduceLeDiff,Nat.reduceEqDiff,Nat.reduceBEq,reduceCtorEq,reduceIte,Int.reduceLE,Int.reduceLT,Int.reduceNeg,Int.reduceToNat,encQ,Int.reduceEq,if_false,if_true,or_true,or_false,true_or,false_or,List.map_cons,List.map_nil,List.length_cons,List.length_nil,Int.reduceAdd,List.set_cons_zero,List.set_cons_succ,List.cons_append,List.nil_append]
 refine callq hL ?_
 simp -implicitDefEqProofs only [push_cast,Nat.reduceAdd,Nat.reduceSub,Nat.reduceMul,Nat.reduceLT,Nat.reduceLeDiff,Nat.reduceEqDiff,Nat.reduceBEq,reduceCtorEq,reduceIte,Int.reduceLE,Int.reduceLT,Int.reduceNeg,Int.reduceToNat,encQ,Int.reduceEq,if_false,if_true,or_true,or_false,true_or,false_or,List.map_cons,List.map_nil,List.length_cons,List.length_nil,Int.reduceAdd,List.set_cons_zero,List.set_cons_succ,List.cons_append,List.nil_append]
 refine loop_at hs (σ:=Nat) (fun i=>i ≤ lv.length) (fun i=>lv.length - i)
  (fun i=>[(14, .int i),(13, .sl (lv.map encI)),(3, .int col),(4, .ptr (H.nxt + 0) 1 0 0),(5, .ptr (H.nxt + 1) 6 0 0),(6, .ptr (H.nxt + 2) 2 0 0),(9, .ptr (H.nxt + 3) 5 0 0)]) (fun i=>[some (.cells 1 [[.sl (c.map encD)]] 0),some (.cells 6 [encQ q] 0),some (.cells 2 [[.int 0, .sl [encT a,encT b]]] 0),some (.cells 5 [encPl plO] 0)]) [some 0,some 1,some 2,some 3] 0 (by omega) rfl ?_ ?_ ?_
 ·(try simp -implicitDefEqProofs only [push_cast,Nat.reduceAdd,Nat.reduceSub,Nat.reduceMul,Nat.reduceLT,Nat.reduceLeDiff,Nat.reduceEqDiff,Nat.reduceBEq,reduceCtorEq,reduceIte,Int.reduceLE,Int.reduceLT,Int.reduceNeg,Int.reduceToNat,encDs_pure,encEs_pure,encIs_pure,encQ])
 ·(try simp -implicitDefEqProofs only [push_cast,Nat.reduceAdd,Nat.reduceSub,Nat.reduceMul,Nat.reduceLT,Nat.reduceLeDiff,Nat.reduceEqDiff,Nat.reduceBEq,reduceCtorEq,reduceIte,Int.reduceLE,Int.reduceLT,Int.reduceNeg,Int.reduceToNat,encDs_pure,encEs_pure,encIs_pure,encQ,plO,List.map_nil])
 intro i hi2
 by_cases hi:i < lv.length
 ·have hi':((i:Int) < (lv.length:Int)) = True:=by simp; omega
  have hi0:(0 ≤ (i:Int)) = True:=by simp
  have hlv:=hbl lv[i] (List.getElem_mem hi)
  have hge:((q.occ.length:Int) ≤ lv[i]) = False:=by simp; omega
  simp -implicitDefEqProofs only [push_cast,Nat.reduceAdd,Nat.reduceSub,Nat.reduceMul,Nat.reduceLT,Nat.reduceLeDiff,Nat.reduceEqDiff,Nat.reduceBEq,reduceCtorEq,reduceIte,Int.reduceLE,Int.reduceLT,Int.reduceNeg,Int.reduceToNat,hi',hi0,encIs_get lv i hi,encI,encQ]
  refine areg_at 8 (by kernel_rfl) (by kernel_rfl) ?_
  simp -implicitDefEqProofs only [push_cast,Nat.reduceAdd,Nat.reduceSub,Nat.reduceMul,Nat.reduceLT,Nat.reduceLeDiff,Nat.reduceEqDiff,Nat.reduceBEq,reduceCtorEq,reduceIte,Int.reduceLE,Int.reduceLT,Int.reduceNeg,Int.reduceToNat,hi',hi0,encIs_get lv i hi,encI,encQ,hge]
  rw [wrap64 (n:=(i:Int) + 1) (by omega) (by omega)]
  refine next_at [some 0,some 1,some 2,some 3] (i + 1) (by omega) (by omega) rfl ?_ ?_
  ·(try simp -implicitDefEqProofs only [push_cast,Nat.reduceAdd,Nat.reduceSub,Nat.reduceMul,Nat.reduceLT,Nat.reduceLeDiff,Nat.reduceEqDiff,Nat.reduceBEq,reduceCtorEq,reduceIte,Int.reduceLE,Int.reduceLT,Int.reduceNeg,Int.reduceToNat,encDs_pure,encEs_pure,encIs_pure,encQ])
  ·(try simp -implicitDefEqProofs only [push_cast,Nat.reduceAdd,Nat.reduceSub,Nat.reduceMul,Nat.reduceLT,Nat.reduceLeDiff,Nat.reduceEqDiff,Nat.reduceBEq,reduceCtorEq,reduceIte,Int.reduceLE,Int.reduceLT,Int.reduceNeg,Int.reduceToNat,encDs_pure,encEs_pure,encIs_pure,encQ])
 have hi':((i:Int) < (lv.length:Int)) = False:=by simp; omega
 simp -implicitDefEqProofs only [push_cast,Nat.reduceAdd,Nat.reduceSub,Nat.reduceMul,Nat.reduceLT,Nat.reduceLeDiff,Nat.reduceEqDiff,Nat.reduceBEq,reduceCtorEq,reduceIte,Int.reduceLE,Int.reduceLT,Int.reduceNeg,Int.reduceToNat,hi',encQ,Int.reduceEq,if_false,if_true,or_true,or_false,true_or,false_or,List.map_cons,List.map_nil,List.length_cons,List.length_nil,Int.reduceAdd,List.set_cons_zero,List.set_cons_succ,List.cons_append,List.nil_append]
 refine callq hS ?_
 simp -implicitDefEqProofs only [push_cast,Nat.reduceAdd,Nat.reduceSub,Nat.reduceMul,Nat.reduceLT,Nat.reduceLeDiff,Nat.reduceEqDiff,Nat.reduceBEq,reduceCtorEq,reduceIte,Int.reduceLE,Int.reduceLT,Int.reduceNeg,Int.reduceToNat,encQ,Int.reduceEq,if_false,if_true,or_true,or_false,true_or,false_or,List.map_cons,List.map_nil,List.length_cons,List.length_nil,Int.reduceAdd,List.set_cons_zero,List.set_cons_succ,List.cons_append,List.nil_append]
 refine callq hC ?_
 simp -implicitDefEqProofs only [push_cast,Nat.reduceAdd,Nat.reduceSub,Nat.reduceMul,Nat.reduceLT,Nat.reduceLeDiff,Nat.reduceEqDiff,Nat.reduceBEq,reduceCtorEq,reduceIte,Int.reduceLE,Int.reduceLT,Int.reduceNeg,Int.reduceToNat,encQ,Int.reduceEq,if_false,if_true,or_true,or_false,true_or,false_or,List.map_cons,List.map_nil,List.length_cons,List.length_nil,Int.reduceAdd,List.set_cons_zero,List.set_cons_succ,List.cons_append,List.nil_append]
 refine gcallq' (.int (idx (fun c=>decide (col = c)) cols)) (fun h=>by simpa using h) (fun _=>hPl) ?_
 simp -implicitDefEqProofs only [push_cast,Nat.reduceAdd,Nat.reduceSub,Nat.reduceMul,Nat.reduceLT,Nat.reduceLeDiff,Nat.reduceEqDiff,Nat.reduceBEq,reduceCtorEq,reduceIte,Int.reduceLE,Int.reduceLT,Int.reduceNeg,Int.reduceToNat,encQ,Int.reduceEq,if_false,if_true,or_true,or_false,true_or,false_or,List.map_cons,List.map_nil,List.length_cons,List.length_nil,Int.reduceAdd,List.set_cons_zero,List.set_cons_succ,List.cons_append,List.nil_append,hcnd]
 refine callq hSa ?_
 simp -implicitDefEqProofs only [push_cast,Nat.reduceAdd,Nat.reduceSub,Nat.reduceMul,Nat.reduceLT,Nat.reduceLeDiff,Nat.reduceEqDiff,Nat.reduceBEq,reduceCtorEq,reduceIte,Int.reduceLE,Int.reduceLT,Int.reduceNeg,Int.reduceToNat,encQ,Int.reduceEq,if_false,if_true,or_true,or_false,true_or,false_or,List.map_cons,List.map_nil,List.length_cons,List.length_nil,Int.reduceAdd,List.set_cons_zero,List.set_cons_succ,List.cons_append,List.nil_append]
 refine callq hSb ?_
 simp -implicitDefEqProofs only [push_cast,Nat.reduceAdd,Nat.reduceSub,Nat.reduceMul,Nat.reduceLT,Nat.reduceLeDiff,Nat.reduceEqDiff,Nat.reduceBEq,reduceCtorEq,reduceIte,Int.reduceLE,Int.reduceLT,Int.reduceNeg,Int.reduceToNat,encQ,Int.reduceEq,if_false,if_true,or_true,or_false,true_or,false_or,List.map_cons,List.map_nil,List.length_cons,List.length_nil,Int.reduceAdd,List.set_cons_zero,List.set_cons_succ,List.cons_append,List.nil_append]
 refine callq hRa ?_
 simp -implicitDefEqProofs only [push_cast,Nat.reduceAdd,Nat.reduceSub,Nat.reduceMul,Nat.reduceLT,Nat.reduceLeDiff,Nat.reduceEqDiff,Nat.reduceBEq,reduceCtorEq,reduceIte,Int.reduceLE,Int.reduceLT,Int.reduceNeg,Int.reduceToNat,encQ,Int.reduceEq,if_false,if_true,or_true,or_false,true_or,false_or,List.map_cons,List.map_nil,List.length_cons,List.length_nil,Int.reduceAdd,List.set_cons_zero,List.set_cons_succ,List.cons_append,List.nil_append]
 refine callq hRb ?_
 simp -implicitDefEqProofs only [push_cast,Nat.reduceAdd,Nat.reduceSub,Nat.reduceMul,Nat.reduceLT,Nat.reduceLeDiff,Nat.reduceEqDiff,Nat.reduceBEq,reduceCtorEq,reduceIte,Int.reduceLE,Int.reduceLT,Int.reduceNeg,Int.reduceToNat,encQ,Int.reduceEq,if_false,if_true,or_true,or_false,true_or,false_or,List.map_cons,List.map_nil,List.length_cons,List.length_nil,Int.reduceAdd,List.set_cons_zero,List.set_cons_succ,List.cons_append,List.nil_append]
 refine callq hWs ?_
 simp -implicitDefEqProofs only [push_cast,Nat.reduceAdd,Nat.reduceSub,Nat.reduceMul,Nat.reduceLT,Nat.reduceLeDiff,Nat.reduceEqDiff,Nat.reduceBEq,reduceCtorEq,reduceIte,Int.reduceLE,Int.reduceLT,Int.reduceNeg,Int.reduceToNat,encQ,Int.reduceEq,if_false,if_true,or_true,or_false,true_or,false_or,List.map_cons,List.map_nil,List.length_cons,List.length_nil,Int.reduceAdd,List.set_cons_zero,List.set_cons_succ,List.cons_append,List.nil_append]
 clear hM hT hL hS hC hSa hSb hRa hRb hWs hbl hl16 hi2 hi hi'
 refine loop_at hs (σ:=Nat) (fun k=>k ≤ ws.length) (fun k=>ws.length - k)
  (fun k=>[(24, .int k),(23, .sl (ws.map encPl)),(21, .int ra),(22, .int rb),(17, .int (stN (accC W ws k))),(18, .ptr (H.nxt + 4) 5 0 0),(15, .int sj),(3, .int col),(4, .ptr (H.nxt + 0) 1 0 0),(5, .ptr (H.nxt + 1) 6 0 0),(6, .ptr (H.nxt + 2) 2 0 0),(9, .ptr (H.nxt + 3) 5 0 0)])
  (fun k=>[some (.cells 1 [[.sl (c.map encD)]] 0),some (.cells 6 [encQ q] 0),some (.cells 2 [[.int 0, .sl [encT a,encT b]]] 0),some (.cells 5 [encPl plO] 0),some (.cells 5 [encPl (stP (accC W ws k))] 0)]) [some 0,some 1,some 2,some 3,some 4] 0 (by omega) rfl ?_ ?_ ?_
 ·(try simp -implicitDefEqProofs only [push_cast,Nat.reduceAdd,Nat.reduceSub,Nat.reduceMul,Nat.reduceLT,Nat.reduceLeDiff,Nat.reduceEqDiff,Nat.reduceBEq,reduceCtorEq,reduceIte,Int.reduceLE,Int.reduceLT,Int.reduceNeg,Int.reduceToNat,encPls_pure,encDs_pure,encEs_pure,encIs_pure,encQ,accC_zero,stN_nil])
 ·(try simp -implicitDefEqProofs only [push_cast,Nat.reduceAdd,Nat.reduceSub,Nat.reduceMul,Nat.reduceLT,Nat.reduceLeDiff,Nat.reduceEqDiff,Nat.reduceBEq,reduceCtorEq,reduceIte,Int.reduceLE,Int.reduceLT,Int.reduceNeg,Int.reduceToNat,encPls_pure,encDs_pure,encEs_pure,encIs_pure,encQ,plO,List.map_nil,accC_zero,stP_nil])
 intro k hk
 by_cases hkl:k < ws.length
 ·have hk':((k:Int) < (ws.length:Int)) = True:=by simp; omega
  have hk0:(0 ≤ (k:Int)) = True:=by simp
  have hsn:=accC_snoc W ws hkl
  have hget:=encPls_get ws k hkl
  have hwd:=hWdef ws[k]
  have hmem:=hWm ws[k] (List.getElem_mem hkl)
  have how:=hown ws[k]
  generalize ws[k] = w at hsn hget hwd hmem how
  have hpos:=acc_pos hWp ws k
  have hpush:=st_push hpos
  generalize hrow:accC W ws k = row at hsn hpush ⊢
  generalize hnx:accC W ws (k + 1) = nx at hsn
  generalize hsN:stN row = sN at hpush ⊢
  generalize hsP:stP row = sP at hpush ⊢
  rcases hmem with rfl | ⟨op,p,rfl,⟨hp1,hp2⟩,⟨rfl,rfl⟩ | rfl⟩
  ·have hax:=ha col
   have hby:=hb (-1)
   have h1:=hRa' col
   have h2:=hRb' (-1)
   rw [decide_eq_true (rfl:(-1:Int) = -1),Bool.true_or,if_pos rfl] at h2
   rw [nestW,encPl_mk,List.map_nil] at hget
   have hmp:mustP nestW col = (col,-1):=rfl
   rw [hmp] at hwd
   dsimp only at hwd
   have how:ownW c q nestW sa sb = nestK ra rb:=how
   by_cases hf:(decide (col = -1) || (q.cols c sa).contains col) = true
   ·rw [hf,if_pos rfl] at h1
    rw [if_neg (fun h=>by rw [decide_eq_false h.1,h.2] at hf; cases hf)] at hwd
    rw [h1] at hax
    rw [h2] at hby
    dsimp only at hwd hax hby how
    skip
    generalize bestF c q d a col = l at hwd hax
    generalize bestF c q d b (-1) = r at hwd hby
    obtain ⟨ln,lp⟩:=l
    obtain ⟨rn,rp⟩:=r
    rw [how] at hwd
    dsimp only at hwd hax hby
    rw [hwd] at hsn
    have hN:=Nest10_ok ra rb
    generalize nestK ra rb = own at hwd hsn hN
    have hAd:=Add10_ok [ln,rn,own] (by simp)
    have hpu:=hpush (addK [ln,rn,own], .mk 1 0 0 0 [lp,rp])
    generalize hall:addK [ln,rn,own] = all at hAd hsn hpu
    simp only [Pl.op,Pl.occ,Pl.a,Pl.b,nestW] at hsn
    rw [← hsn] at hpu
    dsimp only at hpu
    simp -implicitDefEqProofs only [push_cast,Nat.reduceAdd,Nat.reduceSub,Nat.reduceMul,Nat.reduceLT,Nat.reduceLeDiff,Nat.reduceEqDiff,Nat.reduceBEq,reduceCtorEq,reduceIte,Int.reduceLE,Int.reduceLT,Int.reduceNeg,Int.reduceToNat,encQ,Int.reduceEq,if_false,if_true,or_true,or_false,true_or,false_or,List.map_cons,List.map_nil,List.length_cons,List.length_nil,Int.reduceAdd,List.set_cons_zero,List.set_cons_succ,List.cons_append,List.nil_append,hk',hk0,hget]
    refine callq hN ?_
    simp -implicitDefEqProofs only [push_cast,Nat.reduceAdd,Nat.reduceSub,Nat.reduceMul,Nat.reduceLT,Nat.reduceLeDiff,Nat.reduceEqDiff,Nat.reduceBEq,reduceCtorEq,reduceIte,Int.reduceLE,Int.reduceLT,Int.reduceNeg,Int.reduceToNat,encQ,Int.reduceEq,if_false,if_true,or_true,or_false,true_or,false_or,List.map_cons,List.map_nil,List.length_cons,List.length_nil,Int.reduceAdd,List.set_cons_zero,List.set_cons_succ,List.cons_append,List.nil_append,hk',hk0,hget]
    refine areg_at 16 (by kernel_rfl) (by kernel_rfl) ?_
    simp -implicitDefEqProofs only [push_cast,Nat.reduceAdd,Nat.reduceSub,Nat.reduceMul,Nat.reduceLT,Nat.reduceLeDiff,Nat.reduceEqDiff,Nat.reduceBEq,reduceCtorEq,reduceIte,Int.reduceLE,Int.reduceLT,Int.reduceNeg,Int.reduceToNat,encQ,Int.reduceEq,if_false,if_true,or_true,or_false,true_or,false_or,List.map_cons,List.map_nil,List.length_cons,List.length_nil,Int.reduceAdd,List.set_cons_zero,List.set_cons_succ,List.cons_append,List.nil_append]
    refine ahdq hax ?_
    simp -implicitDefEqProofs only [push_cast,Nat.reduceAdd,Nat.reduceSub,Nat.reduceMul,Nat.reduceLT,Nat.reduceLeDiff,Nat.reduceEqDiff,Nat.reduceBEq,reduceCtorEq,reduceIte,Int.reduceLE,Int.reduceLT,Int.reduceNeg,Int.reduceToNat,encQ,Int.reduceEq,if_false,if_true,or_true,or_false,true_or,false_or,List.map_cons,List.map_nil,List.length_cons,List.length_nil,Int.reduceAdd,List.set_cons_zero,List.set_cons_succ,List.cons_append,List.nil_append]
    refine areg_at 16 (by kernel_rfl) (by kernel_rfl) ?_
    simp -implicitDefEqProofs only [push_cast,Nat.reduceAdd,Nat.reduceSub,Nat.reduceMul,Nat.reduceLT,Nat.reduceLeDiff,Nat.reduceEqDiff,Nat.reduceBEq,reduceCtorEq,reduceIte,Int.reduceLE,Int.reduceLT,Int.reduceNeg,Int.reduceToNat,encQ,Int.reduceEq,if_false,if_true,or_true,or_false,true_or,false_or,List.map_cons,List.map_nil,List.length_cons,List.length_nil,Int.reduceAdd,List.set_cons_zero,List.set_cons_succ,List.cons_append,List.nil_append]
    refine ahdq hby ?_
    simp -implicitDefEqProofs only [push_cast,Nat.reduceAdd,Nat.reduceSub,Nat.reduceMul,Nat.reduceLT,Nat.reduceLeDiff,Nat.reduceEqDiff,Nat.reduceBEq,reduceCtorEq,reduceIte,Int.reduceLE,Int.reduceLT,Int.reduceNeg,Int.reduceToNat,encQ,Int.reduceEq,if_false,if_true,or_true,or_false,true_or,false_or,List.map_cons,List.map_nil,List.length_cons,List.length_nil,Int.reduceAdd,List.set_cons_zero,List.set_cons_succ,List.cons_append,List.nil_append]
    refine fzk H 7 3 [.sl ([ln,rn,own].map encI)] (by rfl) (by omega) (by simp) ?_ ?_
    ·(try simp -implicitDefEqProofs only [push_cast,Nat.reduceAdd,Nat.reduceSub,Nat.reduceMul,Nat.reduceLT,Nat.reduceLeDiff,Nat.reduceEqDiff,Nat.reduceBEq,reduceCtorEq,reduceIte,Int.reduceLE,Int.reduceLT,Int.reduceNeg,Int.reduceToNat,encI,List.map_cons,List.map_nil])
    refine callq hAd ?_
    by_cases hs0:sN < 0
    ·obtain ⟨e1,e2⟩:=hpu.1 (.inl hs0)
     have hd0:decide (sN < 0) = true:=decide_eq_true hs0
     simp -implicitDefEqProofs only [push_cast,Nat.reduceAdd,Nat.reduceSub,Nat.reduceMul,Nat.reduceLT,Nat.reduceLeDiff,Nat.reduceEqDiff,Nat.reduceBEq,reduceCtorEq,reduceIte,Int.reduceLE,Int.reduceLT,Int.reduceNeg,Int.reduceToNat,encQ,Int.reduceEq,if_false,if_true,or_true,or_false,true_or,false_or,List.map_cons,List.map_nil,List.length_cons,List.length_nil,Int.reduceAdd,List.set_cons_zero,List.set_cons_succ,List.cons_append,List.nil_append,hd0,Bool.true_or,Bool.or_true,Bool.true_and,Bool.and_true,Bool.false_or]
     refine areg_im [228] 14 (by kernel_rfl) (by kernel_rfl) ?_
     simp -implicitDefEqProofs only [push_cast,Nat.reduceAdd,Nat.reduceSub,Nat.reduceMul,Nat.reduceLT,Nat.reduceLeDiff,Nat.reduceEqDiff,Nat.reduceBEq,reduceCtorEq,reduceIte,Int.reduceLE,Int.reduceLT,Int.reduceNeg,Int.reduceToNat,encQ,Int.reduceEq,if_false,if_true,or_true,or_false,true_or,false_or,List.map_cons,List.map_nil,List.length_cons,List.length_nil,Int.reduceAdd,List.set_cons_zero,List.set_cons_succ,List.cons_append,List.nil_append,hk',hk0,hget]
     rw [wrap64 (n:=(k:Int) + 1) (by omega) (by omega)]
     refine next_at [some 0,some 1,some 2,some 3,some 4] (k + 1) (by omega) (by omega) rfl ?_ ?_
     ·(try simp -implicitDefEqProofs only [push_cast,Nat.reduceAdd,Nat.reduceSub,Nat.reduceMul,Nat.reduceLT,Nat.reduceLeDiff,Nat.reduceEqDiff,Nat.reduceBEq,reduceCtorEq,reduceIte,Int.reduceLE,Int.reduceLT,Int.reduceNeg,Int.reduceToNat,hnx,e1,encPls_pure,encPl_pure,encDs_pure,encEs_pure,encIs_pure,encQ,Int.reduceEq,if_false,if_true,or_true,or_false,true_or,false_or,List.map_cons,List.map_nil,List.length_cons,List.length_nil,Int.reduceAdd,List.set_cons_zero,List.set_cons_succ,List.cons_append,List.nil_append])
     ·(try simp -implicitDefEqProofs only [push_cast,Nat.reduceAdd,Nat.reduceSub,Nat.reduceMul,Nat.reduceLT,Nat.reduceLeDiff,Nat.reduceEqDiff,Nat.reduceBEq,reduceCtorEq,reduceIte,Int.reduceLE,Int.reduceLT,Int.reduceNeg,Int.reduceToNat,hnx,e2,encPl_drop,encPl_mk,encPls_pure,encPl_pure,encDs_pure,encEs_pure,encIs_pure,encQ,Int.reduceEq,if_false,if_true,or_true,or_false,true_or,false_or,List.map_cons,List.map_nil,List.length_cons,List.length_nil,Int.reduceAdd,List.set_cons_zero,List.set_cons_succ,List.cons_append,List.nil_append])
    have hd0:decide (sN < 0) = false:=decide_eq_false hs0
    by_cases hs1:all < sN
    ·obtain ⟨e1,e2⟩:=hpu.1 (.inr hs1)
     have hd1:decide (all < sN) = true:=decide_eq_true hs1
     simp -implicitDefEqProofs only [push_cast,Nat.reduceAdd,Nat.reduceSub,Nat.reduceMul,Nat.reduceLT,Nat.reduceLeDiff,Nat.reduceEqDiff,Nat.reduceBEq,reduceCtorEq,reduceIte,Int.reduceLE,Int.reduceLT,Int.reduceNeg,Int.reduceToNat,encQ,Int.reduceEq,if_false,if_true,or_true,or_false,true_or,false_or,List.map_cons,List.map_nil,List.length_cons,List.length_nil,Int.reduceAdd,List.set_cons_zero,List.set_cons_succ,List.cons_append,List.nil_append,hd0,hd1,Bool.true_or,Bool.or_true,Bool.true_and,Bool.and_true,Bool.false_or]
     refine areg_im [228] 14 (by kernel_rfl) (by kernel_rfl) ?_
     simp -implicitDefEqProofs only [push_cast,Nat.reduceAdd,Nat.reduceSub,Nat.reduceMul,Nat.reduceLT,Nat.reduceLeDiff,Nat.reduceEqDiff,Nat.reduceBEq,reduceCtorEq,reduceIte,Int.reduceLE,Int.reduceLT,Int.reduceNeg,Int.reduceToNat,encQ,Int.reduceEq,if_false,if_true,or_true,or_false,true_or,false_or,List.map_cons,List.map_nil,List.length_cons,List.length_nil,Int.reduceAdd,List.set_cons_zero,List.set_cons_succ,List.cons_append,List.nil_append,hk',hk0,hget]
     rw [wrap64 (n:=(k:Int) + 1) (by omega) (by omega)]
     refine next_at [some 0,some 1,some 2,some 3,some 4] (k + 1) (by omega) (by omega) rfl ?_ ?_
     ·(try simp -implicitDefEqProofs only [push_cast,Nat.reduceAdd,Nat.reduceSub,Nat.reduceMul,Nat.reduceLT,Nat.reduceLeDiff,Nat.reduceEqDiff,Nat.reduceBEq,reduceCtorEq,reduceIte,Int.reduceLE,Int.reduceLT,Int.reduceNeg,Int.reduceToNat,hnx,e1,encPls_pure,encPl_pure,encDs_pure,encEs_pure,encIs_pure,encQ,Int.reduceEq,if_false,if_true,or_true,or_false,true_or,false_or,List.map_cons,List.map_nil,List.length_cons,List.length_nil,Int.reduceAdd,List.set_cons_zero,List.set_cons_succ,List.cons_append,List.nil_append])
     ·(try simp -implicitDefEqProofs only [push_cast,Nat.reduceAdd,Nat.reduceSub,Nat.reduceMul,Nat.reduceLT,Nat.reduceLeDiff,Nat.reduceEqDiff,Nat.reduceBEq,reduceCtorEq,reduceIte,Int.reduceLE,Int.reduceLT,Int.reduceNeg,Int.reduceToNat,hnx,e2,encPl_drop,encPl_mk,encPls_pure,encPl_pure,encDs_pure,encEs_pure,encIs_pure,encQ,Int.reduceEq,if_false,if_true,or_true,or_false,true_or,false_or,List.map_cons,List.map_nil,List.length_cons,List.length_nil,Int.reduceAdd,List.set_cons_zero,List.set_cons_succ,List.cons_append,List.nil_append])
    obtain ⟨e1,e2⟩:=hpu.2 (fun h=>h.elim hs0 hs1)
    have hd1:decide (all < sN) = false:=decide_eq_false hs1
    simp -implicitDefEqProofs only [push_cast,Nat.reduceAdd,Nat.reduceSub,Nat.reduceMul,Nat.reduceLT,Nat.reduceLeDiff,Nat.reduceEqDiff,Nat.reduceBEq,reduceCtorEq,reduceIte,Int.reduceLE,Int.reduceLT,Int.reduceNeg,Int.reduceToNat,encQ,Int.reduceEq,if_false,if_true,or_true,or_false,true_or,false_or,List.map_cons,List.map_nil,List.length_cons,List.length_nil,Int.reduceAdd,List.set_cons_zero,List.set_cons_succ,List.cons_append,List.nil_append,hd0,hd1,Bool.true_or,Bool.or_true,Bool.true_and,Bool.and_true,Bool.false_or,Bool.or_false,Bool.and_false]
    rw [wrap64 (n:=(k:Int) + 1) (by omega) (by omega)]
    refine next_at [some 0,some 1,some 2,some 3,some 4] (k + 1) (by omega) (by omega) rfl ?_ ?_
    ·(try simp -implicitDefEqProofs only [push_cast,Nat.reduceAdd,Nat.reduceSub,Nat.reduceMul,Nat.reduceLT,Nat.reduceLeDiff,Nat.reduceEqDiff,Nat.reduceBEq,reduceCtorEq,reduceIte,Int.reduceLE,Int.reduceLT,Int.reduceNeg,Int.reduceToNat,hnx,e1,encPls_pure,encPl_pure,encDs_pure,encEs_pure,encIs_pure,encQ,Int.reduceEq,if_false,if_true,or_true,or_false,true_or,false_or,List.map_cons,List.map_nil,List.length_cons,List.length_nil,Int.reduceAdd,List.set_cons_zero,List.set_cons_succ,List.cons_append,List.nil_append])
    ·(try simp -implicitDefEqProofs only [push_cast,Nat.reduceAdd,Nat.reduceSub,Nat.reduceMul,Nat.reduceLT,Nat.reduceLeDiff,Nat.reduceEqDiff,Nat.reduceBEq,reduceCtorEq,reduceIte,Int.reduceLE,Int.reduceLT,Int.reduceNeg,Int.reduceToNat,hnx,e2,hsP,encPls_pure,encPl_pure,encDs_pure,encEs_pure,encIs_pure,encQ,Int.reduceEq,if_false,if_true,or_true,or_false,true_or,false_or,List.map_cons,List.map_nil,List.length_cons,List.length_nil,Int.reduceAdd,List.set_cons_zero,List.set_cons_succ,List.cons_append,List.nil_append])
   ·rw [if_neg hf] at h1
    have hg:=Bool.eq_false_iff.2 hf
    rw [Bool.or_eq_false_iff,decide_eq_false_iff_not] at hg
    rw [if_pos hg] at hwd
    rw [h1] at hax
    rw [h2] at hby
    dsimp only at hax hby
    rw [hwd,List.append_nil] at hsn
    generalize bestF c q d b (-1) = r at hby
    obtain ⟨rn,rp⟩:=r
    dsimp only at hby
    have hN:=Nest10_ok ra rb
    generalize nestK ra rb = own at hN
    have hAd:=Add10_ok [0,rn,own] (by simp)
    generalize addK [0,rn,own] = all at hAd
    simp -implicitDefEqProofs only [push_cast,Nat.reduceAdd,Nat.reduceSub,Nat.reduceMul,Nat.reduceLT,Nat.reduceLeDiff,Nat.reduceEqDiff,Nat.reduceBEq,reduceCtorEq,reduceIte,Int.reduceLE,Int.reduceLT,Int.reduceNeg,Int.reduceToNat,encQ,Int.reduceEq,if_false,if_true,or_true,or_false,true_or,false_or,List.map_cons,List.map_nil,List.length_cons,List.length_nil,Int.reduceAdd,List.set_cons_zero,List.set_cons_succ,List.cons_append,List.nil_append,hk',hk0,hget]
    refine callq hN ?_
    simp -implicitDefEqProofs only [push_cast,Nat.reduceAdd,Nat.reduceSub,Nat.reduceMul,Nat.reduceLT,Nat.reduceLeDiff,Nat.reduceEqDiff,Nat.reduceBEq,reduceCtorEq,reduceIte,Int.reduceLE,Int.reduceLT,Int.reduceNeg,Int.reduceToNat,encQ,Int.reduceEq,if_false,if_true,or_true,or_false,true_or,false_or,List.map_cons,List.map_nil,List.length_cons,List.length_nil,Int.reduceAdd,List.set_cons_zero,List.set_cons_succ,List.cons_append,List.nil_append,hk',hk0,hget]
    refine areg_at 16 (by kernel_rfl) (by kernel_rfl) ?_
    simp -implicitDefEqProofs only [push_cast,Nat.reduceAdd,Nat.reduceSub,Nat.reduceMul,Nat.reduceLT,Nat.reduceLeDiff,Nat.reduceEqDiff,Nat.reduceBEq,reduceCtorEq,reduceIte,Int.reduceLE,Int.reduceLT,Int.reduceNeg,Int.reduceToNat,encQ,Int.reduceEq,if_false,if_true,or_true,or_false,true_or,false_or,List.map_cons,List.map_nil,List.length_cons,List.length_nil,Int.reduceAdd,List.set_cons_zero,List.set_cons_succ,List.cons_append,List.nil_append]
    refine ahdq hax ?_
    simp -implicitDefEqProofs only [push_cast,Nat.reduceAdd,Nat.reduceSub,Nat.reduceMul,Nat.reduceLT,Nat.reduceLeDiff,Nat.reduceEqDiff,Nat.reduceBEq,reduceCtorEq,reduceIte,Int.reduceLE,Int.reduceLT,Int.reduceNeg,Int.reduceToNat,encQ,Int.reduceEq,if_false,if_true,or_true,or_false,true_or,false_or,List.map_cons,List.map_nil,List.length_cons,List.length_nil,Int.reduceAdd,List.set_cons_zero,List.set_cons_succ,List.cons_append,List.nil_append]
    refine areg_at 16 (by kernel_rfl) (by kernel_rfl) ?_
    simp -implicitDefEqProofs only [push_cast,Nat.reduceAdd,Nat.reduceSub,Nat.reduceMul,Nat.reduceLT,Nat.reduceLeDiff,Nat.reduceEqDiff,Nat.reduceBEq,reduceCtorEq,reduceIte,Int.reduceLE,Int.reduceLT,Int.reduceNeg,Int.reduceToNat,encQ,Int.reduceEq,if_false,if_true,or_true,or_false,true_or,false_or,List.map_cons,List.map_nil,List.length_cons,List.length_nil,Int.reduceAdd,List.set_cons_zero,List.set_cons_succ,List.cons_append,List.nil_append]
    refine ahdq hby ?_
    simp -implicitDefEqProofs only [push_cast,Nat.reduceAdd,Nat.reduceSub,Nat.reduceMul,Nat.reduceLT,Nat.reduceLeDiff,Nat.reduceEqDiff,Nat.reduceBEq,reduceCtorEq,reduceIte,Int.reduceLE,Int.reduceLT,Int.reduceNeg,Int.reduceToNat,encQ,Int.reduceEq,if_false,if_true,or_true,or_false,true_or,false_or,List.map_cons,List.map_nil,List.length_cons,List.length_nil,Int.reduceAdd,List.set_cons_zero,List.set_cons_succ,List.cons_append,List.nil_append]
    refine fzk H 7 3 [.sl ([0,rn,own].map encI)] (by rfl) (by omega) (by simp) ?_ ?_
    ·(try simp -implicitDefEqProofs only [push_cast,Nat.reduceAdd,Nat.reduceSub,Nat.reduceMul,Nat.reduceLT,Nat.reduceLeDiff,Nat.reduceEqDiff,Nat.reduceBEq,reduceCtorEq,reduceIte,Int.reduceLE,Int.reduceLT,Int.reduceNeg,Int.reduceToNat,encI,List.map_cons,List.map_nil])
    refine callq hAd ?_
    simp -implicitDefEqProofs only [push_cast,Nat.reduceAdd,Nat.reduceSub,Nat.reduceMul,Nat.reduceLT,Nat.reduceLeDiff,Nat.reduceEqDiff,Nat.reduceBEq,reduceCtorEq,reduceIte,Int.reduceLE,Int.reduceLT,Int.reduceNeg,Int.reduceToNat,encQ,Int.reduceEq,if_false,if_true,or_true,or_false,true_or,false_or,List.map_cons,List.map_nil,List.length_cons,List.length_nil,Int.reduceAdd,List.set_cons_zero,List.set_cons_succ,List.cons_append,List.nil_append,Bool.false_and,Bool.true_and]
    rw [wrap64 (n:=(k:Int) + 1) (by omega) (by omega)]
    subst hsn
    refine next_at [some 0,some 1,some 2,some 3,some 4] (k + 1) (by omega) (by omega) rfl ?_ ?_
    ·(try simp -implicitDefEqProofs only [push_cast,Nat.reduceAdd,Nat.reduceSub,Nat.reduceMul,Nat.reduceLT,Nat.reduceLeDiff,Nat.reduceEqDiff,Nat.reduceBEq,reduceCtorEq,reduceIte,Int.reduceLE,Int.reduceLT,Int.reduceNeg,Int.reduceToNat,hnx,hsN,encPls_pure,encPl_pure,encDs_pure,encEs_pure,encIs_pure,encQ,Int.reduceEq,if_false,if_true,or_true,or_false,true_or,false_or,List.map_cons,List.map_nil,List.length_cons,List.length_nil,Int.reduceAdd,List.set_cons_zero,List.set_cons_succ,List.cons_append,List.nil_append])
    ·(try simp -implicitDefEqProofs only [push_cast,Nat.reduceAdd,Nat.reduceSub,Nat.reduceMul,Nat.reduceLT,Nat.reduceLeDiff,Nat.reduceEqDiff,Nat.reduceBEq,reduceCtorEq,reduceIte,Int.reduceLE,Int.reduceLT,Int.reduceNeg,Int.reduceToNat,hnx,hsP,encPls_pure,encPl_pure,encDs_pure,encEs_pure,encIs_pure,encQ,Int.reduceEq,if_false,if_true,or_true,or_false,true_or,false_or,List.map_cons,List.map_nil,List.length_cons,List.length_nil,Int.reduceAdd,List.set_cons_zero,List.set_cons_succ,List.cons_append,List.nil_append])
  ·have hax:=ha (-1)
   have hby:=hb (-1)
   have h1:=hRa' (-1)
   have h2:=hRb' (-1)
   rw [decide_eq_true (rfl:(-1:Int) = -1),Bool.true_or,if_pos rfl] at h2
   rw [decide_eq_true (rfl:(-1:Int) = -1),Bool.true_or,if_pos rfl] at h1
   rw [encPl_mk,List.map_nil] at hget
   have hmp:mustP (.mk 2 0 p.1 p.2 []) (-1) = (-1,-1):=rfl
   rw [hmp] at hwd
   dsimp only at hwd
   rw [if_neg (fun h=>h.1 rfl)] at hwd
   have how:ownW c q (.mk 2 0 p.1 p.2 []) sa sb = hashK ra rb:=how
   rw [h1] at hax
   rw [h2] at hby
   dsimp only at hwd hax hby how
   skip
   generalize bestF c q d a (-1) = l at hwd hax
   generalize bestF c q d b (-1) = r at hwd hby
   obtain ⟨ln,lp⟩:=l
   obtain ⟨rn,rp⟩:=r
   rw [how] at hwd
   dsimp only at hwd hax hby
   rw [hwd] at hsn
   have hN:=Hash10_ok ra rb
   have hNn:=Nest10_ok ra rb
   generalize hashK ra rb = own at hwd hsn hN
   generalize nestK ra rb = ownn at hNn
   have hAd:=Add10_ok [ln,rn,own] (by simp)
   have hpu:=hpush (addK [ln,rn,own], .mk 2 0 p.1 p.2 [lp,rp])
   generalize hall:addK [ln,rn,own] = all at hAd hsn hpu
   simp only [Pl.op,Pl.occ,Pl.a,Pl.b,nestW] at hsn
   rw [← hsn] at hpu
   dsimp only at hpu
   simp -implicitDefEqProofs only [push_cast,Nat.reduceAdd,Nat.reduceSub,Nat.reduceMul,Nat.reduceLT,Nat.reduceLeDiff,Nat.reduceEqDiff,Nat.reduceBEq,reduceCtorEq,reduceIte,Int.reduceLE,Int.reduceLT,Int.reduceNeg,Int.reduceToNat,encQ,Int.reduceEq,if_false,if_true,or_true,or_false,true_or,false_or,List.map_cons,List.map_nil,List.length_cons,List.length_nil,Int.reduceAdd,List.set_cons_zero,List.set_cons_succ,List.cons_append,List.nil_append,hk',hk0,hget]
   refine callq hNn ?_
   simp -implicitDefEqProofs only [push_cast,Nat.reduceAdd,Nat.reduceSub,Nat.reduceMul,Nat.reduceLT,Nat.reduceLeDiff,Nat.reduceEqDiff,Nat.reduceBEq,reduceCtorEq,reduceIte,Int.reduceLE,Int.reduceLT,Int.reduceNeg,Int.reduceToNat,encQ,Int.reduceEq,if_false,if_true,or_true,or_false,true_or,false_or,List.map_cons,List.map_nil,List.length_cons,List.length_nil,Int.reduceAdd,List.set_cons_zero,List.set_cons_succ,List.cons_append,List.nil_append,hk',hk0,hget]
   refine callq hN ?_
   simp -implicitDefEqProofs only [push_cast,Nat.reduceAdd,Nat.reduceSub,Nat.reduceMul,Nat.reduceLT,Nat.reduceLeDiff,Nat.reduceEqDiff,Nat.reduceBEq,reduceCtorEq,reduceIte,Int.reduceLE,Int.reduceLT,Int.reduceNeg,Int.reduceToNat,encQ,Int.reduceEq,if_false,if_true,or_true,or_false,true_or,false_or,List.map_cons,List.map_nil,List.length_cons,List.length_nil,Int.reduceAdd,List.set_cons_zero,List.set_cons_succ,List.cons_append,List.nil_append,hk',hk0,hget]
   refine areg_at 16 (by kernel_rfl) (by kernel_rfl) ?_
   simp -implicitDefEqProofs only [push_cast,Nat.reduceAdd,Nat.reduceSub,Nat.reduceMul,Nat.reduceLT,Nat.reduceLeDiff,Nat.reduceEqDiff,Nat.reduceBEq,reduceCtorEq,reduceIte,Int.reduceLE,Int.reduceLT,Int.reduceNeg,Int.reduceToNat,encQ,Int.reduceEq,if_false,if_true,or_true,or_false,true_or,false_or,List.map_cons,List.map_nil,List.length_cons,List.length_nil,Int.reduceAdd,List.set_cons_zero,List.set_cons_succ,List.cons_append,List.nil_append]
   refine ahdq hax ?_
   simp -implicitDefEqProofs only [push_cast,Nat.reduceAdd,Nat.reduceSub,Nat.reduceMul,Nat.reduceLT,Nat.reduceLeDiff,Nat.reduceEqDiff,Nat.reduceBEq,reduceCtorEq,reduceIte,Int.reduceLE,Int.reduceLT,Int.reduceNeg,Int.reduceToNat,encQ,Int.reduceEq,if_false,if_true,or_true,or_false,true_or,false_or,List.map_cons,List.map_nil,List.length_cons,List.length_nil,Int.reduceAdd,List.set_cons_zero,List.set_cons_succ,List.cons_append,List.nil_append]
   refine areg_at 16 (by kernel_rfl) (by kernel_rfl) ?_
   simp -implicitDefEqProofs only [push_cast,Nat.reduceAdd,Nat.reduceSub,Nat.reduceMul,Nat.reduceLT,Nat.reduceLeDiff,Nat.reduceEqDiff,Nat.reduceBEq,reduceCtorEq,reduceIte,Int.reduceLE,Int.reduceLT,Int.reduceNeg,Int.reduceToNat,encQ,Int.reduceEq,if_false,if_true,or_true,or_false,true_or,false_or,List.map_cons,List.map_nil,List.length_cons,List.length_nil,Int.reduceAdd,List.set_cons_zero,List.set_cons_succ,List.cons_append,List.nil_append]
   refine ahdq hby ?_
   simp -implicitDefEqProofs only [push_cast,Nat.reduceAdd,Nat.reduceSub,Nat.reduceMul,Nat.reduceLT,Nat.reduceLeDiff,Nat.reduceEqDiff,Nat.reduceBEq,reduceCtorEq,reduceIte,Int.reduceLE,Int.reduceLT,Int.reduceNeg,Int.reduceToNat,encQ,Int.reduceEq,if_false,if_true,or_true,or_false,true_or,false_or,List.map_cons,List.map_nil,List.length_cons,List.length_nil,Int.reduceAdd,List.set_cons_zero,List.set_cons_succ,List.cons_append,List.nil_append]
   refine fzk H 7 3 [.sl ([ln,rn,own].map encI)] (by rfl) (by omega) (by simp) ?_ ?_
   ·(try simp -implicitDefEqProofs only [push_cast,Nat.reduceAdd,Nat.reduceSub,Nat.reduceMul,Nat.reduceLT,Nat.reduceLeDiff,Nat.reduceEqDiff,Nat.reduceBEq,reduceCtorEq,reduceIte,Int.reduceLE,Int.reduceLT,Int.reduceNeg,Int.reduceToNat,encI,List.map_cons,List.map_nil])
   refine callq hAd ?_
   by_cases hs0:sN < 0
   ·obtain ⟨e1,e2⟩:=hpu.1 (.inl hs0)
    have hd0:decide (sN < 0) = true:=decide_eq_true hs0
    simp -implicitDefEqProofs only [push_cast,Nat.reduceAdd,Nat.reduceSub,Nat.reduceMul,Nat.reduceLT,Nat.reduceLeDiff,Nat.reduceEqDiff,Nat.reduceBEq,reduceCtorEq,reduceIte,Int.reduceLE,Int.reduceLT,Int.reduceNeg,Int.reduceToNat,encQ,Int.reduceEq,if_false,if_true,or_true,or_false,true_or,false_or,List.map_cons,List.map_nil,List.length_cons,List.length_nil,Int.reduceAdd,List.set_cons_zero,List.set_cons_succ,List.cons_append,List.nil_append,hd0,Bool.true_or,Bool.or_true,Bool.true_and,Bool.and_true,Bool.false_or]
    refine areg_im [228] 14 (by kernel_rfl) (by kernel_rfl) ?_
    simp -implicitDefEqProofs only [push_cast,Nat.reduceAdd,Nat.reduceSub,Nat.reduceMul,Nat.reduceLT,Nat.reduceLeDiff,Nat.reduceEqDiff,Nat.reduceBEq,reduceCtorEq,reduceIte,Int.reduceLE,Int.reduceLT,Int.reduceNeg,Int.reduceToNat,encQ,Int.reduceEq,if_false,if_true,or_true,or_false,true_or,false_or,List.map_cons,List.map_nil,List.length_cons,List.length_nil,Int.reduceAdd,List.set_cons_zero,List.set_cons_succ,List.cons_append,List.nil_append,hk',hk0,hget]
    rw [wrap64 (n:=(k:Int) + 1) (by omega) (by omega)]
    refine next_at [some 0,some 1,some 2,some 3,some 4] (k + 1) (by omega) (by omega) rfl ?_ ?_
    ·(try simp -implicitDefEqProofs only [push_cast,Nat.reduceAdd,Nat.reduceSub,Nat.reduceMul,Nat.reduceLT,Nat.reduceLeDiff,Nat.reduceEqDiff,Nat.reduceBEq,reduceCtorEq,reduceIte,Int.reduceLE,Int.reduceLT,Int.reduceNeg,Int.reduceToNat,hnx,e1,encPls_pure,encPl_pure,encDs_pure,encEs_pure,encIs_pure,encQ,Int.reduceEq,if_false,if_true,or_true,or_false,true_or,false_or,List.map_cons,List.map_nil,List.length_cons,List.length_nil,Int.reduceAdd,List.set_cons_zero,List.set_cons_succ,List.cons_append,List.nil_append])
    ·(try simp -implicitDefEqProofs only [push_cast,Nat.reduceAdd,Nat.reduceSub,Nat.reduceMul,Nat.reduceLT,Nat.reduceLeDiff,Nat.reduceEqDiff,Nat.reduceBEq,reduceCtorEq,reduceIte,Int.reduceLE,Int.reduceLT,Int.reduceNeg,Int.reduceToNat,hnx,e2,encPl_drop,encPl_mk,encPls_pure,encPl_pure,encDs_pure,encEs_pure,encIs_pure,encQ,Int.reduceEq,if_false,if_true,or_true,or_false,true_or,false_or,List.map_cons,List.map_nil,List.length_cons,List.length_nil,Int.reduceAdd,List.set_cons_zero,List.set_cons_succ,List.cons_append,List.nil_append])
   have hd0:decide (sN < 0) = false:=decide_eq_false hs0
   by_cases hs1:all < sN
   ·obtain ⟨e1,e2⟩:=hpu.1 (.inr hs1)
    have hd1:decide (all < sN) = true:=decide_eq_true hs1
    simp -implicitDefEqProofs only [push_cast,Nat.reduceAdd,Nat.reduceSub,Nat.reduceMul,Nat.reduceLT,Nat.reduceLeDiff,Nat.reduceEqDiff,Nat.reduceBEq,reduceCtorEq,reduceIte,Int.reduceLE,Int.reduceLT,Int.reduceNeg,Int.reduceToNat,encQ,Int.reduceEq,if_false,if_true,or_true,or_false,true_or,false_or,List.map_cons,List.map_nil,List.length_cons,List.length_nil,Int.reduceAdd,List.set_cons_zero,List.set_cons_succ,List.cons_append,List.nil_append,hd0,hd1,Bool.true_or,Bool.or_true,Bool.true_and,Bool.and_true,Bool.false_or]
    refine areg_im [228] 14 (by kernel_rfl) (by kernel_rfl) ?_
    simp -implicitDefEqProofs only [push_cast,Nat.reduceAdd,Nat.reduceSub,Nat.reduceMul,Nat.reduceLT,Nat.reduceLeDiff,Nat.reduceEqDiff,Nat.reduceBEq,reduceCtorEq,reduceIte,Int.reduceLE,Int.reduceLT,Int.reduceNeg,Int.reduceToNat,encQ,Int.reduceEq,if_false,if_true,or_true,or_false,true_or,false_or,List.map_cons,List.map_nil,List.length_cons,List.length_nil,Int.reduceAdd,List.set_cons_zero,List.set_cons_succ,List.cons_append,List.nil_append,hk',hk0,hget]
    rw [wrap64 (n:=(k:Int) + 1) (by omega) (by omega)]
    refine next_at [some 0,some 1,some 2,some 3,some 4] (k + 1) (by omega) (by omega) rfl ?_ ?_
    ·(try simp -implicitDefEqProofs only [push_cast,Nat.reduceAdd,Nat.reduceSub,Nat.reduceMul,Nat.reduceLT,Nat.reduceLeDiff,Nat.reduceEqDiff,Nat.reduceBEq,reduceCtorEq,reduceIte,Int.reduceLE,Int.reduceLT,Int.reduceNeg,Int.reduceToNat,hnx,e1,encPls_pure,encPl_pure,encDs_pure,encEs_pure,encIs_pure,encQ,Int.reduceEq,if_false,if_true,or_true,or_false,true_or,false_or,List.map_cons,List.map_nil,List.length_cons,List.length_nil,Int.reduceAdd,List.set_cons_zero,List.set_cons_succ,List.cons_append,List.nil_append])
    ·(try simp -implicitDefEqProofs only [push_cast,Nat.reduceAdd,Nat.reduceSub,Nat.reduceMul,Nat.reduceLT,Nat.reduceLeDiff,Nat.reduceEqDiff,Nat.reduceBEq,reduceCtorEq,reduceIte,Int.reduceLE,Int.reduceLT,Int.reduceNeg,Int.reduceToNat,hnx,e2,encPl_drop,encPl_mk,encPls_pure,encPl_pure,encDs_pure,encEs_pure,encIs_pure,encQ,Int.reduceEq,if_false,if_true,or_true,or_false,true_or,false_or,List.map_cons,List.map_nil,List.length_cons,List.length_nil,Int.reduceAdd,List.set_cons_zero,List.set_cons_succ,List.cons_append,List.nil_append])
   obtain ⟨e1,e2⟩:=hpu.2 (fun h=>h.elim hs0 hs1)
   have hd1:decide (all < sN) = false:=decide_eq_false hs1
   simp -implicitDefEqProofs only [push_cast,Nat.reduceAdd,Nat.reduceSub,Nat.reduceMul,Nat.reduceLT,Nat.reduceLeDiff,Nat.reduceEqDiff,Nat.reduceBEq,reduceCtorEq,reduceIte,Int.reduceLE,Int.reduceLT,Int.reduceNeg,Int.reduceToNat,encQ,Int.reduceEq,if_false,if_true,or_true,or_false,true_or,false_or,List.map_cons,List.map_nil,List.length_cons,List.length_nil,Int.reduceAdd,List.set_cons_zero,List.set_cons_succ,List.cons_append,List.nil_append,hd0,hd1,Bool.true_or,Bool.or_true,Bool.true_and,Bool.and_true,Bool.false_or,Bool.or_false,Bool.and_false]
   rw [wrap64 (n:=(k:Int) + 1) (by omega) (by omega)]
   refine next_at [some 0,some 1,some 2,some 3,some 4] (k + 1) (by omega) (by omega) rfl ?_ ?_
   ·(try simp -implicitDefEqProofs only [push_cast,Nat.reduceAdd,Nat.reduceSub,Nat.reduceMul,Nat.reduceLT,Nat.reduceLeDiff,Nat.reduceEqDiff,Nat.reduceBEq,reduceCtorEq,reduceIte,Int.reduceLE,Int.reduceLT,Int.reduceNeg,Int.reduceToNat,hnx,e1,encPls_pure,encPl_pure,encDs_pure,encEs_pure,encIs_pure,encQ,Int.reduceEq,if_false,if_true,or_true,or_false,true_or,false_or,List.map_cons,List.map_nil,List.length_cons,List.length_nil,Int.reduceAdd,List.set_cons_zero,List.set_cons_succ,List.cons_append,List.nil_append])
   ·(try simp -implicitDefEqProofs only [push_cast,Nat.reduceAdd,Nat.reduceSub,Nat.reduceMul,Nat.reduceLT,Nat.reduceLeDiff,Nat.reduceEqDiff,Nat.reduceBEq,reduceCtorEq,reduceIte,Int.reduceLE,Int.reduceLT,Int.reduceNeg,Int.reduceToNat,hnx,e2,hsP,encPls_pure,encPl_pure,encDs_pure,encEs_pure,encIs_pure,encQ,Int.reduceEq,if_false,if_true,or_true,or_false,true_or,false_or,List.map_cons,List.map_nil,List.length_cons,List.length_nil,Int.reduceAdd,List.set_cons_zero,List.set_cons_succ,List.cons_append,List.nil_append])
  ·have hax:=ha p.1
   have hby:=hb p.2
   have h1:=hRa' p.1
   have h2:=hRb' p.2
   rw [hp2,Bool.or_true,if_pos rfl] at h2
   rw [hp1,Bool.or_true,if_pos rfl] at h1
   rw [encPl_mk,List.map_nil] at hget
   have hmp:mustP (.mk 3 0 p.1 p.2 []) col = (p.1,p.2):=rfl
   rw [hmp] at hwd
   dsimp only at hwd
   rw [if_neg (fun h=>by rw [hp1] at h; cases h.2)] at hwd
   have how:ownW c q (.mk 3 0 p.1 p.2 []) sa sb = mergeK ra rb:=how
   rw [h1] at hax
   rw [h2] at hby
   dsimp only at hwd hax hby how
   skip
   generalize bestF c q d a p.1 = l at hwd hax
   generalize bestF c q d b p.2 = r at hwd hby
   obtain ⟨ln,lp⟩:=l
   obtain ⟨rn,rp⟩:=r
   rw [how] at hwd
   dsimp only at hwd hax hby
   rw [hwd] at hsn
   have hN:=Merge10_ok ra rb
   have hNn:=Nest10_ok ra rb
   generalize mergeK ra rb = own at hwd hsn hN
   generalize nestK ra rb = ownn at hNn
   have hAd:=Add10_ok [ln,rn,own] (by simp)
   have hpu:=hpush (addK [ln,rn,own], .mk 3 0 p.1 p.2 [lp,rp])
   generalize hall:addK [ln,rn,own] = all at hAd hsn hpu
   simp only [Pl.op,Pl.occ,Pl.a,Pl.b,nestW] at hsn
   rw [← hsn] at hpu
   dsimp only at hpu
   simp -implicitDefEqProofs only [push_cast,Nat.reduceAdd,Nat.reduceSub,Nat.reduceMul,Nat.reduceLT,Nat.reduceLeDiff,Nat.reduceEqDiff,Nat.reduceBEq,reduceCtorEq,reduceIte,Int.reduceLE,Int.reduceLT,Int.reduceNeg,Int.reduceToNat,encQ,Int.reduceEq,if_false,if_true,or_true,or_false,true_or,false_or,List.map_cons,List.map_nil,List.length_cons,List.length_nil,Int.reduceAdd,List.set_cons_zero,List.set_cons_succ,List.cons_append,List.nil_append,hk',hk0,hget]
   refine callq hNn ?_
   simp -implicitDefEqProofs only [push_cast,Nat.reduceAdd,Nat.reduceSub,Nat.reduceMul,Nat.reduceLT,Nat.reduceLeDiff,Nat.reduceEqDiff,Nat.reduceBEq,reduceCtorEq,reduceIte,Int.reduceLE,Int.reduceLT,Int.reduceNeg,Int.reduceToNat,encQ,Int.reduceEq,if_false,if_true,or_true,or_false,true_or,false_or,List.map_cons,List.map_nil,List.length_cons,List.length_nil,Int.reduceAdd,List.set_cons_zero,List.set_cons_succ,List.cons_append,List.nil_append,hk',hk0,hget]
   refine callq hN ?_
   simp -implicitDefEqProofs only [push_cast,Nat.reduceAdd,Nat.reduceSub,Nat.reduceMul,Nat.reduceLT,Nat.reduceLeDiff,Nat.reduceEqDiff,Nat.reduceBEq,reduceCtorEq,reduceIte,Int.reduceLE,Int.reduceLT,Int.reduceNeg,Int.reduceToNat,encQ,Int.reduceEq,if_false,if_true,or_true,or_false,true_or,false_or,List.map_cons,List.map_nil,List.length_cons,List.length_nil,Int.reduceAdd,List.set_cons_zero,List.set_cons_succ,List.cons_append,List.nil_append,hk',hk0,hget]
   refine areg_at 16 (by kernel_rfl) (by kernel_rfl) ?_
   simp -implicitDefEqProofs only [push_cast,Nat.reduceAdd,Nat.reduceSub,Nat.reduceMul,Nat.reduceLT,Nat.reduceLeDiff,Nat.reduceEqDiff,Nat.reduceBEq,reduceCtorEq,reduceIte,Int.reduceLE,Int.reduceLT,Int.reduceNeg,Int.reduceToNat,encQ,Int.reduceEq,if_false,if_true,or_true,or_false,true_or,false_or,List.map_cons,List.map_nil,List.length_cons,List.length_nil,Int.reduceAdd,List.set_cons_zero,List.set_cons_succ,List.cons_append,List.nil_append]
   refine ahdq hax ?_
   simp -implicitDefEqProofs only [push_cast,Nat.reduceAdd,Nat.reduceSub,Nat.reduceMul,Nat.reduceLT,Nat.reduceLeDiff,Nat.reduceEqDiff,Nat.reduceBEq,reduceCtorEq,reduceIte,Int.reduceLE,Int.reduceLT,Int.reduceNeg,Int.reduceToNat,encQ,Int.reduceEq,if_false,if_true,or_true,or_false,true_or,false_or,List.map_cons,List.map_nil,List.length_cons,List.length_nil,Int.reduceAdd,List.set_cons_zero,List.set_cons_succ,List.cons_append,List.nil_append]
   refine areg_at 16 (by kernel_rfl) (by kernel_rfl) ?_
   simp -implicitDefEqProofs only [push_cast,Nat.reduceAdd,Nat.reduceSub,Nat.reduceMul,Nat.reduceLT,Nat.reduceLeDiff,Nat.reduceEqDiff,Nat.reduceBEq,reduceCtorEq,reduceIte,Int.reduceLE,Int.reduceLT,Int.reduceNeg,Int.reduceToNat,encQ,Int.reduceEq,if_false,if_true,or_true,or_false,true_or,false_or,List.map_cons,List.map_nil,List.length_cons,List.length_nil,Int.reduceAdd,List.set_cons_zero,List.set_cons_succ,List.cons_append,List.nil_append]
   refine ahdq hby ?_
   simp -implicitDefEqProofs only [push_cast,Nat.reduceAdd,Nat.reduceSub,Nat.reduceMul,Nat.reduceLT,Nat.reduceLeDiff,Nat.reduceEqDiff,Nat.reduceBEq,reduceCtorEq,reduceIte,Int.reduceLE,Int.reduceLT,Int.reduceNeg,Int.reduceToNat,encQ,Int.reduceEq,if_false,if_true,or_true,or_false,true_or,false_or,List.map_cons,List.map_nil,List.length_cons,List.length_nil,Int.reduceAdd,List.set_cons_zero,List.set_cons_succ,List.cons_append,List.nil_append]
   refine fzk H 7 3 [.sl ([ln,rn,own].map encI)] (by rfl) (by omega) (by simp) ?_ ?_
   ·(try simp -implicitDefEqProofs only [push_cast,Nat.reduceAdd,Nat.reduceSub,Nat.reduceMul,Nat.reduceLT,Nat.reduceLeDiff,Nat.reduceEqDiff,Nat.reduceBEq,reduceCtorEq,reduceIte,Int.reduceLE,Int.reduceLT,Int.reduceNeg,Int.reduceToNat,encI,List.map_cons,List.map_nil])
   refine callq hAd ?_
   by_cases hs0:sN < 0
   ·obtain ⟨e1,e2⟩:=hpu.1 (.inl hs0)
    have hd0:decide (sN < 0) = true:=decide_eq_true hs0
    simp -implicitDefEqProofs only [push_cast,Nat.reduceAdd,Nat.reduceSub,Nat.reduceMul,Nat.reduceLT,Nat.reduceLeDiff,Nat.reduceEqDiff,Nat.reduceBEq,reduceCtorEq,reduceIte,Int.reduceLE,Int.reduceLT,Int.reduceNeg,Int.reduceToNat,encQ,Int.reduceEq,if_false,if_true,or_true,or_false,true_or,false_or,List.map_cons,List.map_nil,List.length_cons,List.length_nil,Int.reduceAdd,List.set_cons_zero,List.set_cons_succ,List.cons_append,List.nil_append,hd0,Bool.true_or,Bool.or_true,Bool.true_and,Bool.and_true,Bool.false_or]
    refine areg_im [228] 14 (by kernel_rfl) (by kernel_rfl) ?_
    simp -implicitDefEqProofs only [push_cast,Nat.reduceAdd,Nat.reduceSub,Nat.reduceMul,Nat.reduceLT,Nat.reduceLeDiff,Nat.reduceEqDiff,Nat.reduceBEq,reduceCtorEq,reduceIte,Int.reduceLE,Int.reduceLT,Int.reduceNeg,Int.reduceToNat,encQ,Int.reduceEq,if_false,if_true,or_true,or_false,true_or,false_or,List.map_cons,List.map_nil,List.length_cons,List.length_nil,Int.reduceAdd,List.set_cons_zero,List.set_cons_succ,List.cons_append,List.nil_append,hk',hk0,hget]
    rw [wrap64 (n:=(k:Int) + 1) (by omega) (by omega)]
    refine next_at [some 0,some 1,some 2,some 3,some 4] (k + 1) (by omega) (by omega) rfl ?_ ?_
    ·(try simp -implicitDefEqProofs only [push_cast,Nat.reduceAdd,Nat.reduceSub,Nat.reduceMul,Nat.reduceLT,Nat.reduceLeDiff,Nat.reduceEqDiff,Nat.reduceBEq,reduceCtorEq,reduceIte,Int.reduceLE,Int.reduceLT,Int.reduceNeg,Int.reduceToNat,hnx,e1,encPls_pure,encPl_pure,encDs_pure,encEs_pure,encIs_pure,encQ,Int.reduceEq,if_false,if_true,or_true,or_false,true_or,false_or,List.map_cons,List.map_nil,List.length_cons,List.length_nil,Int.reduceAdd,List.set_cons_zero,List.set_cons_succ,List.cons_append,List.nil_append])
    ·(try simp -implicitDefEqProofs only [push_cast,Nat.reduceAdd,Nat.reduceSub,Nat.reduceMul,Nat.reduceLT,Nat.reduceLeDiff,Nat.reduceEqDiff,Nat.reduceBEq,reduceCtorEq,reduceIte,Int.reduceLE,Int.reduceLT,Int.reduceNeg,Int.reduceToNat,hnx,e2,encPl_drop,encPl_mk,encPls_pure,encPl_pure,encDs_pure,encEs_pure,encIs_pure,encQ,Int.reduceEq,if_false,if_true,or_true,or_false,true_or,false_or,List.map_cons,List.map_nil,List.length_cons,List.length_nil,Int.reduceAdd,List.set_cons_zero,List.set_cons_succ,List.cons_append,List.nil_append])
   have hd0:decide (sN < 0) = false:=decide_eq_false hs0
   by_cases hs1:all < sN
   ·obtain ⟨e1,e2⟩:=hpu.1 (.inr hs1)
    have hd1:decide (all < sN) = true:=decide_eq_true hs1
    simp -implicitDefEqProofs only [push_cast,Nat.reduceAdd,Nat.reduceSub,Nat.reduceMul,Nat.reduceLT,Nat.reduceLeDiff,Nat.reduceEqDiff,Nat.reduceBEq,reduceCtorEq,reduceIte,Int.reduceLE,Int.reduceLT,Int.reduceNeg,Int.reduceToNat,encQ,Int.reduceEq,if_false,if_true,or_true,or_false,true_or,false_or,List.map_cons,List.map_nil,List.length_cons,List.length_nil,Int.reduceAdd,List.set_cons_zero,List.set_cons_succ,List.cons_append,List.nil_append,hd0,hd1,Bool.true_or,Bool.or_true,Bool.true_and,Bool.and_true,Bool.false_or]
    refine areg_im [228] 14 (by kernel_rfl) (by kernel_rfl) ?_
    simp -implicitDefEqProofs only [push_cast,Nat.reduceAdd,Nat.reduceSub,Nat.reduceMul,Nat.reduceLT,Nat.reduceLeDiff,Nat.reduceEqDiff,Nat.reduceBEq,reduceCtorEq,reduceIte,Int.reduceLE,Int.reduceLT,Int.reduceNeg,Int.reduceToNat,encQ,Int.reduceEq,if_false,if_true,or_true,or_false,true_or,false_or,List.map_cons,List.map_nil,List.length_cons,List.length_nil,Int.reduceAdd,List.set_cons_zero,List.set_cons_succ,List.cons_append,List.nil_append,hk',hk0,hget]
    rw [wrap64 (n:=(k:Int) + 1) (by omega) (by omega)]
    refine next_at [some 0,some 1,some 2,some 3,some 4] (k + 1) (by omega) (by omega) rfl ?_ ?_
    ·(try simp -implicitDefEqProofs only [push_cast,Nat.reduceAdd,Nat.reduceSub,Nat.reduceMul,Nat.reduceLT,Nat.reduceLeDiff,Nat.reduceEqDiff,Nat.reduceBEq,reduceCtorEq,reduceIte,Int.reduceLE,Int.reduceLT,Int.reduceNeg,Int.reduceToNat,hnx,e1,encPls_pure,encPl_pure,encDs_pure,encEs_pure,encIs_pure,encQ,Int.reduceEq,if_false,if_true,or_true,or_false,true_or,false_or,List.map_cons,List.map_nil,List.length_cons,List.length_nil,Int.reduceAdd,List.set_cons_zero,List.set_cons_succ,List.cons_append,List.nil_append])
    ·(try simp -implicitDefEqProofs only [push_cast,Nat.reduceAdd,Nat.reduceSub,Nat.reduceMul,Nat.reduceLT,Nat.reduceLeDiff,Nat.reduceEqDiff,Nat.reduceBEq,reduceCtorEq,reduceIte,Int.reduceLE,Int.reduceLT,Int.reduceNeg,Int.reduceToNat,hnx,e2,encPl_drop,encPl_mk,encPls_pure,encPl_pure,encDs_pure,encEs_pure,encIs_pure,encQ,Int.reduceEq,if_false,if_true,or_true,or_false,true_or,false_or,List.map_cons,List.map_nil,List.length_cons,List.length_nil,Int.reduceAdd,List.set_cons_zero,List.set_cons_succ,List.cons_append,List.nil_append])
   obtain ⟨e1,e2⟩:=hpu.2 (fun h=>h.elim hs0 hs1)
   have hd1:decide (all < sN) = false:=decide_eq_false hs1
   simp -implicitDefEqProofs only [push_cast,Nat.reduceAdd,Nat.reduceSub,Nat.reduceMul,Nat.reduceLT,Nat.reduceLeDiff,Nat.reduceEqDiff,Nat.reduceBEq,reduceCtorEq,reduceIte,Int.reduceLE,Int.reduceLT,Int.reduceNeg,Int.reduceToNat,encQ,Int.reduceEq,if_false,if_true,or_true,or_false,true_or,false_or,List.map_cons,List.map_nil,List.length_cons,List.length_nil,Int.reduceAdd,List.set_cons_zero,List.set_cons_succ,List.cons_append,List.nil_append,hd0,hd1,Bool.true_or,Bool.or_true,Bool.true_and,Bool.and_true,Bool.false_or,Bool.or_false,Bool.and_false]
   rw [wrap64 (n:=(k:Int) + 1) (by omega) (by omega)]
   refine next_at [some 0,some 1,some 2,some 3,some 4] (k + 1) (by omega) (by omega) rfl ?_ ?_
   ·(try simp -implicitDefEqProofs only [push_cast,Nat.reduceAdd,Nat.reduceSub,Nat.reduceMul,Nat.reduceLT,Nat.reduceLeDiff,Nat.reduceEqDiff,Nat.reduceBEq,reduceCtorEq,reduceIte,Int.reduceLE,Int.reduceLT,Int.reduceNeg,Int.reduceToNat,hnx,e1,encPls_pure,encPl_pure,encDs_pure,encEs_pure,encIs_pure,encQ,Int.reduceEq,if_false,if_true,or_true,or_false,true_or,false_or,List.map_cons,List.map_nil,List.length_cons,List.length_nil,Int.reduceAdd,List.set_cons_zero,List.set_cons_succ,List.cons_append,List.nil_append])
   ·(try simp -implicitDefEqProofs only [push_cast,Nat.reduceAdd,Nat.reduceSub,Nat.reduceMul,Nat.reduceLT,Nat.reduceLeDiff,Nat.reduceEqDiff,Nat.reduceBEq,reduceCtorEq,reduceIte,Int.reduceLE,Int.reduceLT,Int.reduceNeg,Int.reduceToNat,hnx,e2,hsP,encPls_pure,encPl_pure,encDs_pure,encEs_pure,encIs_pure,encQ,Int.reduceEq,if_false,if_true,or_true,or_false,true_or,false_or,List.map_cons,List.map_nil,List.length_cons,List.length_nil,Int.reduceAdd,List.set_cons_zero,List.set_cons_succ,List.cons_append,List.nil_append])
 have hk':((k:Int) < (ws.length:Int)) = False:=by simp; omega
 obtain rfl:k = ws.length:=by omega
 have hpos:=acc_pos hWp ws ws.length
 have hnx:=hne
 generalize accC W ws ws.length = acc at hpos hnx ⊢
 by_cases hcol:col = -1
 ·rw [if_pos hcol,List.append_nil,acc_st (hnx hcol)]
  have hcf:(col = -1) = True:=by simp [hcol]
  generalize stN acc = sN
  generalize stP acc = sP
  simp -implicitDefEqProofs only [push_cast,Nat.reduceAdd,Nat.reduceSub,Nat.reduceMul,Nat.reduceLT,Nat.reduceLeDiff,Nat.reduceEqDiff,Nat.reduceBEq,reduceCtorEq,reduceIte,Int.reduceLE,Int.reduceLT,Int.reduceNeg,Int.reduceToNat,hk',hcf,encQ,Int.reduceEq,if_false,if_true,or_true,or_false,true_or,false_or,List.map_cons,List.map_nil,List.length_cons,List.length_nil,Int.reduceAdd,List.set_cons_zero,List.set_cons_succ,List.cons_append,List.nil_append]
  refine areg_at 3 (by kernel_rfl) (by kernel_rfl) ?_
  simp -implicitDefEqProofs only [push_cast,Nat.reduceAdd,Nat.reduceSub,Nat.reduceMul,Nat.reduceLT,Nat.reduceLeDiff,Nat.reduceEqDiff,Nat.reduceBEq,reduceCtorEq,reduceIte,Int.reduceLE,Int.reduceLT,Int.reduceNeg,Int.reduceToNat,hcf,encPl_drop,encQ,Int.reduceEq,if_false,if_true,or_true,or_false,true_or,false_or,List.map_cons,List.map_nil,List.length_cons,List.length_nil,Int.reduceAdd,List.set_cons_zero,List.set_cons_succ,List.cons_append,List.nil_append]
 rw [if_neg hcol,acc_st (by simp)]
 have hcf:(col = -1) = False:=by simp [hcol]
 have hpu:=st_push hpos (m, .mk 4 0 col 0 [p])
 generalize stN (acc ++ [(m,Pl.mk 4 0 col 0 [p])]) = sN2 at hpu ⊢
 generalize stP (acc ++ [(m,Pl.mk 4 0 col 0 [p])]) = sP2 at hpu ⊢
 generalize stN acc = sN at hpu ⊢
 generalize stP acc = sP at hpu ⊢
 dsimp only at hpu
 have hB:=hn hcol
 simp -implicitDefEqProofs only [push_cast,Nat.reduceAdd,Nat.reduceSub,Nat.reduceMul,Nat.reduceLT,Nat.reduceLeDiff,Nat.reduceEqDiff,Nat.reduceBEq,reduceCtorEq,reduceIte,Int.reduceLE,Int.reduceLT,Int.reduceNeg,Int.reduceToNat,hk',hcf,encQ,Int.reduceEq,if_false,if_true,or_true,or_false,true_or,false_or,List.map_cons,List.map_nil,List.length_cons,List.length_nil,Int.reduceAdd,List.set_cons_zero,List.set_cons_succ,List.cons_append,List.nil_append]
 refine callq hB ?_
 simp -implicitDefEqProofs only [push_cast,Nat.reduceAdd,Nat.reduceSub,Nat.reduceMul,Nat.reduceLT,Nat.reduceLeDiff,Nat.reduceEqDiff,Nat.reduceBEq,reduceCtorEq,reduceIte,Int.reduceLE,Int.reduceLT,Int.reduceNeg,Int.reduceToNat,hcf,encQ,Int.reduceEq,if_false,if_true,or_true,or_false,true_or,false_or,List.map_cons,List.map_nil,List.length_cons,List.length_nil,Int.reduceAdd,List.set_cons_zero,List.set_cons_succ,List.cons_append,List.nil_append]
 refine callq hSo' ?_
 by_cases hs0:sN < 0
 ·obtain ⟨e1,e2⟩:=hpu.1 (.inl hs0)
  have hd0:decide (sN < 0) = true:=decide_eq_true hs0
  rw [e1,e2]
  simp -implicitDefEqProofs only [push_cast,Nat.reduceAdd,Nat.reduceSub,Nat.reduceMul,Nat.reduceLT,Nat.reduceLeDiff,Nat.reduceEqDiff,Nat.reduceBEq,reduceCtorEq,reduceIte,Int.reduceLE,Int.reduceLT,Int.reduceNeg,Int.reduceToNat,hcf,hd0,Bool.true_or,Bool.or_true,encPl_drop,encQ,Int.reduceEq,if_false,if_true,or_true,or_false,true_or,false_or,List.map_cons,List.map_nil,List.length_cons,List.length_nil,Int.reduceAdd,List.set_cons_zero,List.set_cons_succ,List.cons_append,List.nil_append]
  refine areg_at 3 (by kernel_rfl) (by kernel_rfl) ?_
  simp -implicitDefEqProofs only [push_cast,Nat.reduceAdd,Nat.reduceSub,Nat.reduceMul,Nat.reduceLT,Nat.reduceLeDiff,Nat.reduceEqDiff,Nat.reduceBEq,reduceCtorEq,reduceIte,Int.reduceLE,Int.reduceLT,Int.reduceNeg,Int.reduceToNat,hcf,encPl_drop,encQ,Int.reduceEq,if_false,if_true,or_true,or_false,true_or,false_or,List.map_cons,List.map_nil,List.length_cons,List.length_nil,Int.reduceAdd,List.set_cons_zero,List.set_cons_succ,List.cons_append,List.nil_append]
 have hd0:decide (sN < 0) = false:=decide_eq_false hs0
 by_cases hs1:m < sN
 ·obtain ⟨e1,e2⟩:=hpu.1 (.inr hs1)
  have hd1:decide (m < sN) = true:=decide_eq_true hs1
  rw [e1,e2]
  simp -implicitDefEqProofs only [push_cast,Nat.reduceAdd,Nat.reduceSub,Nat.reduceMul,Nat.reduceLT,Nat.reduceLeDiff,Nat.reduceEqDiff,Nat.reduceBEq,reduceCtorEq,reduceIte,Int.reduceLE,Int.reduceLT,Int.reduceNeg,Int.reduceToNat,hcf,hd0,hd1,Bool.true_or,Bool.or_true,Bool.false_or,encPl_drop,encQ,Int.reduceEq,if_false,if_true,or_true,or_false,true_or,false_or,List.map_cons,List.map_nil,List.length_cons,List.length_nil,Int.reduceAdd,List.set_cons_zero,List.set_cons_succ,List.cons_append,List.nil_append]
  refine areg_at 3 (by kernel_rfl) (by kernel_rfl) ?_
  simp -implicitDefEqProofs only [push_cast,Nat.reduceAdd,Nat.reduceSub,Nat.reduceMul,Nat.reduceLT,Nat.reduceLeDiff,Nat.reduceEqDiff,Nat.reduceBEq,reduceCtorEq,reduceIte,Int.reduceLE,Int.reduceLT,Int.reduceNeg,Int.reduceToNat,hcf,encPl_drop,encQ,Int.reduceEq,if_false,if_true,or_true,or_false,true_or,false_or,List.map_cons,List.map_nil,List.length_cons,List.length_nil,Int.reduceAdd,List.set_cons_zero,List.set_cons_succ,List.cons_append,List.nil_append]
 obtain ⟨e1,e2⟩:=hpu.2 (fun h=>h.elim hs0 hs1)
 have hd1:decide (m < sN) = false:=decide_eq_false hs1
 rw [e1,e2]
 simp -implicitDefEqProofs only [push_cast,Nat.reduceAdd,Nat.reduceSub,Nat.reduceMul,Nat.reduceLT,Nat.reduceLeDiff,Nat.reduceEqDiff,Nat.reduceBEq,reduceCtorEq,reduceIte,Int.reduceLE,Int.reduceLT,Int.reduceNeg,Int.reduceToNat,hcf,hd0,hd1,Bool.false_or,Bool.or_false,encPl_drop,encQ,Int.reduceEq,if_false,if_true,or_true,or_false,true_or,false_or,List.map_cons,List.map_nil,List.length_cons,List.length_nil,Int.reduceAdd,List.set_cons_zero,List.set_cons_succ,List.cons_append,List.nil_append]
 refine areg_at 3 (by kernel_rfl) (by kernel_rfl) ?_
 simp -implicitDefEqProofs only [push_cast,Nat.reduceAdd,Nat.reduceSub,Nat.reduceMul,Nat.reduceLT,Nat.reduceLeDiff,Nat.reduceEqDiff,Nat.reduceBEq,reduceCtorEq,reduceIte,Int.reduceLE,Int.reduceLT,Int.reduceNeg,Int.reduceToNat,hcf,encPl_drop,encQ,Int.reduceEq,if_false,if_true,or_true,or_false,true_or,false_or,List.map_cons,List.map_nil,List.length_cons,List.length_nil,Int.reduceAdd,List.set_cons_zero,List.set_cons_succ,List.cons_append,List.nil_append]
end
section
theorem refBestD_ok (c:List Df) (hcl:c.length ≤ 1000000) (q:Qy) (hq:q.Ok) (hqi:q.In) (hp8:q.p.length ≤ 8):∀ (d:Nat) (t:Tr) (col:Int),t.Ok → (setT d t).2 = true → BestRAt c q d t col:=by
 intro d
 induction d with
 | zero=>intro t col _ h; simp [setT] at h
 | succ d ih =>
 have none:∀ t:Tr,t.Ok → (setT (d + 1) t).2 = true → BestRAt c q (d + 1) t (-1):=by
  intro t hok hs
  rcases Bool.eq_false_or_eq_true (validT c q t (-1)) with hv | hv
  ·rcases tr_form hs with ⟨o,rfl⟩ | ⟨a,b,rfl⟩
   ·exact refLeaf_ok c hcl q hq hqi d o hv
   ·obtain ⟨_,hlo⟩:=hok
    obtain ⟨sx,sy,_⟩:=setT_join hs
    exact refJoin_ok c hcl q hq hqi hp8 d a b (hlo a (by simp)) (hlo b (by simp)) (-1) hv (fun x=>ih a x (hlo a (by simp)) sx) (fun x=>ih b x (hlo b (by simp)) sy) (fun h=>absurd rfl h)
  ·exact refBestBad_ok c hcl q hq hqi (d + 1) t hok (-1) hv
 intro t col hok hs
 by_cases hc:col = -1
 ·rw [hc]; exact none t hok hs
 rcases Bool.eq_false_or_eq_true (validT c q t col) with hv | hv
 ·have hN:=none t hok hs
  rcases tr_form hs with ⟨o,rfl⟩ | ⟨a,b,rfl⟩
  ·exact refLeafS_ok c hcl q hq hqi d o col hc hv
  ·obtain ⟨_,hlo⟩:=hok
   obtain ⟨sx,sy,_⟩:=setT_join hs
   exact refJoin_ok c hcl q hq hqi hp8 d a b (hlo a (by simp)) (hlo b (by simp)) col hv (fun x=>ih a x (hlo a (by simp)) sx) (fun x=>ih b x (hlo b (by simp)) sy) (fun _=>hN)
 ·exact refBestBad_ok c hcl q hq hqi (d + 1) t hok col hv
theorem BestR_ok (c:List Df) (hcl:c.length ≤ 1000000) (q:Qy) (hq:q.Ok) (hqi:q.In) (hp8:q.p.length ≤ 8) (t:Tr) (hok:t.Ok) (col:Int):Quiet Go.Proofs.Tryz.prog 45 [.agg [.sl (c.map encD)], .agg (encQ q), .agg (encT t), .int col] (.tup [.int (bestR c q t col).1, .agg (encPl (bestR c q t col).2.1), .bool (bestR c q t col).2.2]):=by
 have h:BestRAt c q 4 t col:=by
  rcases Bool.eq_false_or_eq_true (validT c q t col) with hv | hv
  ·exact refBestD_ok c hcl q hq hqi hp8 4 t col hok (valid_split hv).2.1
  ·exact refBestBad_ok c hcl q hq hqi 4 t hok col hv
 exact h
end
section
attribute [local push_cast] encPl_mk encPl_take encPl_len encPl_one encPls_pure encPl_pure encT_pure encT_len encT_one encT_take
theorem samePl_refl (p:Pl):samePl p p = true:=by
 induction p using Pl.ind with
 | h op occ a b l ih =>
 rw [samePl]
 simp only [decide_true,Bool.true_and]
 exact sameLP_all rfl fun i h h'=>ih _ (List.getElem_mem h)
theorem bestR_plOk {c:List Df} {q:Qy} {t:Tr} {col:Int}:(bestR c q t col).2.1.Ok:=by
 unfold bestR
 split
 ·rename_i h
  exact few_ok' _ (mayP_iff.1 (valid_good h).1).2.1
 ·exact plOk0'
theorem ways_plOk {q:Qy} {a b col:Int} {w:Pl} (h:w ∈ waysP q a b col):w.Ok:=by
 rcases ways_mem h with rfl | ⟨op,p,rfl,_⟩
 ·exact plOk0'
 ·exact plOk0'
set_option maxHeartbeats 4000000 in
theorem refSame13_ok (l:List Pl) (hl:l.length ≤ 1000000) (ho:∀ x ∈ l,x.Ok):Quiet Go.Proofs.Tryz.prog 46 [.sl (l.map encPl), .sl (l.map encPl)] (.bool true):=by
 refine quiet_of (rs:=#[.tmp 4]) Go.Proofs.Tryz.func46 rfl rfl rfl mixed rfl rfl fun H hs=>?_
 simp -implicitDefEqProofs only [push_cast,Nat.reduceAdd,Nat.reduceSub,Nat.reduceMul,Nat.reduceLT,Nat.reduceLeDiff,Nat.reduceEqDiff,Nat.reduceBEq,reduceCtorEq,reduceIte,Int.reduceLE,Int.reduceLT,Int.reduceNeg,Int.reduceToNat,List.length_map]
 refine loop_at hs (σ:=Nat) (fun i=>i ≤ l.length) (fun i=>l.length - i) (fun i=>[(5, .int i),(0, .sl (l.map encPl)),(1, .sl (l.map encPl))]) (fun _=>[]) [] 0 (by omega) rfl ?_ ?_ ?_
 ·(try simp -implicitDefEqProofs only [push_cast,Nat.reduceAdd,Nat.reduceSub,Nat.reduceMul,Nat.reduceLT,Nat.reduceLeDiff,Nat.reduceEqDiff,Nat.reduceBEq,reduceCtorEq,reduceIte,Int.reduceLE,Int.reduceLT,Int.reduceNeg,Int.reduceToNat,encPls_pure])
 ·(try simp -implicitDefEqProofs only [push_cast,Nat.reduceAdd,Nat.reduceSub,Nat.reduceMul,Nat.reduceLT,Nat.reduceLeDiff,Nat.reduceEqDiff,Nat.reduceBEq,reduceCtorEq,reduceIte,Int.reduceLE,Int.reduceLT,Int.reduceNeg,Int.reduceToNat])
 intro i hi2
 by_cases hi:i < l.length
 ·have hi':((i:Int) < (l.length:Int)) = True:=by simp; omega
  have hi0:(0 ≤ (i:Int)) = True:=by simp
  have hget:=encPls_get l i hi
  have hx:=ho l[i] (List.getElem_mem hi)
  have hS:=plan_sameR_ok l[i] l[i] hx hx
  rw [samePl_refl] at hS
  simp -implicitDefEqProofs only [push_cast,Nat.reduceAdd,Nat.reduceSub,Nat.reduceMul,Nat.reduceLT,Nat.reduceLeDiff,Nat.reduceEqDiff,Nat.reduceBEq,reduceCtorEq,reduceIte,Int.reduceLE,Int.reduceLT,Int.reduceNeg,Int.reduceToNat,hi',hi0,hget,List.length_map]
  refine areg_at 9 (by kernel_rfl) (by kernel_rfl) ?_
  simp -implicitDefEqProofs only [push_cast,Nat.reduceAdd,Nat.reduceSub,Nat.reduceMul,Nat.reduceLT,Nat.reduceLeDiff,Nat.reduceEqDiff,Nat.reduceBEq,reduceCtorEq,reduceIte,Int.reduceLE,Int.reduceLT,Int.reduceNeg,Int.reduceToNat,hi',hi0,hget,List.length_map]
  refine ahdq hS ?_
  simp -implicitDefEqProofs only [push_cast,Nat.reduceAdd,Nat.reduceSub,Nat.reduceMul,Nat.reduceLT,Nat.reduceLeDiff,Nat.reduceEqDiff,Nat.reduceBEq,reduceCtorEq,reduceIte,Int.reduceLE,Int.reduceLT,Int.reduceNeg,Int.reduceToNat,hi',hi0,hget,List.length_map]
  rw [wrap64 (n:=(i:Int) + 1) (by omega) (by omega)]
  refine next_at [] (i + 1) (by omega) (by omega) rfl ?_ ?_
  ·(try simp -implicitDefEqProofs only [push_cast,Nat.reduceAdd,Nat.reduceSub,Nat.reduceMul,Nat.reduceLT,Nat.reduceLeDiff,Nat.reduceEqDiff,Nat.reduceBEq,reduceCtorEq,reduceIte,Int.reduceLE,Int.reduceLT,Int.reduceNeg,Int.reduceToNat,encPls_pure])
  ·(try simp -implicitDefEqProofs only [push_cast,Nat.reduceAdd,Nat.reduceSub,Nat.reduceMul,Nat.reduceLT,Nat.reduceLeDiff,Nat.reduceEqDiff,Nat.reduceBEq,reduceCtorEq,reduceIte,Int.reduceLE,Int.reduceLT,Int.reduceNeg,Int.reduceToNat])
 have hi':((i:Int) < (l.length:Int)) = False:=by simp; omega
 simp -implicitDefEqProofs only [push_cast,Nat.reduceAdd,Nat.reduceSub,Nat.reduceMul,Nat.reduceLT,Nat.reduceLeDiff,Nat.reduceEqDiff,Nat.reduceBEq,reduceCtorEq,reduceIte,Int.reduceLE,Int.reduceLT,Int.reduceNeg,Int.reduceToNat,hi']
set_option maxHeartbeats 8000000 in
theorem implTells_ok (c:List Df) (q:Qy) (t:Tr) (col a b:Int) (hr:q.Raw c) (hqi:q.In) (ht:t.Ok):Quiet Go.Proofs.Tryz.prog 10 [.agg [.sl (c.map encD)], .agg (encQ q), .agg (encT t), .int col, .int a, .int b] (.bool true):=by
 have hfar:=Far_ok c q hr
 have hzt:=sizeT_ok t 100 (by omega) (by omega) ht
 generalize szT t 100 = zt at hzt
 refine quiet_of (rs:=#[.tmp 12]) Go.Proofs.Tryz.func10 rfl rfl rfl mixed rfl rfl fun H hs=>?_
 simp -implicitDefEqProofs only [push_cast,Nat.reduceAdd,Nat.reduceSub,Nat.reduceMul,Nat.reduceLT,Nat.reduceLeDiff,Nat.reduceEqDiff,Nat.reduceBEq,reduceCtorEq,reduceIte,Int.reduceLE,Int.reduceLT,Int.reduceNeg,Int.reduceToNat,encQ]
 refine callq awake13_ok ?_
 simp -implicitDefEqProofs only [push_cast,Nat.reduceAdd,Nat.reduceSub,Nat.reduceMul,Nat.reduceLT,Nat.reduceLeDiff,Nat.reduceEqDiff,Nat.reduceBEq,reduceCtorEq,reduceIte,Int.reduceLE,Int.reduceLT,Int.reduceNeg,Int.reduceToNat,encQ]
 refine gcall trivial (callq hfar ?_)
 cases hf:fewQ c q
 ·simp -implicitDefEqProofs only [push_cast,Nat.reduceAdd,Nat.reduceSub,Nat.reduceMul,Nat.reduceLT,Nat.reduceLeDiff,Nat.reduceEqDiff,Nat.reduceBEq,reduceCtorEq,reduceIte,Int.reduceLE,Int.reduceLT,Int.reduceNeg,Int.reduceToNat,encQ,Bool.false_eq_true,if_false,Int.reduceEq]
  refine gcallq' (.int 0) (fun h=>by cases h) (fun h=>by cases h) ?_
  simp -implicitDefEqProofs only [push_cast,Nat.reduceAdd,Nat.reduceSub,Nat.reduceMul,Nat.reduceLT,Nat.reduceLeDiff,Nat.reduceEqDiff,Nat.reduceBEq,reduceCtorEq,reduceIte,Int.reduceLE,Int.reduceLT,Int.reduceNeg,Int.reduceToNat,encQ]
 have hcl:c.length ≤ 1000000:=by have:=(fewQ_split hf).1; omega
 have hq:=ok_of_few hr hf
 have hp8:=(fewQ_split hf).2.2.1
 simp -implicitDefEqProofs only [push_cast,Nat.reduceAdd,Nat.reduceSub,Nat.reduceMul,Nat.reduceLT,Nat.reduceLeDiff,Nat.reduceEqDiff,Nat.reduceBEq,reduceCtorEq,reduceIte,Int.reduceLE,Int.reduceLT,Int.reduceNeg,Int.reduceToNat,encQ,if_true,Int.reduceEq]
 refine gcallq' (.int zt) (fun _=>by simp) (fun _=>hzt) ?_
 by_cases hzt1:100 < zt
 ·have hd:decide (100 < zt) = true:=decide_eq_true hzt1
  simp -implicitDefEqProofs only [push_cast,Nat.reduceAdd,Nat.reduceSub,Nat.reduceMul,Nat.reduceLT,Nat.reduceLeDiff,Nat.reduceEqDiff,Nat.reduceBEq,reduceCtorEq,reduceIte,Int.reduceLE,Int.reduceLT,Int.reduceNeg,Int.reduceToNat,encQ,hd]
 have hd:decide (100 < zt) = false:=decide_eq_false hzt1
 simp -implicitDefEqProofs only [push_cast,Nat.reduceAdd,Nat.reduceSub,Nat.reduceMul,Nat.reduceLT,Nat.reduceLeDiff,Nat.reduceEqDiff,Nat.reduceBEq,reduceCtorEq,reduceIte,Int.reduceLE,Int.reduceLT,Int.reduceNeg,Int.reduceToNat,encQ,hd]
 have hB1:=Best_ok c hcl q hq hp8 t ht col
 have hB2:=BestR_ok c hcl q hq hqi hp8 t ht col
 have hpo:=bestR_plOk (c:=c) (q:=q) (t:=t) (col:=col)
 generalize bestR c q t col = x at hB1 hB2 hpo
 obtain ⟨n,p,e⟩:=x
 dsimp only at hB1 hB2 hpo
 have hSm:=plan_sameR_ok p p hpo hpo
 rw [samePl_refl] at hSm
 have hW1:=Ways_ok q hq a b col
 have hW2:=WaysR_ok q hq a b col
 have hwl:(waysP q a b col).length ≤ 100:=by
  have h1:=ways_len q hq a b col
  have h2:=pairs_len q a b
  have h3:(q.new a b).length ≤ q.p.length:=idxF_lt _ _
  omega
 have hWs:=refSame13_ok (waysP q a b col) (by omega) (fun w hw=>ways_plOk hw)
 generalize waysP q a b col = ws at hW1 hW2 hWs
 have hS1:=Sorted_ok c hcl q hq a b
 have hS2:=SortedR_ok c hcl q hq hqi a b
 generalize sortedC c q a b = sc at hS1 hS2
 refine callq hB1 ?_
 simp -implicitDefEqProofs only [push_cast,Nat.reduceAdd,Nat.reduceSub,Nat.reduceMul,Nat.reduceLT,Nat.reduceLeDiff,Nat.reduceEqDiff,Nat.reduceBEq,reduceCtorEq,reduceIte,Int.reduceLE,Int.reduceLT,Int.reduceNeg,Int.reduceToNat,encQ]
 refine callq hB2 ?_
 simp -implicitDefEqProofs only [push_cast,Nat.reduceAdd,Nat.reduceSub,Nat.reduceMul,Nat.reduceLT,Nat.reduceLeDiff,Nat.reduceEqDiff,Nat.reduceBEq,reduceCtorEq,reduceIte,Int.reduceLE,Int.reduceLT,Int.reduceNeg,Int.reduceToNat,encQ]
 refine callq hSm ?_
 simp -implicitDefEqProofs only [push_cast,Nat.reduceAdd,Nat.reduceSub,Nat.reduceMul,Nat.reduceLT,Nat.reduceLeDiff,Nat.reduceEqDiff,Nat.reduceBEq,reduceCtorEq,reduceIte,Int.reduceLE,Int.reduceLT,Int.reduceNeg,Int.reduceToNat,encQ]
 refine areg_at 11 (by kernel_rfl) (by kernel_rfl) ?_
 simp -implicitDefEqProofs only [push_cast,Nat.reduceAdd,Nat.reduceSub,Nat.reduceMul,Nat.reduceLT,Nat.reduceLeDiff,Nat.reduceEqDiff,Nat.reduceBEq,reduceCtorEq,reduceIte,Int.reduceLE,Int.reduceLT,Int.reduceNeg,Int.reduceToNat,encQ]
 refine ahdq hW1 ?_
 simp -implicitDefEqProofs only [push_cast,Nat.reduceAdd,Nat.reduceSub,Nat.reduceMul,Nat.reduceLT,Nat.reduceLeDiff,Nat.reduceEqDiff,Nat.reduceBEq,reduceCtorEq,reduceIte,Int.reduceLE,Int.reduceLT,Int.reduceNeg,Int.reduceToNat,encQ]
 refine ahdq hW2 ?_
 simp -implicitDefEqProofs only [push_cast,Nat.reduceAdd,Nat.reduceSub,Nat.reduceMul,Nat.reduceLT,Nat.reduceLeDiff,Nat.reduceEqDiff,Nat.reduceBEq,reduceCtorEq,reduceIte,Int.reduceLE,Int.reduceLT,Int.reduceNeg,Int.reduceToNat,encQ]
 refine ahdq hWs ?_
 simp -implicitDefEqProofs only [push_cast,Nat.reduceAdd,Nat.reduceSub,Nat.reduceMul,Nat.reduceLT,Nat.reduceLeDiff,Nat.reduceEqDiff,Nat.reduceBEq,reduceCtorEq,reduceIte,Int.reduceLE,Int.reduceLT,Int.reduceNeg,Int.reduceToNat,encQ]
 refine areg_at 27 (by kernel_rfl) (by kernel_rfl) ?_
 simp -implicitDefEqProofs only [push_cast,Nat.reduceAdd,Nat.reduceSub,Nat.reduceMul,Nat.reduceLT,Nat.reduceLeDiff,Nat.reduceEqDiff,Nat.reduceBEq,reduceCtorEq,reduceIte,Int.reduceLE,Int.reduceLT,Int.reduceNeg,Int.reduceToNat,encQ]
 refine gcallq (.int sc) (fun _=>hS1) ?_
 simp -implicitDefEqProofs only [push_cast,Nat.reduceAdd,Nat.reduceSub,Nat.reduceMul,Nat.reduceLT,Nat.reduceLeDiff,Nat.reduceEqDiff,Nat.reduceBEq,reduceCtorEq,reduceIte,Int.reduceLE,Int.reduceLT,Int.reduceNeg,Int.reduceToNat,encQ]
 refine gcallq (.int sc) (fun _=>hS2) ?_
 simp -implicitDefEqProofs only [push_cast,Nat.reduceAdd,Nat.reduceSub,Nat.reduceMul,Nat.reduceLT,Nat.reduceLeDiff,Nat.reduceEqDiff,Nat.reduceBEq,reduceCtorEq,reduceIte,Int.reduceLE,Int.reduceLT,Int.reduceNeg,Int.reduceToNat,encQ]
theorem implTells_law (us:List AV) (h:ToldAll Go.Proofs.Tryz.prog Go.Proofs.Tryz.f10.params.toList us):Quiet Go.Proofs.Tryz.prog 10 us (.bool true):=by
 have e1:Go.Proofs.Tryz.f10.params.toList = [24,28,39,3,3,3]:=by kernel_rfl
 rw [e1] at h
 obtain ⟨c,q,us,rfl,_,hr,hin,h⟩:=told_CQ h
 obtain ⟨t,us,rfl,ht,h⟩:=told_T h
 obtain ⟨col,us,rfl,_,h⟩:=told_I h
 obtain ⟨a,us,rfl,_,h⟩:=told_I h
 obtain ⟨b,us,rfl,_,h⟩:=told_I h
 obtain rfl:=told_nil h
 exact implTells_ok c q t col a b hr hin.1 ht
end
end Go.Sim.Tryz
