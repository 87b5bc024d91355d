/- What the row rests on, part 6. Conditions: none. -/
import Derived.Test.YtpkmmoibbadioaaGreatM5
set_option linter.unusedSimpArgs false
set_option linter.unusedVariables false
set_option maxRecDepth 100000
namespace Go.Sim.Tryz
open Go Go.Sim
attribute [local push_cast] aops_cons aops_nil aopG_none aopG_some aopP_eq aopE_eq aopC_eq aopE?_eq aopC?_eq aopB_eq aopB?_eq abr anilq gopP_eq gopL_eq ahead_cons ahead_nil ahdG_none ahdG_some ahdP_eq ahdN_eq ahdC_eq ahdN?_eq ahdS_eq ahdS?_eq astoreN ahdC?_eq ghdP_eq ghdC_eq ghdC?_eq ghdZ_f ghdZ_t ahdI_eq ahdI?_eq ghdN?_eq aim_nil aim_cons isIn_nil isIn_none isIn_cons aimm aheP_eq aheA_eq aheC_eq aheC?_eq aheI?_eq aheA?_eq gheP_eq gheC_eq gheC?_eq gheZ_eq aheG_none aheG_some aheff_cons aheff_nil aapp gro_rsl gro_lit gro_esl opt_some opt_none no_eq acondT_true acondT_false acondT_lit aw_skip aw_region aw_regionD aw_seq aw_cond aw_block aw_loop aw_exit aw_label aw_ret thn_normal thn_exit thn_ret inb_normal inb_exit inb_ret qret_ret qret_normal gcond apure aeff anew acallee ares aresT aresL aresC ares1 qfin_eq ev ofV evL gokL tget tput_some tput_none initT abin aint aun aload afaddr aiaddr afield aindex aextract apick pickv_lit Bool.or_false Bool.false_or Bool.or_true Bool.true_or imp_self aslice chunk roomB abound aconv abuild afill splice alen aminmax abuiltin anil apart Value.oneCell' astore aappend srcEs abuildSlice amakeSlice amapPut alookup aput afind mget keyV sameV_int Option.isSome_some Option.isSome_none cond_true cond_false asets isEq plus_obj plus_nxt plus_add plus_set plus_del IntKind.bits Option.map_some Option.map_none Option.bind_some Option.bind_none Option.join_some Option.getD_some Option.getD_none Option.toList List.getElem?_toArray List.getElem?_cons_zero List.getElem?_cons_succ List.getElem?_nil List.length_cons List.length_nil List.length_map List.head?_cons List.cons_append List.nil_append List.append_nil List.map_cons List.map_nil List.getD_cons_zero List.getD_cons_succ List.replicate_succ List.replicate_zero List.set_cons_zero List.set_cons_succ List.take_succ_cons List.take_zero List.drop_succ_cons List.drop_zero List.all_cons List.all_nil Nat.zero_add if_true if_false true_and and_true false_and and_false true_implies implies_true forall_const Bool.and_true Bool.true_and Bool.false_and Bool.and_false Bool.true_beq Bool.false_beq Bool.not_not beq_tt beq_ff Int.toNat_natCast decide_true decide_false Bool.not_true Bool.not_false Bool.true_eq_false Bool.false_eq_true false_implies exists_prop eq_self bne_self_eq_false beq_self_eq_true decide_eq_true_eq decide_eq_false_iff_not Bool.not_eq_true' Bool.not_eq_false' AV.int AV.bool AV.nilS ne_eq not_false_eq_true not_true_eq_false exists_eq_left exists_eq_left' Nat.lt_irrefl core_lit grd_lit acells_lit one_lit core_agg grd_agg acells_agg one_agg core_tup grd_tup acells_tup one_tup core_sl grd_sl acells_sl one_sl core_esl grd_esl acells_esl one_esl core_rsl grd_rsl acells_rsl one_rsl core_ptr grd_ptr acells_ptr one_ptr core_iptr grd_iptr acells_iptr one_iptr core_clo grd_clo acells_clo one_clo core_mp grd_mp acells_mp one_mp core_any grd_any acells_any one_any core_gv grd_gv fit_agg fit_lit fit_sl fit_esl fit_rsl fit_ptr fit_iptr fit_clo fit_mp retq_ret retq_normal set_nxt set_set plus_obj_set plus_set_set app_get0 app_get app_set0 app_set List.append_assoc List.length_append List.length_set Nat.lt_add_one Nat.add_lt_add_iff_right Nat.lt_add_right_iff_pos Nat.add_lt_add_iff_left List.mem_cons List.not_mem_nil or_false forall_eq forall_eq_or_imp lt_s0 lt_s1 lt_s2 lt_s3 lt_s4 lt_s5 lt_s6 lt_s7 lt_s8 pickv_t pickv_f or_nand or_nand2 imp_and_l SealT SealOs sealO_cells sl_lit sl_any sl_agg sl_tup sl_sl sl_rsl slO sl_esl sl_nil sl_eslesl sl_eslnil sl_rslrsl sl_eslrsl sl_nilrsl sl_ptr sl_iptr sl_ptri slP sl_clo sl_mp sl_gv sll_nil sll_cons slll_nil slll_cons shut_eq shutO Option.join_none Fn.func.injEq and_self sealL_self sealLL_self seal_self PureL PureLL Pure Nat.le_refl Nat.zero_le AV.lit.injEq Value.int.injEq Value.bool.injEq false_or or_true true_or Int.natCast_zero Int.ofNat_zero Int.cast_ofNat_Int Int.natCast_add Int.natCast_one Option.some.injEq piL_is sop_nil sop_cons sop_none sop_some sopO_some sop_new shut_pi shutL_nil shutL_cons exQ_exit exQ_ret exQ_normal Go.Sim.Tryz.ty_load1 Go.Sim.Tryz.ty_zero1 Go.Sim.Tryz.ty_load2 Go.Sim.Tryz.ty_zero2 Go.Sim.Tryz.ty_und2 Go.Sim.Tryz.ty_load3 Go.Sim.Tryz.ty_zero3 Go.Sim.Tryz.ty_und3 Go.Sim.Tryz.ty_load4 Go.Sim.Tryz.ty_zero4 Go.Sim.Tryz.ty_und4 Go.Sim.Tryz.ty_load5 Go.Sim.Tryz.ty_zero5 Go.Sim.Tryz.ty_und5 Go.Sim.Tryz.ty_load9 Go.Sim.Tryz.ty_zero9 Go.Sim.Tryz.ty_und9 Go.Sim.Tryz.ty_load22 Go.Sim.Tryz.ty_zero22 Go.Sim.Tryz.ty_el22 Go.Sim.Tryz.ty_zeroE22 Go.Sim.Tryz.ty_load24 Go.Sim.Tryz.ty_zero24 Go.Sim.Tryz.ty_fld24_0 Go.Sim.Tryz.ty_part24_0 Go.Sim.Tryz.ty_struct24 Go.Sim.Tryz.ty_load25 Go.Sim.Tryz.ty_zero25 Go.Sim.Tryz.ty_el25 Go.Sim.Tryz.ty_zeroE25 Go.Sim.Tryz.ty_load26 Go.Sim.Tryz.ty_zero26 Go.Sim.Tryz.ty_el26 Go.Sim.Tryz.ty_zeroE26 Go.Sim.Tryz.ty_load28 Go.Sim.Tryz.ty_zero28 Go.Sim.Tryz.ty_fld28_0 Go.Sim.Tryz.ty_part28_0 Go.Sim.Tryz.ty_fld28_1 Go.Sim.Tryz.ty_part28_1 Go.Sim.Tryz.ty_fld28_2 Go.Sim.Tryz.ty_part28_2 Go.Sim.Tryz.ty_fld28_3 Go.Sim.Tryz.ty_part28_3 Go.Sim.Tryz.ty_fld28_4 Go.Sim.Tryz.ty_part28_4 Go.Sim.Tryz.ty_fld28_5 Go.Sim.Tryz.ty_part28_5 Go.Sim.Tryz.ty_struct28 Go.Sim.Tryz.ty_load29 Go.Sim.Tryz.ty_zero29 Go.Sim.Tryz.ty_arr29 Go.Sim.Tryz.ty_part29_0 Go.Sim.Tryz.ty_part29_1 Go.Sim.Tryz.ty_struct29 Go.Sim.Tryz.ty_load30 Go.Sim.Tryz.ty_zero30 Go.Sim.Tryz.ty_el30 Go.Sim.Tryz.ty_zeroE30 Go.Sim.Tryz.ty_load32 Go.Sim.Tryz.ty_zero32 Go.Sim.Tryz.ty_fld32_0 Go.Sim.Tryz.ty_part32_0 Go.Sim.Tryz.ty_fld32_1 Go.Sim.Tryz.ty_part32_1 Go.Sim.Tryz.ty_fld32_2 Go.Sim.Tryz.ty_part32_2 Go.Sim.Tryz.ty_fld32_3 Go.Sim.Tryz.ty_part32_3 Go.Sim.Tryz.ty_struct32 Go.Sim.Tryz.ty_load34 Go.Sim.Tryz.ty_zero34 Go.Sim.Tryz.ty_fld34_0 Go.Sim.Tryz.ty_part34_0 Go.Sim.Tryz.ty_fld34_1 Go.Sim.Tryz.ty_part34_1 Go.Sim.Tryz.ty_fld34_2 Go.Sim.Tryz.ty_part34_2 Go.Sim.Tryz.ty_struct34 Go.Sim.Tryz.ty_load41 Go.Sim.Tryz.ty_zero41 Go.Sim.Tryz.ty_el41 Go.Sim.Tryz.ty_zeroE41 Go.Sim.Tryz.ty_load47 Go.Sim.Tryz.ty_zero47 Go.Sim.Tryz.ty_el47 Go.Sim.Tryz.ty_zeroE47 Go.Sim.Tryz.ty_load52 Go.Sim.Tryz.ty_zero52 Go.Sim.Tryz.ty_fld52_0 Go.Sim.Tryz.ty_part52_0 Go.Sim.Tryz.ty_fld52_1 Go.Sim.Tryz.ty_part52_1 Go.Sim.Tryz.ty_struct52 Go.Sim.Tryz.ty_load58 Go.Sim.Tryz.ty_zero58 Go.Sim.Tryz.ty_fld58_0 Go.Sim.Tryz.ty_part58_0 Go.Sim.Tryz.ty_fld58_1 Go.Sim.Tryz.ty_part58_1 Go.Sim.Tryz.ty_struct58 Go.Sim.Tryz.ty_load60 Go.Sim.Tryz.ty_zero60 Go.Sim.Tryz.ty_fld60_0 Go.Sim.Tryz.ty_part60_0 Go.Sim.Tryz.ty_fld60_1 Go.Sim.Tryz.ty_part60_1 Go.Sim.Tryz.ty_struct60 Go.Sim.Tryz.ty_load62 Go.Sim.Tryz.ty_zero62 Go.Sim.Tryz.ty_fld62_0 Go.Sim.Tryz.ty_part62_0 Go.Sim.Tryz.ty_fld62_1 Go.Sim.Tryz.ty_part62_1 Go.Sim.Tryz.ty_fld62_2 Go.Sim.Tryz.ty_part62_2 Go.Sim.Tryz.ty_fld62_3 Go.Sim.Tryz.ty_part62_3 Go.Sim.Tryz.ty_struct62 Go.Sim.Tryz.ty_load73 Go.Sim.Tryz.ty_zero73 Go.Sim.Tryz.ty_el73 Go.Sim.Tryz.ty_zeroE73 Go.Sim.Tryz.ty_load75 Go.Sim.Tryz.ty_zero75 Go.Sim.Tryz.ty_fld75_0 Go.Sim.Tryz.ty_part75_0 Go.Sim.Tryz.ty_struct75 Go.Sim.Tryz.ty_load79 Go.Sim.Tryz.ty_zero79 Go.Sim.Tryz.ty_load80 Go.Sim.Tryz.ty_zero80 Go.Sim.Tryz.ty_el80 Go.Sim.Tryz.ty_zeroE80 Go.Sim.Tryz.ty_load82 Go.Sim.Tryz.ty_zero82 Go.Sim.Tryz.ty_fld82_0 Go.Sim.Tryz.ty_part82_0 Go.Sim.Tryz.ty_fld82_1 Go.Sim.Tryz.ty_part82_1 Go.Sim.Tryz.ty_fld82_2 Go.Sim.Tryz.ty_part82_2 Go.Sim.Tryz.ty_struct82 Go.Sim.Tryz.ty_load87 Go.Sim.Tryz.ty_zero87 Go.Sim.Tryz.ty_fld87_0 Go.Sim.Tryz.ty_part87_0 Go.Sim.Tryz.ty_fld87_1 Go.Sim.Tryz.ty_part87_1 Go.Sim.Tryz.ty_struct87 Go.Sim.Tryz.ty_load90 Go.Sim.Tryz.ty_zero90 Go.Sim.Tryz.ty_arr90 Go.Sim.Tryz.ty_part90_0 Go.Sim.Tryz.ty_part90_1 Go.Sim.Tryz.ty_struct90 Go.Sim.Tryz.ty_load92 Go.Sim.Tryz.ty_zero92 Go.Sim.Tryz.ty_load103 Go.Sim.Tryz.ty_zero103 Go.Sim.Tryz.ty_fld103_0 Go.Sim.Tryz.ty_part103_0 Go.Sim.Tryz.ty_fld103_1 Go.Sim.Tryz.ty_part103_1 Go.Sim.Tryz.ty_struct103 Go.Sim.Tryz.ty_load107 Go.Sim.Tryz.ty_zero107 Go.Sim.Tryz.ty_und107 Go.Sim.Tryz.ty_load110 Go.Sim.Tryz.ty_zero110 Go.Sim.Tryz.ty_und110 Go.Sim.Tryz.ty_load116 Go.Sim.Tryz.ty_zero116 Go.Sim.Tryz.ty_fld116_0 Go.Sim.Tryz.ty_part116_0 Go.Sim.Tryz.ty_struct116 Go.Sim.Tryz.ty_load117 Go.Sim.Tryz.ty_zero117 Go.Sim.Tryz.ty_load118 Go.Sim.Tryz.ty_zero118 Go.Sim.Tryz.ty_el118 Go.Sim.Tryz.ty_zeroE118 Go.Sim.Tryz.ty_load119 Go.Sim.Tryz.ty_zero119 Go.Sim.Tryz.ty_el119 Go.Sim.Tryz.ty_zeroE119 Go.Sim.Tryz.ty_load120 Go.Sim.Tryz.ty_zero120 Go.Sim.Tryz.ty_load131 Go.Sim.Tryz.ty_zero131 Go.Sim.Tryz.ty_load137 Go.Sim.Tryz.ty_zero137 Go.Sim.Tryz.ty_el137 Go.Sim.Tryz.ty_zeroE137 Go.Sim.Tryz.ty_load144 Go.Sim.Tryz.ty_zero144 Go.Sim.Tryz.ty_load147 Go.Sim.Tryz.ty_zero147 Go.Sim.Tryz.ty_und147 Go.Sim.Tryz.ty_load151 Go.Sim.Tryz.ty_zero151 Go.Sim.Tryz.ty_el151 Go.Sim.Tryz.ty_zeroE151 Go.Sim.Tryz.ty_load154 Go.Sim.Tryz.ty_zero154 Go.Sim.Tryz.ty_fld154_0 Go.Sim.Tryz.ty_part154_0 Go.Sim.Tryz.ty_struct154 Go.Sim.Tryz.ty_load164 Go.Sim.Tryz.ty_zero164 Go.Sim.Tryz.ty_load168 Go.Sim.Tryz.ty_zero168 Go.Sim.Tryz.ty_und168 Go.Sim.Tryz.ty_vzero154 Go.Sim.Tryz.ty_load171 Go.Sim.Tryz.ty_zero171 Go.Sim.Tryz.ty_fld171_0 Go.Sim.Tryz.ty_part171_0 Go.Sim.Tryz.ty_fld171_1 Go.Sim.Tryz.ty_part171_1 Go.Sim.Tryz.ty_fld171_2 Go.Sim.Tryz.ty_part171_2 Go.Sim.Tryz.ty_struct171 Go.Sim.Tryz.ty_load173 Go.Sim.Tryz.ty_zero173 Go.Sim.Tryz.ty_load175 Go.Sim.Tryz.ty_zero175 Go.Sim.Tryz.ty_und175 Go.Sim.Tryz.ty_load182 Go.Sim.Tryz.ty_zero182 Go.Sim.Tryz.ty_und182 Go.Sim.Tryz.ty_load185 Go.Sim.Tryz.ty_zero185 Go.Sim.Tryz.ty_load188 Go.Sim.Tryz.ty_zero188 Go.Sim.Tryz.ty_und188 Go.Sim.Tryz.ty_load192 Go.Sim.Tryz.ty_zero192 Go.Sim.Tryz.ty_load195 Go.Sim.Tryz.ty_zero195
section
attribute [local push_cast] encPl_mk encPl_take encPl_len encPl_one encPls_pure encPl_pure encT_pure encT_len encT_one encT_take
theorem encPls_all5 (l:List Pl):∀ e ∈ l.map encPl,e.length = 5:=by
 simp only [List.mem_map]
 rintro _ ⟨x,_,rfl⟩
 exact encPl_len x
theorem sealLL_snoc {π:Nat → Option Nat} {H H':AH} {v u:List AV}:∀ {vs us:List (List AV)},SealLL π H H' vs us → SealL π H H' v u → SealLL π H H' (vs ++ [v]) (us ++ [u])
 | [],[],_,h=>by rw [List.nil_append,List.nil_append,slll_cons,slll_nil]; exact ⟨h,trivial⟩
 | a :: vs,b :: us,h0,h=>by
  rw [slll_cons] at h0
  rw [List.cons_append,List.cons_append,slll_cons]
  exact ⟨h0.1,sealLL_snoc h0.2 h⟩
 | [],b :: us,h0,_=>by simp [SealLL] at h0
 | a :: vs,[],h0,_=>by simp [SealLL] at h0
def outW (col:Int) (ps:List (Int × Int)):Nat → List Pl
 | 0=>[nestW]
 | 1=>[nestW] ++ innerL 2 col ps
 | _=>[nestW] ++ innerL 2 col ps ++ innerL 3 col ps
def curW (B:List Pl) (op col:Int) (ps:List (Int × Int)) (i:Nat):List Pl:=B ++ innerL op col (ps.take i)
theorem curW_zero (B:List Pl) (op col:Int) (ps:List (Int × Int)):curW B op col ps 0 = B:=by rw [curW,List.take_zero]; exact List.append_nil B
theorem curW_len (B:List Pl) (op col:Int) (ps:List (Int × Int)) (i:Nat):(curW B op col ps i).length ≤ B.length + ps.length:=by
 rw [curW,List.length_append]
 have:=innerL_len op col (ps.take i)
 rw [List.length_take] at this
 omega
theorem outW_len (col:Int) (ps:List (Int × Int)) (k:Nat):(outW col ps k).length ≤ 1 + ps.length + ps.length:=by
 have h2:=innerL_len 2 col ps
 have h3:=innerL_len 3 col ps
 match k with
 | 0=>rw [outW,List.length_singleton]; omega
 | 1=>rw [outW,List.length_append,List.length_singleton]; omega
 | _ + 2=>rw [outW,List.length_append,List.length_append,List.length_singleton]; omega; all_goals simp
set_option maxHeartbeats 4000000 in
theorem Ways_ok (q:Qy) (hq:q.Ok) (a b col:Int):Quiet Go.Proofs.Tryz.prog 121 [.agg (encQ q), .int a, .int b, .int col] (.sl ((waysP q a b col).map encPl)):=by
 have hP:=Pairs_ok q hq a b
 have hple:=pairs_le q hq a b
 unfold waysP
 generalize q.pairs a b = ps at hP hple ⊢
 have e1:[nestW] ++ innerL 2 col ps ++ innerL 3 col ps = outW col ps 2:=rfl
 rw [e1]
 refine quiet_of (rs:=#[.tmp 8]) Go.Proofs.Tryz.func121 rfl rfl rfl mixed rfl rfl fun H hs=>?_
 simp -implicitDefEqProofs only [push_cast,Nat.reduceAdd,Nat.reduceSub,Nat.reduceMul,Nat.reduceLT,Nat.reduceLeDiff,Nat.reduceEqDiff,Nat.reduceBEq,reduceCtorEq,reduceIte,Int.reduceLE,Int.reduceLT,Int.reduceNeg,Int.reduceToNat,encQ]
 refine callq hP ?_
 simp -implicitDefEqProofs only [push_cast,Nat.reduceAdd,Nat.reduceSub,Nat.reduceMul,Nat.reduceLT,Nat.reduceLeDiff,Nat.reduceEqDiff,Nat.reduceBEq,reduceCtorEq,reduceIte,Int.reduceLE,Int.reduceLT,Int.reduceNeg,Int.reduceToNat,encQ]
 refine loop_at hs (σ:=Nat) (fun k=>k ≤ 2) (fun k=>2 - k)
  (fun k=>[(23, .int k),(22, .int 2),(21, .rsl (H.nxt + 2) 1 0 2),(10, .sl (ps.map encP)),(3, .int col),(9, .rsl (H.nxt + 1) 5 0 (outW col ps k).length)])
  (fun k=>[none,some (.cells 5 ((outW col ps k).map encPl) 0),some (.cells 1 [[.int 2],[.int 3]] 0)]) [none,some 1,some 2] 0 (by omega) rfl ?_ ?_ ?_
 ·(try simp -implicitDefEqProofs only [push_cast,Nat.reduceAdd,Nat.reduceSub,Nat.reduceMul,Nat.reduceLT,Nat.reduceLeDiff,Nat.reduceEqDiff,Nat.reduceBEq,reduceCtorEq,reduceIte,Int.reduceLE,Int.reduceLT,Int.reduceNeg,Int.reduceToNat,outW,rowP_pure,Int.reduceAdd,List.length_singleton])
 ·(try simp -implicitDefEqProofs only [push_cast,Nat.reduceAdd,Nat.reduceSub,Nat.reduceMul,Nat.reduceLT,Nat.reduceLeDiff,Nat.reduceEqDiff,Nat.reduceBEq,reduceCtorEq,reduceIte,Int.reduceLE,Int.reduceLT,Int.reduceNeg,Int.reduceToNat,outW,nestW,List.map_cons,List.map_nil])
 intro k hk
 have hol:=outW_len col ps k
 by_cases hk2:k < 2
 ·have hk':((k:Int) < 2) = True:=by simp; omega
  have hk0:(0 ≤ (k:Int)) = True:=by simp
  obtain ⟨op,hop,hopk,hend⟩:∃ op:Int,([[AV.int 2],[AV.int 3]]:List (List AV)).getD k [] = [.int op] ∧ op = 2 + k ∧ curW (outW col ps k) op col ps ps.length = outW col ps (k + 1):=by
   have hc:k = 0 ∨ k = 1:=by omega
   rcases hc with rfl | rfl
   ·exact ⟨2,rfl,rfl,by rw [curW,List.take_length]; rfl⟩
   ·exact ⟨3,rfl,rfl,by rw [curW,List.take_length]; rfl⟩
  simp -implicitDefEqProofs only [push_cast,Nat.reduceAdd,Nat.reduceSub,Nat.reduceMul,Nat.reduceLT,Nat.reduceLeDiff,Nat.reduceEqDiff,Nat.reduceBEq,reduceCtorEq,reduceIte,Int.reduceLE,Int.reduceLT,Int.reduceNeg,Int.reduceToNat,hk',hk0,hop]
  refine ⟨by omega,by omega, ?_⟩
  refine loop_at hs (σ:=Nat) (fun i=>i ≤ ps.length) (fun i=>ps.length - i)
   (fun i=>[(29, .int i),(28, .int ps.length),(27, .sl (ps.map encP)),(12, .int op),(23, .int k),(22, .int 2),(21, .rsl (H.nxt + 2) 1 0 2),(10, .sl (ps.map encP)),(3, .int col),(9, .rsl (H.nxt + 1) 5 0 (curW (outW col ps k) op col ps i).length)])
   (fun i=>[none,some (.cells 5 ((curW (outW col ps k) op col ps i).map encPl) 0),some (.cells 1 [[.int 2],[.int 3]] 0)]) [none,some 1,some 2] 0 (by omega) rfl ?_ ?_ ?_
  ·(try simp -implicitDefEqProofs only [push_cast,Nat.reduceAdd,Nat.reduceSub,Nat.reduceMul,Nat.reduceLT,Nat.reduceLeDiff,Nat.reduceEqDiff,Nat.reduceBEq,reduceCtorEq,reduceIte,Int.reduceLE,Int.reduceLT,Int.reduceNeg,Int.reduceToNat,hop,curW_zero,rowP_pure,Int.reduceAdd])
  ·(try simp -implicitDefEqProofs only [push_cast,Nat.reduceAdd,Nat.reduceSub,Nat.reduceMul,Nat.reduceLT,Nat.reduceLeDiff,Nat.reduceEqDiff,Nat.reduceBEq,reduceCtorEq,reduceIte,Int.reduceLE,Int.reduceLT,Int.reduceNeg,Int.reduceToNat,curW_zero,encPls_pure])
   exact encPls_all5 _
  intro i hi2
  have hcl:=curW_len (outW col ps k) op col ps i
  by_cases hi:i < ps.length
  ·have hi':((i:Int) < (ps.length:Int)) = True:=by simp; omega
   have hi0:(0 ≤ (i:Int)) = True:=by simp
   have hps:=encPs_get ps i hi
   rw [encP] at hps
   have hsn:=innerL_snoc op col ps i hi
   have hcs:curW (outW col ps k) op col ps (i + 1) = curW (outW col ps k) op col ps i ++ (if (decide (col = -1) || (decide (op = 3) && decide (col = ps[i].1))) = true then [.mk op 0 ps[i].1 ps[i].2 []] else []):=by
    rw [curW,hsn,← List.append_assoc]; rfl
   generalize ps[i].1 = u at hps hcs
   generalize ps[i].2 = v at hps hcs
   generalize hrow:curW (outW col ps k) op col ps i = row at hcs hcl ⊢
   have hnext:∀ row',row' = curW (outW col ps k) op col ps (i + 1) → True:=fun _ _=>trivial
   simp -implicitDefEqProofs only [push_cast,Nat.reduceAdd,Nat.reduceSub,Nat.reduceMul,Nat.reduceLT,Nat.reduceLeDiff,Nat.reduceEqDiff,Nat.reduceBEq,reduceCtorEq,reduceIte,Int.reduceLE,Int.reduceLT,Int.reduceNeg,Int.reduceToNat,hi',hi0,hps]
   refine ⟨fun _=>by decide,fun h1 h2=>by rw [decide_eq_false h1,decide_eq_true h2]; rfl,fun h=>?_,fun h=>?_⟩
   ·rw [h,if_pos rfl] at hcs
    have hrw:(curW (outW col ps k) op col ps (i + 1)).map encPl = row.map encPl ++ [encPl (.mk op 0 u v [])]:=by rw [hcs,List.map_append]; rfl
    have hln:(curW (outW col ps k) op col ps (i + 1)).length = row.length + 1:=by rw [hcs,List.length_append]; rfl
    have hcap:List.take row.length (row.map encPl) = row.map encPl:=List.take_of_length_le (by simp)
    rw [wrap64 (n:=(i:Int) + 1) (by omega) (by omega)]
    refine ⟨by omega,next_at [none,some 5,some 2] (i + 1) (by omega) (by omega) rfl ?_ ?_⟩
    ·(try simp -implicitDefEqProofs only [push_cast,Nat.reduceAdd,Nat.reduceSub,Nat.reduceMul,Nat.reduceLT,Nat.reduceLeDiff,Nat.reduceEqDiff,Nat.reduceBEq,reduceCtorEq,reduceIte,Int.reduceLE,Int.reduceLT,Int.reduceNeg,Int.reduceToNat,hln,rowP_pure])
    ·(try simp -implicitDefEqProofs only [push_cast,Nat.reduceAdd,Nat.reduceSub,Nat.reduceMul,Nat.reduceLT,Nat.reduceLeDiff,Nat.reduceEqDiff,Nat.reduceBEq,reduceCtorEq,reduceIte,Int.reduceLE,Int.reduceLT,Int.reduceNeg,Int.reduceToNat,hcap,encPls_pure])
     rw [hrw]
     refine ⟨sealLL_snoc (sealLL_pure _ _ _ (encPls_pure row)) ?_,fun e he=>?_⟩
     ·(try simp -implicitDefEqProofs only [push_cast,Nat.reduceAdd,Nat.reduceSub,Nat.reduceMul,Nat.reduceLT,Nat.reduceLeDiff,Nat.reduceEqDiff,Nat.reduceBEq,reduceCtorEq,reduceIte,Int.reduceLE,Int.reduceLT,Int.reduceNeg,Int.reduceToNat,List.map_nil])
     ·rw [← hrw] at he; exact encPls_all5 _ e he
   ·rw [h] at hcs
    have hcs':curW (outW col ps k) op col ps (i + 1) = row:=by rw [hcs]; exact List.append_nil row
    rw [wrap64 (n:=(i:Int) + 1) (by omega) (by omega)]
    refine next_at [none,some 1,some 2] (i + 1) (by omega) (by omega) rfl ?_ ?_
    ·(try simp -implicitDefEqProofs only [push_cast,Nat.reduceAdd,Nat.reduceSub,Nat.reduceMul,Nat.reduceLT,Nat.reduceLeDiff,Nat.reduceEqDiff,Nat.reduceBEq,reduceCtorEq,reduceIte,Int.reduceLE,Int.reduceLT,Int.reduceNeg,Int.reduceToNat,hcs',rowP_pure])
    ·(try simp -implicitDefEqProofs only [push_cast,Nat.reduceAdd,Nat.reduceSub,Nat.reduceMul,Nat.reduceLT,Nat.reduceLeDiff,Nat.reduceEqDiff,Nat.reduceBEq,reduceCtorEq,reduceIte,Int.reduceLE,Int.reduceLT,Int.reduceNeg,Int.reduceToNat,hcs',encPls_pure])
     exact encPls_all5 _
  ·have hi':((i:Int) < (ps.length:Int)) = False:=by simp; omega
   obtain rfl:i = ps.length:=by omega
   rw [hend]
   simp -implicitDefEqProofs only [push_cast,Nat.reduceAdd,Nat.reduceSub,Nat.reduceMul,Nat.reduceLT,Nat.reduceLeDiff,Nat.reduceEqDiff,Nat.reduceBEq,reduceCtorEq,reduceIte,Int.reduceLE,Int.reduceLT,Int.reduceNeg,Int.reduceToNat,hi']
   rw [wrap64 (n:=(k:Int) + 1) (by omega) (by omega)]
   refine next_at [none,some 1,some 2] (k + 1) (by omega) (by omega) rfl ?_ ?_
   ·(try simp -implicitDefEqProofs only [push_cast,Nat.reduceAdd,Nat.reduceSub,Nat.reduceMul,Nat.reduceLT,Nat.reduceLeDiff,Nat.reduceEqDiff,Nat.reduceBEq,reduceCtorEq,reduceIte,Int.reduceLE,Int.reduceLT,Int.reduceNeg,Int.reduceToNat,rowP_pure])
   ·(try simp -implicitDefEqProofs only [push_cast,Nat.reduceAdd,Nat.reduceSub,Nat.reduceMul,Nat.reduceLT,Nat.reduceLeDiff,Nat.reduceEqDiff,Nat.reduceBEq,reduceCtorEq,reduceIte,Int.reduceLE,Int.reduceLT,Int.reduceNeg,Int.reduceToNat,encPls_pure])
    exact encPls_all5 _
 ·have hk':((k:Int) < 2) = False:=by simp; omega
  have ek:outW col ps k = outW col ps 2:=by rw [show k = 2 by omega]
  rw [ek] at hol ⊢
  have hcap:List.take (outW col ps 2).length ((outW col ps 2).map encPl) = (outW col ps 2).map encPl:=List.take_of_length_le (by simp)
  simp -implicitDefEqProofs only [push_cast,Nat.reduceAdd,Nat.reduceSub,Nat.reduceMul,Nat.reduceLT,Nat.reduceLeDiff,Nat.reduceEqDiff,Nat.reduceBEq,reduceCtorEq,reduceIte,Int.reduceLE,Int.reduceLT,Int.reduceNeg,Int.reduceToNat,hk']
  rw [hcap]
  exact sealLL_pure _ _ _ (encPls_pure _)
theorem must_ok (w:Pl) (col:Int):Quiet Go.Proofs.Tryz.prog 122 [.agg (encPl w), .int col] (.tup [.int (mustP w col).1, .int (mustP w col).2]):=by
 obtain ⟨op,occ,a,b,l⟩:=w
 refine quiet_of (rs:=#[.tmp 4, .tmp 5]) Go.Proofs.Tryz.func122 rfl rfl rfl mixed rfl rfl fun H hs=>?_
 by_cases h1:op = 1
 ·subst h1
  push_cast -implicitDefEqProofs [eq_self,iff_self,mustP,Pl.op,Pl.a,Pl.b]
 ·have c1:(op = 1) = False:=by simp [h1]
  by_cases h3:op = 3
  ·subst h3
   push_cast -implicitDefEqProofs [eq_self,iff_self,mustP,Pl.op,Pl.a,Pl.b]
   refine areg_at 7 (by kernel_rfl) (by kernel_rfl) ?_
   push_cast -implicitDefEqProofs [eq_self,iff_self]
   try decide
  ·have c3:(op = 3) = False:=by simp [h3]
   push_cast -implicitDefEqProofs [eq_self,iff_self,mustP,Pl.op,Pl.a,Pl.b,c1,c3]
theorem Sorted_ok (c:List Df) (hcl:c.length ≤ 1000000) (q:Qy) (hq:q.Ok) (s n:Int):Quiet Go.Proofs.Tryz.prog 124 [.agg [.sl (c.map encD)], .agg (encQ q), .int s, .int n] (.int (sortedC c q s n)):=by
 have hR:=Rows_ok c hcl q hq s
 have hA:=AddK_ok [n,sortK (rowsQ c q s)] (by simp)
 refine quiet_of (rs:=#[.tmp 8]) Go.Proofs.Tryz.func124 rfl rfl rfl mixed rfl rfl fun H hs=>?_
 push_cast -implicitDefEqProofs [eq_self,iff_self,encQ]
 refine callq hR ?_
 push_cast -implicitDefEqProofs [eq_self,iff_self,encQ]
 refine callq (SortK_ok _) ?_
 push_cast -implicitDefEqProofs [eq_self,iff_self,encQ]
 refine fzk H 2 2 [.sl ([n,sortK (rowsQ c q s)].map encI)] (by rfl) (by omega) (by simp) ?_ ?_
 ·(try push_cast -implicitDefEqProofs [eq_self,iff_self,encI,List.map_cons,List.map_nil])
 refine callq hA ?_
 push_cast -implicitDefEqProofs [eq_self,iff_self,sortedC]
theorem ownW_ok (c:List Df) (hcl:c.length ≤ 1000000) (q:Qy) (hq:q.Ok) (w:Pl) (s t:Int):Quiet Go.Proofs.Tryz.prog 123 [.agg [.sl (c.map encD)], .agg (encQ q), .agg (encPl w), .int s, .int t] (.int (ownW c q w s t)):=by
 have hR:=Rows_ok c hcl q hq s
 have hR2:=Rows_ok c hcl q hq t
 obtain ⟨op,occ,a,b,l⟩:=w
 unfold ownW
 refine quiet_of (rs:=#[.tmp 10]) Go.Proofs.Tryz.func123 rfl rfl rfl mixed rfl rfl fun H hs=>?_
 push_cast -implicitDefEqProofs [eq_self,iff_self,encQ]
 refine areg_at 9 (by kernel_rfl) (by kernel_rfl) ?_
 push_cast -implicitDefEqProofs [eq_self,iff_self,encQ]
 refine ahdq hR ?_
 push_cast -implicitDefEqProofs [eq_self,iff_self,encQ]
 refine ahdq hR2 ?_
 by_cases h1:op = 1
 ·subst h1
  push_cast -implicitDefEqProofs [eq_self,iff_self,Pl.op]
  refine callq (NestK_ok _ _) ?_
  push_cast -implicitDefEqProofs [eq_self,iff_self]
 ·have c1:(op = 1) = False:=by simp [h1]
  by_cases h2:op = 2
  ·subst h2
   push_cast -implicitDefEqProofs [eq_self,iff_self,Pl.op]
   refine callq (HashK_ok _ _) ?_
   push_cast -implicitDefEqProofs [eq_self,iff_self]
  ·have c2:(op = 2) = False:=by simp [h2]
   push_cast -implicitDefEqProofs [eq_self,iff_self,Pl.op,c1,c2]
   refine callq (MergeK_ok _ _) ?_
   push_cast -implicitDefEqProofs [eq_self,iff_self]
end
section
def encCh (x:Ch):List AV:=.int x.1 :: encPl x.2
theorem encCh_len (x:Ch):(encCh x).length = 6:=by rw [encCh,List.length_cons,encPl_len]
theorem encCh_take (x:Ch):(encCh x).take 6 = encCh x:=by rw [← encCh_len x,List.take_length]
theorem encCh_drop (x:Ch):(encCh x).drop 6 = []:=List.drop_of_length_le (by rw [encCh_len]; exact Nat.le_refl _)
theorem encCh_one (x:Ch):(encCh x).all AV.one = true:=by rw [encCh,List.all_cons,encPl_one]; rfl
theorem encCh_pure (x:Ch):PureL (encCh x):=by
 rw [encCh]
 simp only [PureL,Pure,true_and]
 exact encPl_pure x.2
theorem encChs_pure (l:List Ch):PureLL (l.map encCh):=by
 rw [pureLL_iff]
 simp only [List.mem_map]
 rintro _ ⟨x,_,rfl⟩
 exact encCh_pure x
theorem encChs_get (l:List Ch) (i:Nat) (h:i < l.length):(l.map encCh).getD i [] = encCh l[i]:=getD_map encCh l [] i h
theorem encChs_all6 (l:List Ch):∀ e ∈ l.map encCh,e.length = 6:=by
 simp only [List.mem_map]
 rintro _ ⟨x,_,rfl⟩
 exact encCh_len x
attribute [local push_cast] encPl_mk encPl_take encPl_len encPl_one encPls_pure encPl_pure encT_pure encT_len encT_one encT_take encCh_take encCh_drop encCh_len encCh_one encCh_pure encChs_pure
theorem best2_ok (x:Ch):Quiet Go.Proofs.Tryz.prog 126 [.agg (encCh x)] (.int x.1):=by
 refine quiet_of (rs:=#[.tmp 2]) Go.Proofs.Tryz.func126 rfl rfl rfl mixed rfl rfl fun H hs=>?_
 push_cast -implicitDefEqProofs [eq_self,iff_self,encCh]
theorem leastC_snoc (l:List Ch) (i:Nat) (h:i < l.length):leastC (l.take (i + 1)) = if i = 0 then l[i] else if l[i].1 < (leastC (l.take i)).1 then l[i] else leastC (l.take i):=by
 rw [List.take_succ_eq_append_getElem h]
 match i,l,h with
 | 0,x :: l,_=>rfl
 | i + 1,x :: l,h =>
  rw [if_neg (by omega),List.take_succ_cons,List.cons_append,leastC,leastC,List.foldl_append]
  rfl
set_option maxHeartbeats 4000000 in
theorem least_ok (l:List Ch) (hl:l.length ≤ 1000000):Quiet Go.Proofs.Tryz.prog 125 [.sl (l.map encCh), .clo (.func 126) [] []] (.tup [.agg (encCh (leastC l)), .bool (decide (0 < l.length))]):=by
 refine quiet_of (rs:=#[.cell 4 103, .tmp 5]) Go.Proofs.Tryz.func125 rfl rfl rfl mixed rfl rfl fun H hs=>?_
 simp -implicitDefEqProofs only [push_cast,Nat.reduceAdd,Nat.reduceSub,Nat.reduceMul,Nat.reduceLT,Nat.reduceLeDiff,Nat.reduceEqDiff,Nat.reduceBEq,reduceCtorEq,reduceIte,Int.reduceLE,Int.reduceLT,Int.reduceNeg,Int.reduceToNat]
 refine loop_at hs (σ:=Nat) (fun i=>i ≤ l.length) (fun i=>l.length - i)
  (fun i=>[(11, .int i),(10, .int l.length),(9, .sl (l.map encCh)),(0, .sl (l.map encCh)),(1, .clo (.func 126) [] []),(4, .ptr (H.nxt + 0) 6 0 0),(6, .ptr (H.nxt + 1) 6 0 0)])
  (fun i=>[some (.cells 6 [encCh (0,plO)] 0),some (.cells 6 [encCh (leastC (l.take i))] 0)]) [some 0,some 1] 0 (by omega) rfl ?_ ?_ ?_
 ·(try simp -implicitDefEqProofs only [push_cast,Nat.reduceAdd,Nat.reduceSub,Nat.reduceMul,Nat.reduceLT,Nat.reduceLeDiff,Nat.reduceEqDiff,Nat.reduceBEq,reduceCtorEq,reduceIte,Int.reduceLE,Int.reduceLT,Int.reduceNeg,Int.reduceToNat,encChs_pure])
 ·(try simp -implicitDefEqProofs only [push_cast,Nat.reduceAdd,Nat.reduceSub,Nat.reduceMul,Nat.reduceLT,Nat.reduceLeDiff,Nat.reduceEqDiff,Nat.reduceBEq,reduceCtorEq,reduceIte,Int.reduceLE,Int.reduceLT,Int.reduceNeg,Int.reduceToNat,List.take_zero,leastC,encCh,plO,List.map_nil])
 intro i hi2
 by_cases hi:i < l.length
 ·have hi':((i:Int) < (l.length:Int)) = True:=by simp; omega
  have hi0:(0 ≤ (i:Int)) = True:=by simp
  have hsn:=leastC_snoc l i hi
  have hb2:=best2_ok l[i]
  have hb3:=best2_ok (leastC (l.take i))
  have hget:=encChs_get l i hi
  generalize l[i] = x at hsn hb2 hget
  generalize leastC (l.take i) = out at hsn hb3 ⊢
  simp -implicitDefEqProofs only [push_cast,Nat.reduceAdd,Nat.reduceSub,Nat.reduceMul,Nat.reduceLT,Nat.reduceLeDiff,Nat.reduceEqDiff,Nat.reduceBEq,reduceCtorEq,reduceIte,Int.reduceLE,Int.reduceLT,Int.reduceNeg,Int.reduceToNat,hi',hi0,hget]
  refine areg_at 11 (by kernel_rfl) (by kernel_rfl) ?_
  by_cases h0:i = 0
  ·subst h0
   rw [if_pos rfl] at hsn
   simp -implicitDefEqProofs only [push_cast,Nat.reduceAdd,Nat.reduceSub,Nat.reduceMul,Nat.reduceLT,Nat.reduceLeDiff,Nat.reduceEqDiff,Nat.reduceBEq,reduceCtorEq,reduceIte,Int.reduceLE,Int.reduceLT,Int.reduceNeg,Int.reduceToNat,Int.reduceEq]
   refine gcallq (.int x.1) (fun h=>by cases h) ?_
   simp -implicitDefEqProofs only [push_cast,Nat.reduceAdd,Nat.reduceSub,Nat.reduceMul,Nat.reduceLT,Nat.reduceLeDiff,Nat.reduceEqDiff,Nat.reduceBEq,reduceCtorEq,reduceIte,Int.reduceLE,Int.reduceLT,Int.reduceNeg,Int.reduceToNat]
   refine gcallq (.int out.1) (fun h=>by cases h) ?_
   simp -implicitDefEqProofs only [push_cast,Nat.reduceAdd,Nat.reduceSub,Nat.reduceMul,Nat.reduceLT,Nat.reduceLeDiff,Nat.reduceEqDiff,Nat.reduceBEq,reduceCtorEq,reduceIte,Int.reduceLE,Int.reduceLT,Int.reduceNeg,Int.reduceToNat]
   rw [show IntKind.wrap .i64 ((0:Int) + 1) = 0 + 1 by decide]
   refine next_at [some 0,some 1] (0 + 1) (by omega) (by omega) rfl ?_ ?_
   ·(try simp -implicitDefEqProofs only [push_cast,Nat.reduceAdd,Nat.reduceSub,Nat.reduceMul,Nat.reduceLT,Nat.reduceLeDiff,Nat.reduceEqDiff,Nat.reduceBEq,reduceCtorEq,reduceIte,Int.reduceLE,Int.reduceLT,Int.reduceNeg,Int.reduceToNat,hsn])
   ·(try simp -implicitDefEqProofs only [push_cast,Nat.reduceAdd,Nat.reduceSub,Nat.reduceMul,Nat.reduceLT,Nat.reduceLeDiff,Nat.reduceEqDiff,Nat.reduceBEq,reduceCtorEq,reduceIte,Int.reduceLE,Int.reduceLT,Int.reduceNeg,Int.reduceToNat,hsn])
  ·have h0':((i:Int) = 0) = False:=by simp; omega
   rw [if_neg h0] at hsn
   simp -implicitDefEqProofs only [push_cast,Nat.reduceAdd,Nat.reduceSub,Nat.reduceMul,Nat.reduceLT,Nat.reduceLeDiff,Nat.reduceEqDiff,Nat.reduceBEq,reduceCtorEq,reduceIte,Int.reduceLE,Int.reduceLT,Int.reduceNeg,Int.reduceToNat,h0']
   refine gcallq (.int x.1) (fun _=>hb2) ?_
   simp -implicitDefEqProofs only [push_cast,Nat.reduceAdd,Nat.reduceSub,Nat.reduceMul,Nat.reduceLT,Nat.reduceLeDiff,Nat.reduceEqDiff,Nat.reduceBEq,reduceCtorEq,reduceIte,Int.reduceLE,Int.reduceLT,Int.reduceNeg,Int.reduceToNat]
   refine gcallq (.int out.1) (fun _=>hb3) ?_
   simp -implicitDefEqProofs only [push_cast,Nat.reduceAdd,Nat.reduceSub,Nat.reduceMul,Nat.reduceLT,Nat.reduceLeDiff,Nat.reduceEqDiff,Nat.reduceBEq,reduceCtorEq,reduceIte,Int.reduceLE,Int.reduceLT,Int.reduceNeg,Int.reduceToNat]
   refine ⟨fun h=>?_,fun h=>?_⟩
   ·rw [if_pos h] at hsn
    rw [wrap64 (n:=(i:Int) + 1) (by omega) (by omega)]
    refine next_at [some 0,some 1] (i + 1) (by omega) (by omega) rfl ?_ ?_
    ·(try simp -implicitDefEqProofs only [push_cast,Nat.reduceAdd,Nat.reduceSub,Nat.reduceMul,Nat.reduceLT,Nat.reduceLeDiff,Nat.reduceEqDiff,Nat.reduceBEq,reduceCtorEq,reduceIte,Int.reduceLE,Int.reduceLT,Int.reduceNeg,Int.reduceToNat,hsn])
    ·(try simp -implicitDefEqProofs only [push_cast,Nat.reduceAdd,Nat.reduceSub,Nat.reduceMul,Nat.reduceLT,Nat.reduceLeDiff,Nat.reduceEqDiff,Nat.reduceBEq,reduceCtorEq,reduceIte,Int.reduceLE,Int.reduceLT,Int.reduceNeg,Int.reduceToNat,hsn])
   ·rw [if_neg h] at hsn
    rw [wrap64 (n:=(i:Int) + 1) (by omega) (by omega)]
    refine next_at [some 0,some 1] (i + 1) (by omega) (by omega) rfl ?_ ?_
    ·(try simp -implicitDefEqProofs only [push_cast,Nat.reduceAdd,Nat.reduceSub,Nat.reduceMul,Nat.reduceLT,Nat.reduceLeDiff,Nat.reduceEqDiff,Nat.reduceBEq,reduceCtorEq,reduceIte,Int.reduceLE,Int.reduceLT,Int.reduceNeg,Int.reduceToNat,hsn])
    ·(try simp -implicitDefEqProofs only [push_cast,Nat.reduceAdd,Nat.reduceSub,Nat.reduceMul,Nat.reduceLT,Nat.reduceLeDiff,Nat.reduceEqDiff,Nat.reduceBEq,reduceCtorEq,reduceIte,Int.reduceLE,Int.reduceLT,Int.reduceNeg,Int.reduceToNat,hsn])
 ·have hi':((i:Int) < (l.length:Int)) = False:=by simp; omega
  rw [List.take_of_length_le (by omega)]
  simp -implicitDefEqProofs only [push_cast,Nat.reduceAdd,Nat.reduceSub,Nat.reduceMul,Nat.reduceLT,Nat.reduceLeDiff,Nat.reduceEqDiff,Nat.reduceBEq,reduceCtorEq,reduceIte,Int.reduceLE,Int.reduceLT,Int.reduceNeg,Int.reduceToNat,hi']
  rw [decide_eq_decide]
  omega
theorem putN_ok (n:Int) (p:Pl) (i:Nat) (H:AH) (hi:i < H.nxt) (ho:H.obj i = some (.cells 1 [[.nilS]] 0)) :
  ACalls Go.Proofs.Tryz.prog 120 [.int n, .agg (encPl p), .ptr i 1 0 0] H (fun r H'=>r = .tup [] ∧ H' = (H.set i (.cells 1 [[.rsl (H.nxt + 2) 6 0 1]] 0)).plus [some (.cells 5 [encPl p] 0),some (.cells 6 [encCh (n,p)] 0),some (.cells 6 [encCh (n,p)] 0)]):=by
 refine acalls_sc (rs:=#[]) Go.Proofs.Tryz.func120 rfl rfl rfl mixed rfl (Nat.le_of_ble_eq_true rfl) fun hs _=>?_
 have hob:∀ l,(H.plus l).obj i = some (.cells 1 [[.nilS]] 0):=fun l=>by rw [plus_low H l hi]; exact ho
 have hset:∀ l o,(H.plus l).set i o = (H.set i o).plus l:=fun l o=>plus_setlow H l hi o
 push_cast -implicitDefEqProofs [eq_self,iff_self,hob,hset]
 exact retk trivial ⟨rfl,rfl⟩
theorem put_ok (s:List Ch) (hl:s.length ≤ 1000000) (n:Int) (p:Pl) (i j:Nat) (H:AH) (hij:j ≠ i) (hi:i < H.nxt) (hj:j < H.nxt) (ho:H.obj i = some (.cells 1 [[.rsl j 6 0 s.length]] 0)) (hr:H.obj j = some (.cells 6 (s.map encCh) 0)) :
  ACalls Go.Proofs.Tryz.prog 120 [.int n, .agg (encPl p), .ptr i 1 0 0] H (fun r H'=>r = .tup [] ∧ H' = ((H.del j).set i (.cells 1 [[.rsl (H.nxt + 2) 6 0 (s.length + 1)]] 0)).plus [some (.cells 5 [encPl p] 0),some (.cells 6 [encCh (n,p)] 0),some (.cells 6 ((s ++ [(n,p)]).map encCh) 0)]):=by
 refine acalls_sc (rs:=#[]) Go.Proofs.Tryz.func120 rfl rfl rfl mixed rfl (Nat.le_of_ble_eq_true rfl) fun hs _=>?_
 have hob:∀ l,(H.plus l).obj i = some (.cells 1 [[.rsl j 6 0 s.length]] 0):=fun l=>by rw [plus_low H l hi]; exact ho
 have hoj:∀ l,(H.plus l).obj j = some (.cells 6 (s.map encCh) 0):=fun l=>by rw [plus_low H l hj]; exact hr
 have hdel:∀ l,(H.plus l).del j = (H.del j).plus l:=fun l=>plus_dellow H l hj
 have hob2:∀ l,((H.del j).plus l).obj i = some (.cells 1 [[.rsl j 6 0 s.length]] 0):=fun l=>by
  rw [plus_low (H.del j) l hi]
  show (if i = j then none else H.obj i) = _
  rw [if_neg (Ne.symm hij),ho]
 have hset2:∀ l o,((H.del j).plus l).set i o = ((H.del j).set i o).plus l:=fun l o=>plus_setlow (H.del j) l hi o
 push_cast -implicitDefEqProofs [eq_self,iff_self,hob,hoj,hdel,hob2,hset2,del_nxt]
 refine ⟨by omega,retk trivial ⟨rfl, ?_⟩⟩
 rw [List.map_append,List.take_of_length_le (by simp)]
 rfl
end
section
attribute [local push_cast] encPl_mk encPl_take encPl_len encPl_one encPls_pure encPl_pure encT_pure encT_len encT_one encT_take encCh_take encCh_drop encCh_len encCh_one encCh_pure encChs_pure
theorem quiet_told {P:Program} {f:FuncId} {args args':List AV} {r:AV} (hq:Quiet P f args' r) (ha:∀ H,SealL some H H args args'):Quiet P f args r:=fun H =>
 ACalls.mono (calla (d:=some 0) (C:=fun T' H'=>tget T' 0 = r ∧ H' = H) (T:=[]) args' hq (ha H) ⟨by simp [tput,tget],rfl⟩) fun r' H' hr=>⟨by simpa [tput,tget] using hr.1,hr.2⟩
theorem told {P:Program} {f:FuncId} {H:AH} {K:AV → AH → Prop} {args:List AV} (args':List AV) (ha:SealL some H H args args') (h:ACalls P f args' H K):ACalls P f args H K:=by
 refine ⟨h.1,fun ρ w xs hh hr=>?_⟩
 have hw:=weak_refl (hsc_of_holds hh)
 refine (h.2 _ w xs (holds_weak hh hw) (repL_seal hh hw _ _ _ ha hr)).mono ?_
 rintro e w' ⟨r,H2,ρ2,x,h1,h2,h3,h4,h5⟩
 exact ⟨r,H2,ρ2,x,h1,h2,h3,(ext_weak (Ext.refl hh) hw).trans h4,h5⟩
theorem plOk0' {op occ a b:Int}:Pl.Ok (.mk op occ a b []):=.mk (by decide) (by simp)
def BestAt (c:List Df) (q:Qy) (d:Nat) (t:Tr) (col:Int):Prop:=Quiet Go.Proofs.Tryz.prog 66 [.agg [.sl (c.map encD)], .agg (encQ q), .agg (encT t), .int col] (.agg (encCh (bestF c q d t col)))
set_option maxHeartbeats 8000000 in
theorem bestLeaf_ok (c:List Df) (hcl:c.length ≤ 1000000) (q:Qy) (hq:q.Ok) (d:Nat) (o:Int):BestAt c q (d + 1) (.leaf o) (-1):=by
 have hC:=CostPl_ok c hcl q hq (.mk 0 o 0 0 []) plOk0'
 have hv:bestF c q (d + 1) (.leaf o) (-1) = (costP c q (.mk 0 o 0 0 []), .mk 0 o 0 0 []):=by rw [bestF,if_pos rfl]; rfl
 have hL:=least_ok [(costP c q (.mk 0 o 0 0 []),Pl.mk 0 o 0 0 [])] (by simp)
 unfold BestAt
 rw [hv,Tr.leaf,encT_mk,List.map_nil]
 generalize costP c q (.mk 0 o 0 0 []) = n at hC hL ⊢
 rw [encPl_mk,List.map_nil] at hC
 refine quiet_of (rs:=#[.cell 8 103]) Go.Proofs.Tryz.func66 rfl rfl rfl mixed rfl rfl fun H hs=>?_
 push_cast -implicitDefEqProofs [eq_self,iff_self,encQ,List.map_nil]
 refine areg_link 6 (by kernel_rfl) (by kernel_rfl) ?_
 push_cast -implicitDefEqProofs [eq_self,iff_self,encQ,List.map_nil]
 refine ahdq (quiet_told hC fun H=>?_) ?_
 ·(try push_cast -implicitDefEqProofs [eq_self,iff_self,encQ,encDs_pure,encEs_pure,encIs_pure])
 push_cast -implicitDefEqProofs [eq_self,iff_self,encQ,List.map_nil]
 refine told [.int n, .agg (encPl (.mk 0 o 0 0 [])), .ptr (H.nxt + 4) 1 0 0] ?_ ?_
 ·(try push_cast -implicitDefEqProofs [eq_self,iff_self,List.map_nil])
 refine (putN_ok n (.mk 0 o 0 0 []) (H.nxt + 4) _ (by simp [plus_nxt]) (by rw [plus_obj]; rfl)).mono ?_
 rintro r H2 ⟨rfl,rfl⟩
 rw [plus_set _ _ 4 _ (by simp),plus_plus]
 push_cast -implicitDefEqProofs [eq_self,iff_self,encQ,Nat.add_assoc,if_false,if_true,or_true,or_false,true_or,false_or,List.map_cons,List.map_nil,List.length_cons,List.length_nil,List.set_cons_zero,List.set_cons_succ,List.cons_append,List.nil_append]
 refine fzk H 8 1 [.sl ([(n,Pl.mk 0 o 0 0 [])].map encCh), .clo (.func 126) [] []] (by rfl) (by omega) (by simp) ?_ ?_
 ·(try push_cast -implicitDefEqProofs [eq_self,iff_self,encCh,if_false,if_true,or_true,or_false,true_or,false_or,List.map_cons,List.map_nil,List.length_cons,List.length_nil,List.set_cons_zero,List.set_cons_succ,List.cons_append,List.nil_append])
 refine callq hL ?_
 push_cast -implicitDefEqProofs [eq_self,iff_self,encQ,if_false,if_true,or_true,or_false,true_or,false_or,List.map_cons,List.map_nil,List.length_cons,List.length_nil,List.set_cons_zero,List.set_cons_succ,List.cons_append,List.nil_append,leastC,List.foldl_nil,encCh]
set_option maxHeartbeats 8000000 in
theorem bestLeafS_ok (c:List Df) (hcl:c.length ≤ 1000000) (q:Qy) (hq:q.Ok) (d:Nat) (o col:Int) (hcol:col ≠ -1) (hB:BestAt c q (d + 1) (.leaf o) (-1)):BestAt c q (d + 1) (.leaf o) col:=by
 have hto:(Tr.leaf o).Ok:=.mk (by simp) (by simp)
 have hS:=SetT_ok _ hto
 have hv:bestF c q (d + 1) (.leaf o) col = sortC c q (.leaf o) col (bestF c q (d + 1) (.leaf o) (-1)):=by
  rw [bestF,bestF,if_neg hcol,if_pos rfl]
  have e:candC c q (bestF c q d) (.leaf o) col = []:=by show (if col = -1 then _ else _) = _; rw [if_neg hcol]
  rw [e]; rfl
 have hL:=least_ok [sortC c q (.leaf o) col (bestF c q (d + 1) (.leaf o) (-1))] (by simp)
 have hc1:(col = -1) = False:=by simp [hcol]
 unfold BestAt at hB ⊢
 rw [hv]
 generalize bestF c q (d + 1) (.leaf o) (-1) = x at hB hL ⊢
 obtain ⟨n,p⟩:=x
 have hSo:=Sorted_ok c hcl q hq (Tr.leaf o).set n
 unfold sortC at hL ⊢
 generalize (Tr.leaf o).set = S at hS hSo hL ⊢
 generalize sortedC c q S n = m at hSo hL ⊢
 dsimp only at hL ⊢
 rw [Tr.leaf,encT_mk,List.map_nil] at hS hB ⊢
 refine quiet_of (rs:=#[.cell 8 103]) Go.Proofs.Tryz.func66 rfl rfl rfl mixed rfl rfl fun H hs=>?_
 push_cast -implicitDefEqProofs [eq_self,iff_self,encQ,hc1,if_false,if_true,or_true,or_false,true_or,false_or,List.map_cons,List.map_nil,List.length_cons,List.length_nil,List.set_cons_zero,List.set_cons_succ,List.cons_append,List.nil_append]
 refine callq hB ?_
 push_cast -implicitDefEqProofs [eq_self,iff_self,encQ,hc1,encCh,if_false,if_true,or_true,or_false,true_or,false_or,List.map_cons,List.map_nil,List.length_cons,List.length_nil,List.set_cons_zero,List.set_cons_succ,List.cons_append,List.nil_append]
 refine areg_linkim [139] 14 (by kernel_rfl) (by kernel_rfl) ?_
 push_cast -implicitDefEqProofs [eq_self,iff_self,encQ,if_false,if_true,or_true,or_false,true_or,false_or,List.map_cons,List.map_nil,List.length_cons,List.length_nil,List.set_cons_zero,List.set_cons_succ,List.cons_append,List.nil_append]
 refine ahdq hS ?_
 push_cast -implicitDefEqProofs [eq_self,iff_self,encQ,if_false,if_true,or_true,or_false,true_or,false_or,List.map_cons,List.map_nil,List.length_cons,List.length_nil,List.set_cons_zero,List.set_cons_succ,List.cons_append,List.nil_append]
 refine ahdq hSo ?_
 push_cast -implicitDefEqProofs [eq_self,iff_self,encQ,if_false,if_true,or_true,or_false,true_or,false_or,List.map_cons,List.map_nil,List.length_cons,List.length_nil,List.set_cons_zero,List.set_cons_succ,List.cons_append,List.nil_append]
 refine told [.int m, .agg (encPl (.mk 4 0 col 0 [p])), .ptr (H.nxt + 4) 1 0 0] ?_ ?_
 ·(try push_cast -implicitDefEqProofs [eq_self,iff_self,if_false,if_true,or_true,or_false,true_or,false_or,List.map_cons,List.map_nil,List.length_cons,List.length_nil,List.set_cons_zero,List.set_cons_succ,List.cons_append,List.nil_append])
 refine (putN_ok m (.mk 4 0 col 0 [p]) (H.nxt + 4) _ (by simp [plus_nxt]) (by rw [plus_obj]; rfl)).mono ?_
 rintro r H2 ⟨rfl,rfl⟩
 rw [plus_set _ _ 4 _ (by simp),plus_plus]
 push_cast -implicitDefEqProofs [eq_self,iff_self,encQ,Nat.add_assoc,if_false,if_true,or_true,or_false,true_or,false_or,List.map_cons,List.map_nil,List.length_cons,List.length_nil,List.set_cons_zero,List.set_cons_succ,List.cons_append,List.nil_append]
 refine fzk H 8 1 [.sl ([(m,Pl.mk 4 0 col 0 [p])].map encCh), .clo (.func 126) [] []] (by rfl) (by omega) (by simp) ?_ ?_
 ·(try push_cast -implicitDefEqProofs [eq_self,iff_self,encCh,if_false,if_true,or_true,or_false,true_or,false_or,List.map_cons,List.map_nil,List.length_cons,List.length_nil,List.set_cons_zero,List.set_cons_succ,List.cons_append,List.nil_append])
 refine callq hL ?_
 push_cast -implicitDefEqProofs [eq_self,iff_self,encQ,if_false,if_true,or_true,or_false,true_or,false_or,List.map_cons,List.map_nil,List.length_cons,List.length_nil,List.set_cons_zero,List.set_cons_succ,List.cons_append,List.nil_append,leastC,List.foldl_nil,encCh]
end
section
attribute [local push_cast] encPl_mk encPl_take encPl_len encPl_one encPls_pure encPl_pure encT_pure encT_len encT_one encT_take encCh_take encCh_drop encCh_len encCh_one encCh_pure encChs_pure
theorem encPl_drop (x:Pl):(encPl x).drop 5 = []:=List.drop_of_length_le (by rw [encPl_len]; exact Nat.le_refl _)
def accC (W:Pl → List Ch) (ws:List Pl) (k:Nat):List Ch:=(ws.take k).flatMap W
theorem accC_zero (W:Pl → List Ch) (ws:List Pl):accC W ws 0 = []:=rfl
theorem accC_snoc (W:Pl → List Ch) (ws:List Pl) {k:Nat} (h:k < ws.length):accC W ws (k + 1) = accC W ws k ++ W ws[k]:=by
 rw [accC,accC,List.take_succ_eq_append_getElem h,List.flatMap_append]
 congr 1
 rw [List.flatMap_cons,List.flatMap_nil,List.append_nil]
theorem wayC_le (c:List Df) (q:Qy) (f g:Int → Ch) (a b col:Int) (w:Pl):(wayC c q f g a b col w).length ≤ 1:=by
 unfold wayC; split <;> simp
theorem accC_len {W:Pl → List Ch} (hW:∀ w,(W w).length ≤ 1) (ws:List Pl) (k:Nat):(accC W ws k).length ≤ k:=by
 induction k with
 | zero=>rw [accC_zero]; simp
 | succ k ih =>
  by_cases h:k < ws.length
  ·rw [accC_snoc W ws h,List.length_append]
   have:=hW ws[k]
   omega
  ·have:accC W ws (k + 1) = accC W ws k:=by rw [accC,accC,List.take_of_length_le (by omega),List.take_of_length_le (by omega)]
   rw [this]
   omega
theorem ways_len (q:Qy) (hq:q.Ok) (a b col:Int):(waysP q a b col).length ≤ 30 + 2 * (q.pairs a b).length:=by
 have h2:=innerL_len 2 col (q.pairs a b)
 have h3:=innerL_len 3 col (q.pairs a b)
 unfold waysP
 rw [List.length_append,List.length_append,List.length_singleton]
 omega
set_option maxHeartbeats 16000000 in
theorem bestJoin_ok (c:List Df) (hcl:c.length ≤ 1000000) (q:Qy) (hq:q.Ok) (hp8:q.p.length ≤ 8) (d:Nat) (a b:Tr) (hao:a.Ok) (hbo:b.Ok) (col:Int) (ha:∀ x,BestAt c q d a x) (hb:∀ x,BestAt c q d b x) (hn:col ≠ -1 → BestAt c q (d + 1) (.join a b) (-1)):BestAt c q (d + 1) (.join a b) col:=by
 have hto:(Tr.join a b).Ok:=.mk (by simp) (by
  intro x hx
  simp only [List.mem_cons,List.not_mem_nil,or_false] at hx
  rcases hx with rfl | rfl
  ·exact hao
  ·exact hbo)
 have hSa:=SetT_ok a hao
 have hSb:=SetT_ok b hbo
 have hSt:=SetT_ok _ hto
 have hWs:=Ways_ok q hq a.set b.set col
 have hwl:(waysP q a.set b.set col).length ≤ 100:=by
  have h1:=ways_len q hq a.set b.set col
  have h2:=pairs_len q a.set b.set
  have h3:(q.new a.set b.set).length ≤ q.p.length:=idxF_lt _ _
  omega
 have hcand:candC c q (bestF c q d) (.join a b) col = accC (wayC c q (bestF c q d a) (bestF c q d b) a.set b.set col) (waysP q a.set b.set col) (waysP q a.set b.set col).length:=by
  rw [accC,List.take_length]; rfl
 have hv:bestF c q (d + 1) (.join a b) col = leastC (candC c q (bestF c q d) (.join a b) col ++ (if col = -1 then [] else [sortC c q (.join a b) col (bestF c q (d + 1) (.join a b) (-1))])):=by
  rw [bestF]
  by_cases h:col = -1
  ·subst h
   rw [if_pos rfl,if_pos rfl,List.append_nil]
  ·rw [if_neg h,if_neg h,bestF,if_pos rfl]
 rw [hcand] at hv
 have hWl:=wayC_le c q (bestF c q d a) (bestF c q d b) a.set b.set col
 have hCols:=ColsQ_ok c hcl q hq a.set
 have hcl2:(q.cols c a.set).length ≤ 1000000:=by
  unfold Qy.cols
  split
  ·have:=colsIn_le c q (bitI a.set); omega
  ·simp
 have hOw:=fun w=>ownW_ok c hcl q hq w a.set b.set
 have hSo:=fun n=>Sorted_ok c hcl q hq (Tr.join a b).set n
 have hWdef:∀ w,wayC c q (bestF c q d a) (bestF c q d b) a.set b.set col w = (if (mustP w col).1 ≠ -1 ∧ (q.cols c a.set).contains (mustP w col).1 = false then [] else [(addK [(bestF c q d a (mustP w col).1).1,(bestF c q d b (mustP w col).2).1,ownW c q w a.set b.set], .mk w.op w.occ w.a w.b [(bestF c q d a (mustP w col).1).2,(bestF c q d b (mustP w col).2).2])]):=fun w=>rfl
 unfold BestAt at ha hb hn ⊢
 rw [hv]
 generalize wayC c q (bestF c q d a) (bestF c q d b) a.set b.set col = W at hWl hWdef hcand hv ⊢
 generalize waysP q a.set b.set col = ws at hWs hwl hcand hv ⊢
 have hSj:∀ n,sortC c q (.join a b) col n = (sortedC c q (Tr.join a b).set n.1, .mk 4 0 col 0 [n.2]):=fun n=>rfl
 generalize (Tr.join a b).set = sj at hSt hSo hSj
 generalize a.set = sa at hSa hWs hCols hcl2 hOw hWdef
 generalize b.set = sb at hSb hWs hOw hWdef
 clear hcand hv
 have hg0:∀ z:List AV,([a,b].map encT).getD 0 z = encT a:=fun _=>rfl
 have hg1:∀ z:List AV,([a,b].map encT).getD 1 z = encT b:=fun _=>rfl
 generalize bestF c q (d + 1) (a.join b) (-1) = xn at hn ⊢
 have hsj:=hSj xn
 obtain ⟨n,p⟩:=xn
 dsimp only at hsj
 rw [hsj]
 have hSo':=hSo n
 generalize sortedC c q sj n = m at hSo' ⊢
 rw [Tr.join,encT_mk,List.map_cons,List.map_cons,List.map_nil] at hSt hn ⊢
 refine quiet_of (rs:=#[.cell 8 103]) Go.Proofs.Tryz.func66 rfl rfl rfl mixed rfl rfl fun H hs=>?_
 push_cast -implicitDefEqProofs [eq_self,iff_self,encQ,if_false,if_true,or_true,or_false,true_or,false_or,List.map_cons,List.map_nil,List.length_cons,List.length_nil,List.set_cons_zero,List.set_cons_succ,List.cons_append,List.nil_append]
 refine areg_at 12 (by kernel_rfl) (by kernel_rfl) ?_
 push_cast -implicitDefEqProofs [eq_self,iff_self,encQ,if_false,if_true,or_true,or_false,true_or,false_or,List.map_cons,List.map_nil,List.length_cons,List.length_nil,List.set_cons_zero,List.set_cons_succ,List.cons_append,List.nil_append]
 refine ahdq hSa ?_
 push_cast -implicitDefEqProofs [eq_self,iff_self,encQ,if_false,if_true,or_true,or_false,true_or,false_or,List.map_cons,List.map_nil,List.length_cons,List.length_nil,List.set_cons_zero,List.set_cons_succ,List.cons_append,List.nil_append]
 refine ahdq hSb ?_
 push_cast -implicitDefEqProofs [eq_self,iff_self,encQ,if_false,if_true,or_true,or_false,true_or,false_or,List.map_cons,List.map_nil,List.length_cons,List.length_nil,List.set_cons_zero,List.set_cons_succ,List.cons_append,List.nil_append]
 refine callq hWs ?_
 push_cast -implicitDefEqProofs [eq_self,iff_self,encQ,if_false,if_true,or_true,or_false,true_or,false_or,List.map_cons,List.map_nil,List.length_cons,List.length_nil,List.set_cons_zero,List.set_cons_succ,List.cons_append,List.nil_append]
 refine loop_at hs (σ:=Nat) (fun k=>k ≤ ws.length) (fun k=>ws.length - k)
  (fun k=>[(62, .int k),(61, .int ws.length),(60, .sl (ws.map encPl)),(12, .int sa),(13, .int sb),(10, .clo (.func 120) [] [.ptr (H.nxt + 4) 1 0 0]),(9, .ptr (H.nxt + 4) 1 0 0),(3, .int col),(4, .ptr (H.nxt + 0) 1 0 0),(5, .ptr (H.nxt + 1) 6 0 0),(6, .ptr (H.nxt + 2) 2 0 0),(8, .ptr (H.nxt + 3) 6 0 0)])
  (fun k=>[some (.cells 1 [[.sl (c.map encD)]] 0),some (.cells 6 [encQ q] 0),some (.cells 2 [[.int 0, .sl [encT a,encT b]]] 0),some (.cells 6 [encCh (0,plO)] 0),some (.cells 1 [[.rsl (H.nxt + 5) 6 0 (accC W ws k).length]] 0),some (.cells 6 ((accC W ws k).map encCh) 0)]) [some 0,some 1,some 2,some 3,some 4,none] 0 (by omega) rfl ?_ ?_ ?_
 ·(try push_cast -implicitDefEqProofs [eq_self,iff_self,encPls_pure,encQ,encDs_pure,encEs_pure,encIs_pure,if_false,if_true,or_true,or_false,true_or,false_or,List.map_cons,List.map_nil,List.length_cons,List.length_nil,List.set_cons_zero,List.set_cons_succ,List.cons_append,List.nil_append])
 ·(try push_cast -implicitDefEqProofs [eq_self,iff_self,encPls_pure,encQ,encDs_pure,encEs_pure,encIs_pure,accC_zero,encCh,plO,if_false,if_true,or_true,or_false,true_or,false_or,List.map_cons,List.map_nil,List.length_cons,List.length_nil,List.set_cons_zero,List.set_cons_succ,List.cons_append,List.nil_append])
 intro k hk
 have hal:=accC_len hWl ws k
 by_cases hkl:k < ws.length
 ·have hk':((k:Int) < (ws.length:Int)) = True:=by simp; omega
  have hk0:(0 ≤ (k:Int)) = True:=by simp
  have hsn:=accC_snoc W ws hkl
  have hwd:=hWdef ws[k]
  have hget:=encPls_get ws k hkl
  generalize ws[k] = w at hsn hwd hget
  have hMu:=must_ok w col
  have hax:=ha (mustP w col).1
  have hby:=hb (mustP w col).2
  have hCo:=containsI_ok _ hcl2 (mustP w col).1
  obtain ⟨x,y,hxy⟩:∃ x y,mustP w col = (x,y):=⟨_,_,rfl⟩
  rw [hxy] at hwd hMu hax hby hCo
  dsimp only at hwd hMu hax hby hCo
  generalize bestF c q d a x = l at hwd hax
  generalize bestF c q d b y = r at hwd hby
  obtain ⟨ln,lp⟩:=l
  obtain ⟨rn,rp⟩:=r
  dsimp only at hwd
  have hOw':=hOw (.mk w.op w.occ w.a w.b [lp,rp])
  have hoe:ownW c q (.mk w.op w.occ w.a w.b [lp,rp]) sa sb = ownW c q w sa sb:=rfl
  rw [hoe] at hOw'
  generalize ownW c q w sa sb = own at hwd hOw'
  generalize hrow:accC W ws k = row at hsn hal ⊢
  obtain ⟨op,occ,wa,wb,wl⟩:=w
  simp only [Pl.op,Pl.occ,Pl.a,Pl.b] at hwd hOw'
  rw [encPl_mk] at hMu hget
  by_cases hskip:x ≠ -1 ∧ (q.cols c sa).contains x = false
  ·rw [if_pos hskip] at hwd
   rw [hwd,List.append_nil] at hsn
   have hx1:(x = -1) = False:=by simp [hskip.1]
   push_cast -implicitDefEqProofs [eq_self,iff_self,encQ,hk',hk0,hget,if_false,if_true,or_true,or_false,true_or,false_or,List.map_cons,List.map_nil,List.length_cons,List.length_nil,List.set_cons_zero,List.set_cons_succ,List.cons_append,List.nil_append]
   refine callq hMu ?_
   push_cast -implicitDefEqProofs [eq_self,iff_self,encQ,hx1,if_false,if_true,or_true,or_false,true_or,false_or,List.map_cons,List.map_nil,List.length_cons,List.length_nil,List.set_cons_zero,List.set_cons_succ,List.cons_append,List.nil_append]
   refine gcallq' (.sl ((q.cols c sa).map encI)) (fun h=>by simp) (fun _=>hCols) ?_
   push_cast -implicitDefEqProofs [eq_self,iff_self,encQ,hx1,if_false,if_true,or_true,or_false,true_or,false_or,List.map_cons,List.map_nil,List.length_cons,List.length_nil,List.set_cons_zero,List.set_cons_succ,List.cons_append,List.nil_append]
   refine gcallq' (.bool false) (fun h=>by simp) (fun _=>by rw [← hskip.2]; exact hCo) ?_
   push_cast -implicitDefEqProofs [eq_self,iff_self,encQ,hx1,if_false,if_true,or_true,or_false,true_or,false_or,List.map_cons,List.map_nil,List.length_cons,List.length_nil,List.set_cons_zero,List.set_cons_succ,List.cons_append,List.nil_append]
   rw [wrap64 (n:=(k:Int) + 1) (by omega) (by omega)]
   refine next_at [some 0,some 1,some 2,some 3,some 4,some 5] (k + 1) (by omega) (by omega) rfl ?_ ?_
   ·(try push_cast -implicitDefEqProofs [eq_self,iff_self,hsn,encPls_pure,encQ,encDs_pure,encEs_pure,encIs_pure,if_false,if_true,or_true,or_false,true_or,false_or,List.map_cons,List.map_nil,List.length_cons,List.length_nil,List.set_cons_zero,List.set_cons_succ,List.cons_append,List.nil_append])
   ·(try push_cast -implicitDefEqProofs [eq_self,iff_self,hsn,encPls_pure,encQ,encDs_pure,encEs_pure,encIs_pure,if_false,if_true,or_true,or_false,true_or,false_or,List.map_cons,List.map_nil,List.length_cons,List.length_nil,List.set_cons_zero,List.set_cons_succ,List.cons_append,List.nil_append])
    exact encChs_all6 _
  ·rw [if_neg hskip] at hwd
   rw [hwd] at hsn
   have hcnd:(!decide (x = -1) && !(q.cols c sa).contains x) = false:=by
    by_cases h1:x = -1
    ·simp [h1]
    ·have:(q.cols c sa).contains x = true:=by
      rcases Bool.eq_false_or_eq_true ((q.cols c sa).contains x) with h2 | h2
      ·exact h2
      ·exact absurd ⟨h1,h2⟩ hskip
     rw [this]; simp
   push_cast -implicitDefEqProofs [eq_self,iff_self,encQ,hk',hk0,hget,if_false,if_true,or_true,or_false,true_or,false_or,List.map_cons,List.map_nil,List.length_cons,List.length_nil,List.set_cons_zero,List.set_cons_succ,List.cons_append,List.nil_append]
   refine callq hMu ?_
   push_cast -implicitDefEqProofs [eq_self,iff_self,encQ,if_false,if_true,or_true,or_false,true_or,false_or,List.map_cons,List.map_nil,List.length_cons,List.length_nil,List.set_cons_zero,List.set_cons_succ,List.cons_append,List.nil_append]
   refine gcallq' (.sl ((q.cols c sa).map encI)) (fun h=>by simpa using h) (fun _=>hCols) ?_
   push_cast -implicitDefEqProofs [eq_self,iff_self,encQ,if_false,if_true,or_true,or_false,true_or,false_or,List.map_cons,List.map_nil,List.length_cons,List.length_nil,List.set_cons_zero,List.set_cons_succ,List.cons_append,List.nil_append]
   refine gcallq' (.bool ((q.cols c sa).contains x)) (fun h=>by simpa using h) (fun _=>hCo) ?_
   push_cast -implicitDefEqProofs [eq_self,iff_self,encQ,if_false,if_true,or_true,or_false,true_or,false_or,List.map_cons,List.map_nil,List.length_cons,List.length_nil,List.set_cons_zero,List.set_cons_succ,List.cons_append,List.nil_append,hcnd]
   refine areg_at 20 (by kernel_rfl) (by kernel_rfl) ?_
   push_cast -implicitDefEqProofs [eq_self,iff_self,encQ,if_false,if_true,or_true,or_false,true_or,false_or,List.map_cons,List.map_nil,List.length_cons,List.length_nil,List.set_cons_zero,List.set_cons_succ,List.cons_append,List.nil_append]
   refine ahdq hax ?_
   push_cast -implicitDefEqProofs [eq_self,iff_self,encQ,if_false,if_true,or_true,or_false,true_or,false_or,List.map_cons,List.map_nil,List.length_cons,List.length_nil,List.set_cons_zero,List.set_cons_succ,List.cons_append,List.nil_append]
   refine ahdq hby ?_
   push_cast -implicitDefEqProofs [eq_self,iff_self,encQ,encCh,if_false,if_true,or_true,or_false,true_or,false_or,List.map_cons,List.map_nil,List.length_cons,List.length_nil,List.set_cons_zero,List.set_cons_succ,List.cons_append,List.nil_append]
   have hA:=AddK_ok [ln,rn,own] (by simp)
   refine areg_wklink hs [116] 14 [(62, .int k),(61, .int ws.length),(60, .sl (ws.map encPl)),(12, .int sa),(13, .int sb),(10, .clo (.func 120) [] [.ptr (H.nxt + 4) 1 0 0]),(9, .ptr (H.nxt + 4) 1 0 0),(3, .int col),(4, .ptr (H.nxt + 0) 1 0 0),(5, .ptr (H.nxt + 1) 6 0 0),(6, .ptr (H.nxt + 2) 2 0 0),(8, .ptr (H.nxt + 3) 6 0 0),(15, .ptr (H.nxt + 6) 5 0 0),(18, .ptr (H.nxt + 7) 6 0 0),(19, .ptr (H.nxt + 8) 6 0 0)]
    [some (.cells 1 [[.sl (c.map encD)]] 0),some (.cells 6 [encQ q] 0),some (.cells 2 [[.int 0, .sl [encT a,encT b]]] 0),some (.cells 6 [encCh (0,plO)] 0),some (.cells 1 [[.rsl (H.nxt + 5) 6 0 row.length]] 0),some (.cells 6 (row.map encCh) 0),some (.cells 5 [encPl (.mk op occ wa wb [lp,rp])] 0),some (.cells 6 [encCh (ln,lp)] 0),some (.cells 6 [encCh (rn,rp)] 0)] (by kernel_rfl) (by kernel_rfl) ?_ ?_ ?_
   ·(try push_cast -implicitDefEqProofs [eq_self,iff_self,encPls_pure,encQ,encDs_pure,encEs_pure,encIs_pure,if_false,if_true,or_true,or_false,true_or,false_or,List.map_cons,List.map_nil,List.length_cons,List.length_nil,List.set_cons_zero,List.set_cons_succ,List.cons_append,List.nil_append])
   ·(try push_cast -implicitDefEqProofs [eq_self,iff_self,encPls_pure,encQ,encDs_pure,encEs_pure,encIs_pure,encCh,if_false,if_true,or_true,or_false,true_or,false_or,List.map_cons,List.map_nil,List.length_cons,List.length_nil,List.set_cons_zero,List.set_cons_succ,List.cons_append,List.nil_append])
    exact encChs_all6 _
   rw [encPl_mk,List.map_cons,List.map_cons,List.map_nil] at hOw'
   push_cast -implicitDefEqProofs [eq_self,iff_self,encQ,encCh,if_false,if_true,or_true,or_false,true_or,false_or,List.map_cons,List.map_nil,List.length_cons,List.length_nil,List.set_cons_zero,List.set_cons_succ,List.cons_append,List.nil_append]
   refine ahdq hOw' ?_
   push_cast -implicitDefEqProofs [eq_self,iff_self,encQ,encCh,if_false,if_true,or_true,or_false,true_or,false_or,List.map_cons,List.map_nil,List.length_cons,List.length_nil,List.set_cons_zero,List.set_cons_succ,List.cons_append,List.nil_append]
   refine ahdq hA ?_
   push_cast -implicitDefEqProofs [eq_self,iff_self,encQ,encCh,if_false,if_true,or_true,or_false,true_or,false_or,List.map_cons,List.map_nil,List.length_cons,List.length_nil,List.set_cons_zero,List.set_cons_succ,List.cons_append,List.nil_append]
   refine told [.int (addK [ln,rn,own]), .agg (encPl (.mk op occ wa wb [lp,rp])), .ptr (H.nxt + 4) 1 0 0] ?_ ?_
   ·(try push_cast -implicitDefEqProofs [eq_self,iff_self,if_false,if_true,or_true,or_false,true_or,false_or,List.map_cons,List.map_nil,List.length_cons,List.length_nil,List.set_cons_zero,List.set_cons_succ,List.cons_append,List.nil_append])
   refine (put_ok row (by omega) (addK [ln,rn,own]) (.mk op occ wa wb [lp,rp]) (H.nxt + 4) (H.nxt + 5) _ (by omega) (by simp [plus_nxt]) (by simp [plus_nxt]) (by rw [plus_obj]; rfl) (by rw [plus_obj]; rfl)).mono ?_
   rintro r H2 ⟨rfl,rfl⟩
   rw [plus_del _ _ 5,plus_set _ _ 4 _ (by simp),plus_plus]
   push_cast -implicitDefEqProofs [eq_self,iff_self,encQ,encCh,Nat.add_assoc,if_false,if_true,or_true,or_false,true_or,false_or,List.map_cons,List.map_nil,List.length_cons,List.length_nil,List.set_cons_zero,List.set_cons_succ,List.cons_append,List.nil_append]
   have hln:(accC W ws (k + 1)).length = row.length + 1:=by rw [hsn,List.length_append]; rfl
   rw [wrap64 (n:=(k:Int) + 1) (by omega) (by omega),← hsn]
   refine next_at [some 0,some 1,some 2,some 3,some 4,some 11] (k + 1) (by omega) (by omega) rfl ?_ ?_
   ·(try push_cast -implicitDefEqProofs [eq_self,iff_self,hln,encPls_pure,encQ,encDs_pure,encEs_pure,encIs_pure,if_false,if_true,or_true,or_false,true_or,false_or,List.map_cons,List.map_nil,List.length_cons,List.length_nil,List.set_cons_zero,List.set_cons_succ,List.cons_append,List.nil_append])
   ·(try push_cast -implicitDefEqProofs [eq_self,iff_self,hln,encPls_pure,encQ,encDs_pure,encEs_pure,encIs_pure,if_false,if_true,or_true,or_false,true_or,false_or,List.map_cons,List.map_nil,List.length_cons,List.length_nil,List.set_cons_zero,List.set_cons_succ,List.cons_append,List.nil_append])
    exact encChs_all6 _
 ·have hk':((k:Int) < (ws.length:Int)) = False:=by simp; omega
  obtain rfl:k = ws.length:=by omega
  generalize accC W ws ws.length = acc at hal ⊢
  by_cases hc:col = -1
  ·subst hc
   rw [if_pos rfl,List.append_nil]
   have hL:=least_ok acc (by omega)
   push_cast -implicitDefEqProofs [eq_self,iff_self,encQ,hk',if_false,if_true,or_true,or_false,true_or,false_or,List.map_cons,List.map_nil,List.length_cons,List.length_nil,List.set_cons_zero,List.set_cons_succ,List.cons_append,List.nil_append]
   have htk:List.take acc.length (acc.map encCh) = acc.map encCh:=List.take_of_length_le (by simp)
   refine fzk H 5 acc.length [.sl (acc.map encCh), .clo (.func 126) [] []] (by rfl) (by omega) (by simp) ?_ ?_
   ·(try push_cast -implicitDefEqProofs [eq_self,iff_self,htk,encChs_pure,if_false,if_true,or_true,or_false,true_or,false_or,List.map_cons,List.map_nil,List.length_cons,List.length_nil,List.set_cons_zero,List.set_cons_succ,List.cons_append,List.nil_append])
   refine callq hL ?_
   push_cast -implicitDefEqProofs [eq_self,iff_self,encQ,if_false,if_true,or_true,or_false,true_or,false_or,List.map_cons,List.map_nil,List.length_cons,List.length_nil,List.set_cons_zero,List.set_cons_succ,List.cons_append,List.nil_append]
  ·rw [if_neg hc]
   have hc1:(col = -1) = False:=by simp [hc]
   have hB:=hn hc
   have hL:=least_ok (acc ++ [(m,Pl.mk 4 0 col 0 [p])]) (by simp; omega)
   push_cast -implicitDefEqProofs [eq_self,iff_self,encQ,hk',hc1,if_false,if_true,or_true,or_false,true_or,false_or,List.map_cons,List.map_nil,List.length_cons,List.length_nil,List.set_cons_zero,List.set_cons_succ,List.cons_append,List.nil_append]
   refine callq hB ?_
   push_cast -implicitDefEqProofs [eq_self,iff_self,encQ,hc1,encCh,if_false,if_true,or_true,or_false,true_or,false_or,List.map_cons,List.map_nil,List.length_cons,List.length_nil,List.set_cons_zero,List.set_cons_succ,List.cons_append,List.nil_append]
   refine areg_linkim [139] 14 (by kernel_rfl) (by kernel_rfl) ?_
   push_cast -implicitDefEqProofs [eq_self,iff_self,encQ,if_false,if_true,or_true,or_false,true_or,false_or,List.map_cons,List.map_nil,List.length_cons,List.length_nil,List.set_cons_zero,List.set_cons_succ,List.cons_append,List.nil_append]
   refine ahdq hSt ?_
   push_cast -implicitDefEqProofs [eq_self,iff_self,encQ,if_false,if_true,or_true,or_false,true_or,false_or,List.map_cons,List.map_nil,List.length_cons,List.length_nil,List.set_cons_zero,List.set_cons_succ,List.cons_append,List.nil_append]
   refine ahdq hSo' ?_
   push_cast -implicitDefEqProofs [eq_self,iff_self,encQ,if_false,if_true,or_true,or_false,true_or,false_or,List.map_cons,List.map_nil,List.length_cons,List.length_nil,List.set_cons_zero,List.set_cons_succ,List.cons_append,List.nil_append]
   refine told [.int m, .agg (encPl (.mk 4 0 col 0 [p])), .ptr (H.nxt + 4) 1 0 0] ?_ ?_
   ·(try push_cast -implicitDefEqProofs [eq_self,iff_self,if_false,if_true,or_true,or_false,true_or,false_or,List.map_cons,List.map_nil,List.length_cons,List.length_nil,List.set_cons_zero,List.set_cons_succ,List.cons_append,List.nil_append])
   refine (put_ok acc (by omega) m (.mk 4 0 col 0 [p]) (H.nxt + 4) (H.nxt + 5) _ (by omega) (by simp [plus_nxt]) (by simp [plus_nxt]) (by rw [plus_obj]; rfl) (by rw [plus_obj]; rfl)).mono ?_
   rintro r H2 ⟨rfl,rfl⟩
   rw [plus_del _ _ 5,plus_set _ _ 4 _ (by simp),plus_plus]
   push_cast -implicitDefEqProofs [eq_self,iff_self,encQ,Nat.add_assoc,if_false,if_true,or_true,or_false,true_or,false_or,List.map_cons,List.map_nil,List.length_cons,List.length_nil,List.set_cons_zero,List.set_cons_succ,List.cons_append,List.nil_append]
   have hlen:(acc ++ [(m,Pl.mk 4 0 col 0 [p])]).length = acc.length + 1:=by rw [List.length_append]; rfl
   generalize acc ++ [(m,Pl.mk 4 0 col 0 [p])] = acc' at hL hlen ⊢
   have htk:List.take (acc.length + 1) (acc'.map encCh) = acc'.map encCh:=List.take_of_length_le (by simp; omega)
   refine fzk H 9 (acc.length + 1) [.sl (acc'.map encCh), .clo (.func 126) [] []] (by rfl) (by omega) (by simp; omega) ?_ ?_
   ·(try push_cast -implicitDefEqProofs [eq_self,iff_self,htk,encChs_pure,if_false,if_true,or_true,or_false,true_or,false_or,List.map_cons,List.map_nil,List.length_cons,List.length_nil,List.set_cons_zero,List.set_cons_succ,List.cons_append,List.nil_append])
    try omega
   refine callq hL ?_
   push_cast -implicitDefEqProofs [eq_self,iff_self,encQ,encCh,encPl_drop,if_false,if_true,or_true,or_false,true_or,false_or,List.map_cons,List.map_nil,List.length_cons,List.length_nil,List.set_cons_zero,List.set_cons_succ,List.cons_append,List.nil_append]
end
section
attribute [local push_cast] encPl_mk encPl_take encPl_len encPl_one encPls_pure encPl_pure encT_pure encT_len encT_one encT_take encCh_take encCh_drop encCh_len encCh_one encCh_pure encChs_pure
theorem best_ok (c:List Df) (hcl:c.length ≤ 1000000) (q:Qy) (hq:q.Ok) (hp8:q.p.length ≤ 8):∀ (d:Nat) (t:Tr) (col:Int),t.Ok → (setT d t).2 = true → BestAt c q d t col:=by
 intro d
 induction d with
 | zero=>intro t col _ h; simp [setT] at h
 | succ d ih =>
 have none:∀ t:Tr,t.Ok → (setT (d + 1) t).2 = true → BestAt c q (d + 1) t (-1):=by
  intro t hok hs
  rcases tr_form hs with ⟨o,rfl⟩ | ⟨a,b,rfl⟩
  ·exact bestLeaf_ok c hcl q hq d o
  ·obtain ⟨_,hlo⟩:=hok
   obtain ⟨sx,sy,_⟩:=setT_join hs
   exact bestJoin_ok c hcl q hq hp8 d a b (hlo a (by simp)) (hlo b (by simp)) (-1) (fun x=>ih a x (hlo a (by simp)) sx) (fun x=>ih b x (hlo b (by simp)) sy) (fun h=>absurd rfl h)
 intro t col hok hs
 by_cases hc:col = -1
 ·rw [hc]; exact none t hok hs
 ·have hN:=none t hok hs
  rcases tr_form hs with ⟨o,rfl⟩ | ⟨a,b,rfl⟩
  ·exact bestLeafS_ok c hcl q hq d o col hc hN
  ·obtain ⟨_,hlo⟩:=hok
   obtain ⟨sx,sy,_⟩:=setT_join hs
   exact bestJoin_ok c hcl q hq hp8 d a b (hlo a (by simp)) (hlo b (by simp)) col (fun x=>ih a x (hlo a (by simp)) sx) (fun x=>ih b x (hlo b (by simp)) sy) (fun _=>hN)
def validT (c:List Df) (q:Qy) (t:Tr) (col:Int):Bool:=q.may c && t.may && decide (t.set < 2 ^ q.occ.length) && (decide (col = -1) || (q.cols c t.set).contains col)
def bestR (c:List Df) (q:Qy) (t:Tr) (col:Int):Int × Pl × Bool:=if validT c q t col then ((bestF c q 4 t col).1,(bestF c q 4 t col).2,true) else (0,plO,false)
set_option maxHeartbeats 4000000 in
theorem Best_ok (c:List Df) (hcl:c.length ≤ 1000000) (q:Qy) (hq:q.Ok) (hp8:q.p.length ≤ 8) (t:Tr) (hok:t.Ok) (col:Int):Quiet Go.Proofs.Tryz.prog 24 [.agg [.sl (c.map encD)], .agg (encQ q), .agg (encT t), .int col] (.tup [.int (bestR c q t col).1, .agg (encPl (bestR c q t col).2.1), .bool (bestR c q t col).2.2]):=by
 have hM:=MayQ_ok c hcl q hq
 have hT:=MayT_ok t hok
 have hS:=SetT_ok t hok
 have hC:=ColsQ_ok c hcl q hq t.set
 have hcl2:(q.cols c t.set).length ≤ 1000000:=by
  unfold Qy.cols
  split
  ·have:=colsIn_le c q (bitI t.set); omega
  ·simp
 have hH:=containsI_ok _ hcl2 col
 have hv:validT c q t col = !(!q.may c || !t.may || decide (0 < bshr .i64 t.set q.occ.length) || (!decide (col = -1) && !(q.cols c t.set).contains col)):=by
  unfold validT
  cases hm:q.may c
  ·rfl
  have hn:=may_len hm
  have e:decide (t.set < 2 ^ q.occ.length) = !decide (0 < bshr .i64 t.set q.occ.length):=by
   rw [← decide_not,decide_eq_decide]
   exact (shr_iff hn).symm
  rw [e]
  cases t.may <;> cases decide (0 < bshr .i64 t.set q.occ.length) <;> cases decide (col = -1) <;> simp
 have hB:validT c q t col = true → BestAt c q 4 t col:=fun h=>by
  unfold validT at h
  simp only [Bool.and_eq_true] at h
  exact best_ok c hcl q hq hp8 4 t col hok h.1.1.2
 unfold bestR
 unfold BestAt at hB
 generalize bestF c q 4 t col = x at hB ⊢
 obtain ⟨n,p⟩:=x
 generalize validT c q t col = v at hv hB ⊢
 generalize q.may c = m at hM hv
 generalize (q.cols c t.set).contains col = has at hH hv
 generalize q.cols c t.set = cols at hC hH
 generalize t.may = tm at hT hv
 refine quiet_of (rs:=#[.tmp 8, .cell 9 32, .tmp 10]) Go.Proofs.Tryz.func24 rfl rfl rfl mixed rfl rfl fun H hs=>?_
 push_cast -implicitDefEqProofs [eq_self,iff_self,encQ,encT_take,encT_len,encT_one]
 refine areg_at 32 (by kernel_rfl) (by kernel_rfl) ?_
 push_cast -implicitDefEqProofs [eq_self,iff_self,encQ]
 refine ahdq hM ?_
 push_cast -implicitDefEqProofs [eq_self,iff_self,encQ]
 refine gcallq (.bool tm) (fun _=>hT) ?_
 push_cast -implicitDefEqProofs [eq_self,iff_self,encQ]
 refine gcallq (.int t.set) (fun _=>hS) ?_
 push_cast -implicitDefEqProofs [eq_self,iff_self,encQ]
 refine ⟨fun _=>by omega,gcallq (.int t.set) (fun _=>hS) ?_⟩
 push_cast -implicitDefEqProofs [eq_self,iff_self,encQ]
 refine gcallq (.sl (cols.map encI)) (fun _=>hC) ?_
 push_cast -implicitDefEqProofs [eq_self,iff_self,encQ]
 refine gcallq (.bool has) (fun _=>hH) ?_
 push_cast -implicitDefEqProofs [eq_self,iff_self,encQ]
 generalize bshr .i64 t.set q.occ.length = bs at hv ⊢
 refine ⟨?_,fun h=>?_,fun h=>?_⟩
 ·exact fun h1 h2=>by rw [h1,decide_eq_false h2]; rfl
 ·rw [h] at hv
  subst hv
  push_cast -implicitDefEqProofs [eq_self,iff_self,encQ,plO,Bool.not_true,Bool.false_eq_true,if_false]
 ·rw [h] at hv
  subst hv
  push_cast -implicitDefEqProofs [eq_self,iff_self,encQ,Bool.not_false,if_true]
  refine callq (hB rfl) ?_
  push_cast -implicitDefEqProofs [eq_self,iff_self,encQ,encCh]
  refine areg_at 5 (by kernel_rfl) (by kernel_rfl) ?_
  push_cast -implicitDefEqProofs [eq_self,iff_self,encQ]
end
section
attribute [local push_cast] encE_mk encE_take encE_len encV encE_one encEs_pure encE_pure
def catTwo:List Df:=[⟨2,100⟩,⟨1,10⟩]
def rowsTwo:AV:=.sl [[.sl [[.sl [[.int 0, .int 1],[.int 0, .int 2]]],[.sl [[.int 0, .int 3],[.int 0, .int 4]]]]],[.sl [[.sl [[.int 0, .int 4]]]]]]
theorem Two_ok:Quiet Go.Proofs.Tryz.prog 39 [] (.tup [.agg [.sl (catTwo.map encD)], .agg [rowsTwo]]):=by
 refine quiet_of (rs:=#[.cell 0 24, .cell 1 75]) Go.Proofs.Tryz.func39 rfl rfl rfl mixed rfl rfl fun H hs=>?_
 push_cast -implicitDefEqProofs [eq_self,iff_self]
 (try push_cast -implicitDefEqProofs [eq_self,iff_self,catTwo,rowsTwo,List.map_cons,List.map_nil,encD])
def fewQ (c:List Df) (q:Qy):Bool:=decide (c.length ≤ 10) && decide (q.occ.length ≤ 20) && decide (q.p.length ≤ 8) && decide (q.sums.length ≤ 20) && decide (q.out.length ≤ 20) && q.p.all fun e=>decide (sz e 60 ≤ 60)
def Qy.Raw (q:Qy) (c:List Df):Prop:=c.length ≤ 140737488355328 ∧ q.occ.length ≤ 140737488355328 ∧ q.p.length ≤ 140737488355328 ∧ q.sums.length ≤ 140737488355328 ∧ q.out.length ≤ 140737488355328 ∧ ∀ e ∈ q.p,e.Ok
theorem few5_ok (c:List Df) (q:Qy) (hr:q.Raw c):Quiet Go.Proofs.Tryz.prog 41 [.agg [.sl (c.map encD)], .agg (encQ q)] (.bool (fewQ c q)):=by
 obtain ⟨h1,h2,h3,h4,h5,hok⟩:=hr
 refine quiet_of (rs:=#[.tmp 4]) Go.Proofs.Tryz.func41 rfl rfl rfl mixed rfl rfl fun H hs=>?_
 push_cast -implicitDefEqProofs [eq_self,iff_self,encQ]
 obtain ⟨hd,hhd⟩:∃ hd:Bool,hd = (decide ((c.length:Int) ≤ 10) && decide ((q.occ.length:Int) ≤ 20) && decide ((q.p.length:Int) ≤ 8) && decide ((q.sums.length:Int) ≤ 20) && decide ((q.out.length:Int) ≤ 20)):=⟨_,rfl⟩
 rw [← hhd]
 have hf:fewQ c q = (hd && q.p.all fun e=>decide (sz e 60 ≤ 60)):=by
  have ic:∀ m n:Nat,decide ((m:Int) ≤ (n:Int)) = decide (m ≤ n):=fun m n=>by rw [decide_eq_decide]; omega
  have i1:=ic c.length 10
  have i2:=ic q.occ.length 20
  have i3:=ic q.p.length 8
  have i4:=ic q.sums.length 20
  have i5:=ic q.out.length 20
  simp only [Int.cast_ofNat_Int] at i1 i2 i3 i4 i5
  rw [hhd,i1,i2,i3,i4,i5]
  rfl
 rw [hf]
 clear hf hhd
 have htk:∀ i,(h:i < q.p.length) → (q.p.take (i + 1)).all (fun e=>decide (sz e 60 ≤ 60)) = ((q.p.take i).all (fun e=>decide (sz e 60 ≤ 60)) && decide (sz q.p[i] 60 ≤ 60)):=fun i h=>by
  rw [List.take_succ_eq_append_getElem h,List.all_append,List.all_cons,List.all_nil,Bool.and_true]
 refine loop_at hs (σ:=Nat) (fun i=>i ≤ q.p.length) (fun i=>q.p.length - i)
  (fun i=>[(6, .int i),(5, .bool (hd && (q.p.take i).all fun e=>decide (sz e 60 ≤ 60))),(3, .ptr (H.nxt + 1) 6 0 0)]) (fun i=>[none,some (.cells 6 [encQ q] 0)]) [some 0,some 1] 0 (by omega) rfl ?_ ?_ ?_
 ·(try push_cast -implicitDefEqProofs [eq_self,iff_self,List.take_zero,List.all_nil,encEs_pure,encIs_pure,encQ])
 ·(try push_cast -implicitDefEqProofs [eq_self,iff_self,encEs_pure,encIs_pure,encQ])
 intro i hi2
 by_cases hi:i < q.p.length
 ·have hi':((i:Int) < (q.p.length:Int)) = True:=by simp; omega
  have hi0:(0 ≤ (i:Int)) = True:=by simp
  cases hfi:(hd && (q.p.take i).all fun e=>decide (sz e 60 ≤ 60))
  ·push_cast -implicitDefEqProofs [eq_self,iff_self,hi',encQ]
   rcases Bool.and_eq_false_iff.1 hfi with h | h
   ·rw [h]; rfl
   ·have:q.p.all (fun e=>decide (sz e 60 ≤ 60)) = false:=by
     rw [List.all_eq_false] at h ⊢
     obtain ⟨x,hx,h⟩:=h
     exact ⟨x,List.mem_of_mem_take hx,h⟩
    rw [this,Bool.and_false]
  ·push_cast -implicitDefEqProofs [eq_self,iff_self,hi',hi0,encEs_get q.p i hi,encQ]
   refine callq (few_ok _ (hok _ (List.getElem_mem hi)) 60 (by omega) (by omega)) ?_
   push_cast -implicitDefEqProofs [eq_self,iff_self,encQ]
   rw [wrap64 (n:=(i:Int) + 1) (by omega) (by omega)]
   have hnx:(hd && (q.p.take (i + 1)).all fun e=>decide (sz e 60 ≤ 60)) = decide (sz q.p[i] 60 ≤ 60):=by
    rw [htk i hi,← Bool.and_assoc,hfi,Bool.true_and]
   refine next_at [none,some 1] (i + 1) (by omega) (by omega) rfl ?_ ?_
   ·(try push_cast -implicitDefEqProofs [eq_self,iff_self,hnx,encEs_pure,encIs_pure,encQ])
   ·(try push_cast -implicitDefEqProofs [eq_self,iff_self,encEs_pure,encIs_pure,encQ])
 ·have hi':((i:Int) < (q.p.length:Int)) = False:=by simp; omega
  obtain rfl:i = q.p.length:=by omega
  push_cast -implicitDefEqProofs [eq_self,iff_self,hi',encQ,List.take_length]
theorem Far_ok (c:List Df) (q:Qy) (hr:q.Raw c):Quiet Go.Proofs.Tryz.prog 11 [.agg [.sl (c.map encD)], .agg (encQ q)] (.int (if fewQ c q then 0 else 1)):=by
 have hf:=few5_ok c q hr
 refine quiet_of (rs:=#[.tmp 4]) Go.Proofs.Tryz.func11 rfl rfl rfl mixed rfl rfl fun H hs=>?_
 simp only [encQ] at hf
 push_cast -implicitDefEqProofs [eq_self,iff_self,encQ]
 refine callq hf ?_
 push_cast -implicitDefEqProofs [eq_self,iff_self,encQ]
 refine ⟨fun h=>by rw [h]; rfl,fun h=>by rw [h]; rfl⟩
theorem szL_ge:∀ (l:List Ex) (m n:Int),0 ≤ m → n ≤ szL l m n
 | [],_,n,_=>by rw [szL]; exact Int.le_refl _
 | x :: l,m,n,h0=>by
  rw [szL]
  split
  ·have:=sz_bound x (m - n) (by omega)
   have:=szL_ge l m (n + sz x (m - n)) h0
   omega
  ·exact Int.le_refl _
mutual
theorem sz_cnt:∀ (e:Ex) (m:Int),0 ≤ m → sz e m ≤ m → sz e m = cnt e
 | .mk _ _ _ _ l,m,h0,h=>by
  have h1:=szL_ge l m 1 h0
  rw [sz] at h ⊢
  rw [cnt,szL_cnt l m 1 h0 (by omega) h]
  omega
theorem szL_cnt:∀ (l:List Ex) (m n:Int),0 ≤ m → n ≤ m → szL l m n ≤ m → szL l m n = n + cntL l
 | [],m,n,_,h0,h=>by rw [szL,cntL]; omega
 | x :: l,m,n,h1,h0,h=>by
  rw [szL,if_pos h0] at h ⊢
  have h2:=szL_ge l m (n + sz x (m - n)) h1
  have h3:=sz_cnt x (m - n) (by omega) (by omega)
  rw [szL_cnt l m _ h1 (by omega) h,cntL]
  omega
end
theorem fewQ_split {c:List Df} {q:Qy} (h:fewQ c q = true):c.length ≤ 10 ∧ q.occ.length ≤ 20 ∧ q.p.length ≤ 8 ∧ q.sums.length ≤ 20 ∧ q.out.length ≤ 20 ∧ ∀ e ∈ q.p,cnt e ≤ 60:=by
 unfold fewQ at h
 simp only [Bool.and_eq_true,decide_eq_true_eq,List.all_eq_true] at h
 obtain ⟨⟨⟨⟨⟨h1,h2⟩,h3⟩,h4⟩,h5⟩,h6⟩:=h
 refine ⟨h1,h2,h3,h4,h5,fun e he=>?_⟩
 have:=sz_cnt e 60 (by omega) (h6 e he)
 have:=h6 e he
 omega
theorem ok_of_few {c:List Df} {q:Qy} (hr:q.Raw c) (h:fewQ c q = true):q.Ok:=by
 obtain ⟨h1,h2,h3,h4,h5,h6⟩:=fewQ_split h
 exact ⟨by omega,fun e he=>⟨hr.2.2.2.2.2 e he,Nat.le_trans (h6 e he) (by omega)⟩,by omega,by omega,by omega⟩
theorem cols_of {e:Ex} {l:List Int} (hm:e.may = true) (hl:l.Pairwise (· < ·)) (h:e.colsAll = l):e.cols = l:=by
 rw [Ex.cols,if_pos hm,h]
 exact pw_ext (uniq_pw l) hl fun x=>uniq_mem l x
theorem exOk2 {op col k n:Int} {a b:Ex} (ha:a.Ok) (hb:b.Ok):Ex.Ok (.mk op col k n [a,b]):=.mk (by simp) (by
 intro x hx
 simp only [List.mem_cons,List.not_mem_nil,or_false] at hx
 rcases hx with rfl | rfl
 ·exact ha
 ·exact hb)
theorem exOk0 {op col k n:Int}:Ex.Ok (.mk op col k n []):=.mk (by decide) (by simp)
end
section
theorem shp_V2 {n:Nat} {vs:List AV} (h:Shp Go.Proofs.Tryz.prog n 60 vs):∃ v:Vl,vs = encV v ∧ In64 v.n:=by
 obtain ⟨m,parts,_,rfl,hl,hp⟩:=shp_struct Go.Proofs.Tryz.underlying60 h
 match parts,hl with
 | [p0,p1],_ =>
  obtain ⟨k,rfl,_⟩:=shp_int Go.Proofs.Tryz.underlying3 (hp 0 _ p0 rfl rfl).2
  obtain ⟨n,rfl,hn⟩:=shp_int Go.Proofs.Tryz.underlying3 (hp 1 _ p1 rfl rfl).2
  exact ⟨⟨k,n⟩,rfl,wf64 hn⟩
theorem shp_E2:∀ (n:Nat) {vs:List AV},Shp Go.Proofs.Tryz.prog n 62 vs → ∃ e:Ex,vs = encE e ∧ (e.Ok ∧ e.In):=by
 intro n
 induction n using Nat.strongRecOn with
 | ind n ih =>
 intro vs h
 obtain ⟨m,parts,hn,rfl,hl,hp⟩:=shp_struct Go.Proofs.Tryz.underlying62 h
 match parts,hl with
 | [p0,p1,p2,p3],_ =>
  obtain ⟨op,rfl,_⟩:=shp_int Go.Proofs.Tryz.underlying3 (hp 0 _ p0 rfl rfl).2
  obtain ⟨col,rfl,_⟩:=shp_int Go.Proofs.Tryz.underlying3 (hp 1 _ p1 rfl rfl).2
  obtain ⟨⟨k,n'⟩,rfl,hv⟩:=shp_V2 (hp 2 _ p2 rfl rfl).2
  obtain ⟨m',es,hm,rfl,hle,hpe⟩:=shp_slice Go.Proofs.Tryz.underlying26 (hp 3 _ p3 rfl rfl).2
  rw [bytesE] at hle
  obtain ⟨l,rfl,hq⟩:=map_of (f:=encE) (q:=fun e=>e.Ok ∧ e.In) fun x hx=>ih m' (by omega) (hpe x hx).2
  refine ⟨.mk op col k n' l,by rw [encE_mk]; rfl, .mk ?_ fun x hx=>(hq x hx).1, .mk hv fun x hx=>(hq x hx).2⟩
  simp [reachBytes] at hle
  omega
end
section
theorem bytesD:Program.bytesOf Go.Proofs.Tryz.prog 58 = 16:=by kernel_rfl
theorem shp_D {n:Nat} {vs:List AV} (h:Shp Go.Proofs.Tryz.prog n 58 vs):∃ d:Df,vs = encD d ∧ (In64 d.cols ∧ In64 d.rows):=by
 obtain ⟨m,parts,_,rfl,hl,hp⟩:=shp_struct Go.Proofs.Tryz.underlying58 h
 match parts,hl with
 | [p0,p1],_ =>
  obtain ⟨k,rfl,hk⟩:=shp_int Go.Proofs.Tryz.underlying3 (hp 0 _ p0 rfl rfl).2
  obtain ⟨n,rfl,hn⟩:=shp_int Go.Proofs.Tryz.underlying3 (hp 1 _ p1 rfl rfl).2
  exact ⟨⟨k,n⟩,rfl,wf64 hk,wf64 hn⟩
theorem shp_Ds {n:Nat} {vs:List AV} (h:Shp Go.Proofs.Tryz.prog n 22 vs):∃ l:List Df,vs = [.sl (l.map encD)] ∧ l.length ≤ 140737488355328 ∧ ∀ d ∈ l,In64 d.cols ∧ In64 d.rows:=by
 obtain ⟨m,es,_,rfl,hl,hp⟩:=shp_slice Go.Proofs.Tryz.underlying22 h
 rw [bytesD] at hl
 obtain ⟨l,rfl,hq⟩:=map_of (f:=encD) (q:=fun d=>In64 d.cols ∧ In64 d.rows) fun x hx=>shp_D (hp x hx).2
 exact ⟨l,rfl,by simp [reachBytes] at hl; omega,hq⟩
theorem shp_C {n:Nat} {vs:List AV} (h:Shp Go.Proofs.Tryz.prog n 24 vs):∃ l:List Df,vs = [.sl (l.map encD)] ∧ l.length ≤ 140737488355328 ∧ ∀ d ∈ l,In64 d.cols ∧ In64 d.rows:=by
 obtain ⟨m,parts,_,rfl,hl,hp⟩:=shp_struct Go.Proofs.Tryz.underlying24 h
 match parts,hl with
 | [p0],_ =>
  obtain ⟨l,rfl,h1,h2⟩:=shp_Ds (hp 0 _ p0 rfl rfl).2
  exact ⟨l,rfl,h1,h2⟩
theorem shp_Is2 {n:Nat} {vs:List AV} (h:Shp Go.Proofs.Tryz.prog n 25 vs):∃ l:List Int,vs = [.sl (l.map encI)] ∧ l.length ≤ 140737488355328 ∧ ∀ x ∈ l,In64 x:=by
 obtain ⟨m,es,_,rfl,hl,hp⟩:=shp_slice Go.Proofs.Tryz.underlying25 h
 rw [bytesI] at hl
 obtain ⟨l,rfl,hq⟩:=map_of (f:=encI) (q:=fun x=>In64 x) fun x hx=>let ⟨v,hv,hw⟩:=shp_int Go.Proofs.Tryz.underlying3 (hp x hx).2; ⟨v,hv,wf64 hw⟩
 exact ⟨l,rfl,by simp [reachBytes] at hl; omega,hq⟩
theorem shp_Es {n:Nat} {vs:List AV} (h:Shp Go.Proofs.Tryz.prog n 26 vs):∃ l:List Ex,vs = [.sl (l.map encE)] ∧ l.length ≤ 140737488355328 ∧ ∀ e ∈ l,e.Ok ∧ e.In:=by
 obtain ⟨m,es,_,rfl,hl,hp⟩:=shp_slice Go.Proofs.Tryz.underlying26 h
 rw [bytesE] at hl
 obtain ⟨l,rfl,hq⟩:=map_of (f:=encE) (q:=fun e=>e.Ok ∧ e.In) fun x hx=>shp_E2 m (hp x hx).2
 exact ⟨l,rfl,by simp [reachBytes] at hl; omega,hq⟩
def Qy.In2 (q:Qy):Prop:=q.In ∧ (∀ x ∈ q.occ,In64 x) ∧ In64 q.ord
theorem shp_Q {n:Nat} {vs:List AV} (h:Shp Go.Proofs.Tryz.prog n 28 vs) (c:List Df) (hc:c.length ≤ 140737488355328):∃ q:Qy,vs = encQ q ∧ q.Raw c ∧ q.In2:=by
 obtain ⟨m,parts,_,rfl,hl,hp⟩:=shp_struct Go.Proofs.Tryz.underlying28 h
 match parts,hl with
 | [p0,p1,p2,p3,p4,p5],_ =>
  obtain ⟨occ,rfl,h0,i0⟩:=shp_Is2 (hp 0 _ p0 rfl rfl).2
  obtain ⟨p,rfl,h1,i1⟩:=shp_Es (hp 1 _ p1 rfl rfl).2
  obtain ⟨by_,rfl,i2⟩:=shp_int Go.Proofs.Tryz.underlying3 (hp 2 _ p2 rfl rfl).2
  obtain ⟨sums,rfl,h3,i3⟩:=shp_Is2 (hp 3 _ p3 rfl rfl).2
  obtain ⟨out,rfl,h4,i4⟩:=shp_Is2 (hp 4 _ p4 rfl rfl).2
  obtain ⟨ord,rfl,i5⟩:=shp_int Go.Proofs.Tryz.underlying3 (hp 5 _ p5 rfl rfl).2
  exact ⟨⟨occ,p,by_,sums,out,ord⟩,rfl,⟨hc,h0,h1,h3,h4,fun e he=>(i1 e he).1⟩,⟨i4,i3,wf64 i2⟩,i0,wf64 i5⟩
theorem asV_C (vs:List AV):asV Go.Proofs.Tryz.prog 24 vs = .agg vs:=by simp only [asV,Go.Proofs.Tryz.underlying24]
theorem asV_Q (vs:List AV):asV Go.Proofs.Tryz.prog 28 vs = .agg vs:=by simp only [asV,Go.Proofs.Tryz.underlying28]
theorem told_CQ {ts:List TypeId} {us:List AV} (h:ToldAll Go.Proofs.Tryz.prog (24 :: 28 :: ts) us) :
  ∃ (c:List Df) (q:Qy) (us':List AV),us = .agg [.sl (c.map encD)] :: .agg (encQ q) :: us' ∧ (c.length ≤ 140737488355328 ∧ ∀ d ∈ c,In64 d.cols ∧ In64 d.rows) ∧ q.Raw c ∧ q.In2 ∧ ToldAll Go.Proofs.Tryz.prog ts us':=by
 simp only [ToldAll] at h
 obtain ⟨n,vs,us1,rfl,h1,n2,vs2,us2,rfl,h2,h3⟩:=h
 obtain ⟨c,rfl,hc,hc2⟩:=shp_C h1
 obtain ⟨q,rfl,hq,hq2⟩:=shp_Q h2 c hc
 exact ⟨c,q,us2,by rw [asV_C,asV_Q],⟨hc,hc2⟩,hq,hq2,h3⟩
theorem told_nil {us:List AV} (h:ToldAll Go.Proofs.Tryz.prog [] us):us = []:=by simpa only [ToldAll] using h
end
section
attribute [local push_cast] encE_mk encE_take encE_len encV encE_one encEs_pure encE_pure
def pair9:Ex:=.mk 6 0 0 0 [.mk 1 0 0 0 [], .mk 1 4 0 0 []]
def oneQ9:Qy:=⟨[0,1],[pair9],-1,[],[0],-1⟩
theorem pair9_cols:pair9.cols = [0,4]:=cols_of (by decide) (by decide) (by decide)
theorem pair9_set:setE pair9 = 3:=by unfold setE hasOcc; rw [pair9_cols]; decide +kernel
theorem oneQ9_p:oneQ9.p = [pair9]:=rfl
theorem oneQ9_may:oneQ9.may catTwo = true:=by
 unfold Qy.may
 rw [oneQ9_p]
 simp only [List.all_cons,List.all_nil,exIn,pair9_cols]
 decide +kernel
theorem oneQ9_idx (f:Ex → Bool):idxF f oneQ9.p = (if f pair9 then [0] else []):=by
 rw [oneQ9_p]
 cases h1:f pair9 <;> simp [idxF,upto,List.range_succ,h1]
theorem oneQ9_own (s:Int):oneQ9.own s = (if holdsI s 3 then [0] else []):=by
 rw [Qy.own,oneQ9_idx]
 simp only [ownT,pair9_set]
theorem oneQ9_rows (s:Int):rowsQ catTwo oneQ9 s = max 1 (times (rowsL catTwo oneQ9 s) / prodI ((if holdsI s 3 then [0] else []).map fun i:Int=>wE (oneQ9.p.getD i.toNat exO))):=by
 rw [rowsQ,if_pos oneQ9_may,Qy.fewer,oneQ9_own]
theorem oneQ9_1:rowsQ catTwo oneQ9 1 = 100:=by rw [oneQ9_rows]; decide +kernel
theorem oneQ9_b:baseR catTwo oneQ9 1 = 10:=by
 rw [baseR,if_pos ⟨oneQ9_may,by decide,by decide⟩]
 decide +kernel
theorem pair9_ok:pair9.Ok:=exOk2 exOk0 exOk0
theorem oneQ9_raw (c:List Df) (hc:c.length ≤ 140737488355328):oneQ9.Raw c:=by
 refine ⟨hc,by decide,by decide,by decide,by decide, ?_⟩
 rw [oneQ9_p]
 intro e he
 simp only [List.mem_cons,List.not_mem_nil,or_false] at he
 subst he
 exact pair9_ok
theorem oneQ9_few:fewQ catTwo oneQ9 = true:=by decide
theorem oneQ9_ok:oneQ9.Ok:=ok_of_few (oneQ9_raw catTwo (by decide)) oneQ9_few
end
section
attribute [local push_cast] encPl_mk encPl_take encPl_len encPl_one encPls_pure encPl_pure encT_pure encT_len encT_one encT_take
def q11:Qy:=⟨[0,1],[],-1,[],[0],-1⟩
def p11:Pl:=.mk 1 0 0 0 [.mk 0 0 0 0 [], .mk 0 1 0 0 []]
theorem bytesPl:Program.bytesOf Go.Proofs.Tryz.prog 32 = 56:=by kernel_rfl
theorem shp_I2 {n:Nat} {vs:List AV} (h:Shp Go.Proofs.Tryz.prog n 29 vs):∃ a b:Int,vs = [.int a, .int b]:=by
 obtain ⟨m,parts,_,rfl,hl,hp⟩:=shp_array Go.Proofs.Tryz.underlying29 h
 match parts,hl with
 | [p0,p1],_ =>
  obtain ⟨a,rfl,_⟩:=shp_int Go.Proofs.Tryz.underlying3 (hp p0 (by simp)).2
  obtain ⟨b,rfl,_⟩:=shp_int Go.Proofs.Tryz.underlying3 (hp p1 (by simp)).2
  exact ⟨a,b,rfl⟩
theorem shp_Pl:∀ (n:Nat) {vs:List AV},Shp Go.Proofs.Tryz.prog n 32 vs → ∃ p:Pl,vs = encPl p ∧ p.Ok:=by
 intro n
 induction n using Nat.strongRecOn with
 | ind n ih =>
 intro vs h
 obtain ⟨m,parts,hn,rfl,hl,hp⟩:=shp_struct Go.Proofs.Tryz.underlying32 h
 match parts,hl with
 | [p0,p1,p2,p3],_ =>
  obtain ⟨op,rfl,_⟩:=shp_int Go.Proofs.Tryz.underlying3 (hp 0 _ p0 rfl rfl).2
  obtain ⟨occ,rfl,_⟩:=shp_int Go.Proofs.Tryz.underlying3 (hp 1 _ p1 rfl rfl).2
  obtain ⟨a,b,rfl⟩:=shp_I2 (hp 2 _ p2 rfl rfl).2
  obtain ⟨m',es,hm,rfl,hle,hpe⟩:=shp_slice Go.Proofs.Tryz.underlying30 (hp 3 _ p3 rfl rfl).2
  rw [bytesPl] at hle
  obtain ⟨l,rfl,hq⟩:=map_of (f:=encPl) (q:=fun e=>e.Ok) fun x hx=>ih m' (by omega) (hpe x hx).2
  refine ⟨.mk op occ a b l,by rw [encPl_mk]; rfl, .mk ?_ fun x hx=>hq x hx⟩
  simp [reachBytes] at hle
  omega
theorem shp_W {n:Nat} {vs:List AV} (h:Shp Go.Proofs.Tryz.prog n 34 vs):∃ (p:Pl) (e:Int) (s:Bool),vs = encW p e s ∧ p.Ok:=by
 obtain ⟨m,parts,hn,rfl,hl,hp⟩:=shp_struct Go.Proofs.Tryz.underlying34 h
 match parts,hl with
 | [p0,p1,p2],_ =>
  obtain ⟨p,rfl,hok⟩:=shp_Pl _ (hp 0 _ p0 rfl rfl).2
  obtain ⟨e,rfl,_⟩:=shp_int Go.Proofs.Tryz.underlying3 (hp 1 _ p1 rfl rfl).2
  obtain ⟨s,rfl⟩:=shp_bool Go.Proofs.Tryz.underlying4 (hp 2 _ p2 rfl rfl).2
  exact ⟨p,e,s,by simp [encW],hok⟩
theorem asV_W (vs:List AV):asV Go.Proofs.Tryz.prog 34 vs = .agg vs:=by simp only [asV,Go.Proofs.Tryz.underlying34]
theorem told_W {ts:List TypeId} {us:List AV} (h:ToldAll Go.Proofs.Tryz.prog (34 :: ts) us):∃ (p:Pl) (e:Int) (s:Bool) (us':List AV),us = .agg (encW p e s) :: us' ∧ p.Ok ∧ ToldAll Go.Proofs.Tryz.prog ts us':=by
 simp only [ToldAll] at h
 obtain ⟨n,vs,us1,rfl,h1,h3⟩:=h
 obtain ⟨p,e,s,rfl,hk⟩:=shp_W h1
 exact ⟨p,e,s,us1,by rw [asV_W],hk,h3⟩
end
section
attribute [local push_cast] encPl_mk encPl_take encPl_len encPl_one encPls_pure encPl_pure encT_pure encT_len encT_one encT_take
theorem Two13_ok:Quiet Go.Proofs.Tryz.prog 40 [] (.agg (encQ oneQ9)):=by
 refine quiet_of (rs:=#[.cell 0 28]) Go.Proofs.Tryz.func40 rfl rfl rfl mixed rfl rfl fun H hs=>?_
 push_cast -implicitDefEqProofs [eq_self,iff_self]
 (try push_cast -implicitDefEqProofs [eq_self,iff_self,oneQ9,pair9,encQ,encI,encE_mk,List.map_cons,List.map_nil])
theorem leafV (c:List Df) (q:Qy) (d:Nat) (o:Int):bestF c q (d + 1) (.leaf o) (-1) = (costP c q (.mk 0 o 0 0 []), .mk 0 o 0 0 []):=by rw [bestF,if_pos rfl]; rfl
theorem leafS (c:List Df) (q:Qy) (d:Nat) (o col:Int) (hcol:col ≠ -1):bestF c q (d + 1) (.leaf o) col = sortC c q (.leaf o) col (bestF c q (d + 1) (.leaf o) (-1)):=by
 rw [bestF,bestF,if_neg hcol,if_pos rfl]
 have e:candC c q (bestF c q d) (.leaf o) col = []:=by show (if col = -1 then _ else _) = _; rw [if_neg hcol]
 rw [e]; rfl
theorem joinV (c:List Df) (q:Qy) (d:Nat) (a b:Tr) (col:Int):bestF c q (d + 1) (.join a b) col = leastC ((waysP q a.set b.set col).flatMap (wayC c q (bestF c q d a) (bestF c q d b) a.set b.set col) ++ (if col = -1 then [] else [sortC c q (.join a b) col (bestF c q (d + 1) (.join a b) (-1))])):=by
 rw [bestF]
 by_cases h:col = -1
 ·subst h
  rw [if_pos rfl,if_pos rfl,List.append_nil]; rfl
 ·rw [if_neg h,if_neg h,bestF,if_pos rfl]; rfl
theorem set0:(Tr.leaf 0).set = 1:=by decide +kernel
theorem set1:(Tr.leaf 1).set = 2:=by decide +kernel
theorem oneQ9_2:rowsQ catTwo oneQ9 2 = 10:=by rw [oneQ9_rows]; decide +kernel
theorem oneQ9_b0:baseR catTwo oneQ9 0 = 100:=by
 rw [baseR,if_pos ⟨oneQ9_may,by decide,by decide⟩]
 decide +kernel
theorem leaf9_may {o:Int} (h:o = 0 ∨ o = 1):mayP catTwo oneQ9 (.mk 0 o 0 0 []) = true:=by
 rcases h with rfl | rfl
 ·exact mayP_iff.2 ⟨oneQ9_may,rfl,by decide +kernel,by decide +kernel,rfl⟩
 ·exact mayP_iff.2 ⟨oneQ9_may,rfl,by decide +kernel,by decide +kernel,rfl⟩
theorem leaf9_0:costP catTwo oneQ9 (.mk 0 0 0 0 []) = 100:=by
 rw [costP_tree (leaf9_may (.inl rfl))]
 show scanK (baseR catTwo oneQ9 0) = 100
 rw [oneQ9_b0]; decide
theorem leaf9_1:costP catTwo oneQ9 (.mk 0 1 0 0 []) = 10:=by
 rw [costP_tree (leaf9_may (.inr rfl))]
 show scanK (baseR catTwo oneQ9 1) = 10
 rw [oneQ9_b]; decide
theorem oneQ9_new (a b:Int):oneQ9.new a b = (if holdsI (bor .i64 a b) 3 && !holdsI a 3 && !holdsI b 3 then [0] else []):=by
 rw [Qy.new,oneQ9_idx]
 simp only [newT,ownT,pair9_set]
theorem oneQ9_pairs:oneQ9.pairs 1 2 = [(0,4)]:=by
 rw [Qy.pairs,oneQ9_new]
 decide +kernel
theorem oneQ9_cols0:(oneQ9.cols catTwo 1).contains 0 = true:=by rw [Qy.cols,if_pos oneQ9_may]; decide +kernel
theorem ways9:waysP oneQ9 1 2 (-1) = [nestW, .mk 2 0 0 4 [], .mk 3 0 0 4 []]:=by unfold waysP; rw [oneQ9_pairs]; rfl
theorem b9_0:bestF catTwo oneQ9 3 (.leaf 0) (-1) = (100, .mk 0 0 0 0 []):=by rw [leafV,leaf9_0]
theorem b9_1:bestF catTwo oneQ9 3 (.leaf 1) (-1) = (10, .mk 0 1 0 0 []):=by rw [leafV,leaf9_1]
theorem b9_0s:bestF catTwo oneQ9 3 (.leaf 0) 0 = (800, .mk 4 0 0 0 [.mk 0 0 0 0 []]):=by
 rw [leafS _ _ _ _ _ (by decide),b9_0,sortC,set0,sortedC,oneQ9_1]
 exact congrArg (fun n:Int=>(n,Pl.mk 4 0 0 0 [Pl.mk 0 0 0 0 []])) (by decide +kernel:addK [100,sortK 100] = 800)
theorem b9_1s:bestF catTwo oneQ9 3 (.leaf 1) 4 = (50, .mk 4 0 4 0 [.mk 0 1 0 0 []]):=by
 rw [leafS _ _ _ _ _ (by decide),b9_1,sortC,set1,sortedC,oneQ9_2]
 exact congrArg (fun n:Int=>(n,Pl.mk 4 0 4 0 [Pl.mk 0 1 0 0 []])) (by decide +kernel:addK [10,sortK 10] = 50)
theorem w9_n (col:Int):wayC catTwo oneQ9 (bestF catTwo oneQ9 3 (.leaf 0)) (bestF catTwo oneQ9 3 (.leaf 1)) 1 2 col nestW = if col ≠ -1 ∧ (oneQ9.cols catTwo 1).contains col = false then [] else [(addK [(bestF catTwo oneQ9 3 (.leaf 0) col).1,(bestF catTwo oneQ9 3 (.leaf 1) (-1)).1,nestK (rowsQ catTwo oneQ9 1) (rowsQ catTwo oneQ9 2)], .mk 1 0 0 0 [(bestF catTwo oneQ9 3 (.leaf 0) col).2,(bestF catTwo oneQ9 3 (.leaf 1) (-1)).2])]:=rfl
theorem w9_h (col:Int):wayC catTwo oneQ9 (bestF catTwo oneQ9 3 (.leaf 0)) (bestF catTwo oneQ9 3 (.leaf 1)) 1 2 col (.mk 2 0 0 4 []) = [(addK [(bestF catTwo oneQ9 3 (.leaf 0) (-1)).1,(bestF catTwo oneQ9 3 (.leaf 1) (-1)).1,hashK (rowsQ catTwo oneQ9 1) (rowsQ catTwo oneQ9 2)], .mk 2 0 0 4 [(bestF catTwo oneQ9 3 (.leaf 0) (-1)).2,(bestF catTwo oneQ9 3 (.leaf 1) (-1)).2])]:=by
 unfold wayC
 rw [if_neg (fun h=>h.1 rfl)]; rfl
theorem w9_m (col:Int):wayC catTwo oneQ9 (bestF catTwo oneQ9 3 (.leaf 0)) (bestF catTwo oneQ9 3 (.leaf 1)) 1 2 col (.mk 3 0 0 4 []) = [(addK [(bestF catTwo oneQ9 3 (.leaf 0) 0).1,(bestF catTwo oneQ9 3 (.leaf 1) 4).1,mergeK (rowsQ catTwo oneQ9 1) (rowsQ catTwo oneQ9 2)], .mk 3 0 0 4 [(bestF catTwo oneQ9 3 (.leaf 0) 0).2,(bestF catTwo oneQ9 3 (.leaf 1) 4).2])]:=by
 unfold wayC
 rw [if_neg (fun h=>by have h2:(oneQ9.cols catTwo 1).contains 0 = false:=h.2; rw [oneQ9_cols0] at h2; cases h2)]; rfl
theorem b9_j:bestF catTwo oneQ9 4 (.join (.leaf 0) (.leaf 1)) (-1) = (230, .mk 2 0 0 4 [.mk 0 0 0 0 [], .mk 0 1 0 0 []]):=by
 rw [joinV,set0,set1,ways9,List.flatMap_cons,List.flatMap_cons,List.flatMap_cons,List.flatMap_nil,w9_n,w9_h,w9_m,if_neg (fun h=>h.1 rfl),b9_0,b9_1,b9_0s,b9_1s,oneQ9_1,oneQ9_2,if_pos rfl]
 rfl
theorem few_ok' (p:Pl):p.few = true → p.Ok:=by
 induction p using Pl.ind with
 | h op occ a b l ih =>
 intro h
 have hl:=form_len (few_own h)
 exact .mk (by simp only [Pl.l] at hl; omega) fun x hx=>ih x hx (few_part h hx)
theorem valid_split {c:List Df} {q:Qy} {t:Tr} {col:Int} (h:validT c q t col = true):q.may c = true ∧ t.may = true ∧ t.set < 2 ^ q.occ.length ∧ (col = -1 ∨ (q.cols c t.set).contains col = true):=by
 unfold validT at h
 simp only [Bool.and_eq_true,Bool.or_eq_true,decide_eq_true_eq] at h
 exact ⟨h.1.1.1,h.1.1.2,h.1.2,h.2⟩
theorem valid_good {c:List Df} {q:Qy} {t:Tr} {col:Int} (h:validT c q t col = true):Good c q 4 t col (bestF c q 4 t col):=by
 obtain ⟨h1,h2,h3,h4⟩:=valid_split h
 exact best_good h1 4 t col (Nat.le_refl _) h2 h3 h4
end
section
abbrev Wh:=Pl × Int × Bool
abbrev Cw:=Int × Wh
def endsQ (q:Qy):List (Int × Bool):=if q.by_ = -1 then [(0,false)] else [(2,false),(1,decide (q.ord ≠ -1))]
def needsQ (q:Qy) (e:Int):Int:=if e = 0 then q.ord else if e = 2 then q.by_ else -1
def extraL (c:List Df) (q:Qy) (e:Int) (s:Bool):List Int:=[groupK (rowsQ c q 15) (decide (e = 1))] ++ (if s then [sortK (groupsQ c q)] else [])
def extraQ (c:List Df) (q:Qy) (e:Int) (s:Bool):Int:=if e = 0 ∨ q.may c = false then 0 else addK (extraL c q e s)
def leastW:List Cw → Cw
 | []=>(0,(plO,0,false))
 | x :: l=>l.foldl (fun out y=>if y.1 < out.1 then y else out) x
def optOne (c:List Df) (q:Qy) (t:Tr) (e:Int × Bool):Cw:=(addK [(bestF c q 4 t (needsQ q e.1)).1,extraQ c q e.1 e.2],((bestF c q 4 t (needsQ q e.1)).2,e.1,e.2))
def optL (c:List Df) (q:Qy):List Cw:=(allT 4 (2 ^ q.occ.length - 1)).flatMap fun t=>(endsQ q).map (optOne c q t)
def optQ (c:List Df) (q:Qy):Cw:=if q.may c then leastW (optL c q) else (0,(plO,0,false))
theorem foldW_spec (l:List Cw):∀ x:Cw,let r:=l.foldl (fun out y=>if y.1 < out.1 then y else out) x
  (r = x ∨ r ∈ l) ∧ r.1 ≤ x.1 ∧ ∀ y ∈ l,r.1 ≤ y.1:=by
 induction l with
 | nil=>intro x; exact ⟨.inl rfl,Int.le_refl _,by simp⟩
 | cons y l ih =>
  intro x
  rw [List.foldl_cons]
  have h:=ih (if y.1 < x.1 then y else x)
  generalize l.foldl (fun out y=>if y.1 < out.1 then y else out) (if y.1 < x.1 then y else x) = r at h ⊢
  obtain ⟨h1,h2,h3⟩:=h
  by_cases hc:y.1 < x.1
  ·rw [if_pos hc] at h1 h2
   refine ⟨?_,by omega, ?_⟩
   ·rcases h1 with h1 | h1
    ·right; rw [h1]; exact .head _
    ·right; exact .tail _ h1
   ·intro z hz
    rcases List.mem_cons.1 hz with rfl | hz
    ·exact h2
    ·exact h3 z hz
  ·rw [if_neg hc] at h1 h2
   refine ⟨?_,h2, ?_⟩
   ·rcases h1 with h1 | h1
    ·left; exact h1
    ·right; exact .tail _ h1
   ·intro z hz
    rcases List.mem_cons.1 hz with rfl | hz
    ·omega
    ·exact h3 z hz
theorem leastW_mem {l:List Cw} (h:l ≠ []):leastW l ∈ l:=by
 match l,h with
 | x :: l,_ =>
  rw [leastW]
  rcases (foldW_spec l x).1 with h | h
  ·rw [h]; exact .head _
  ·exact .tail _ h
theorem fine_iff {c:List Df} {q:Qy} {p:Pl} {e:Int} {s:Bool}:fineP c q p e s = true ↔ mayP c q p = true ∧ (treeP p).set = 2 ^ q.occ.length - 1 ∧ (e,s) ∈ endsQ q ∧ (needsQ q e = -1 ∨ p.order = needsQ q e):=by
 have key:endP q p.order e s = true ↔ (e,s) ∈ endsQ q ∧ (needsQ q e = -1 ∨ p.order = needsQ q e):=by
  generalize p.order = o
  unfold endP endsQ needsQ
  generalize q.by_ = b
  generalize q.ord = r
  constructor
  ·intro h
   simp only [Bool.and_eq_true,decide_eq_true_eq,beq_iff_eq,decide_eq_decide] at h
   obtain ⟨⟨⟨h1,h2⟩,h3⟩,h4⟩:=h
   have he:e = 0 ∨ e = 1 ∨ e = 2:=by omega
   by_cases hb:b = -1
   ·obtain rfl:e = 0:=h3.2 hb
    rw [if_pos hb]
    cases s
    ·by_cases hr:r = -1
     ·simp [hr]
     ·simp [hr] at h4 ⊢
      exact h4
    ·simp at h4
   ·rw [if_neg hb]
    have he0:e ≠ 0:=fun h=>hb (h3.1 h)
    rcases he with rfl | rfl | rfl
    ·exact absurd rfl he0
    ·cases s
     ·by_cases hr:r = -1
      ·simp [hr]
      ·simp [hr] at h4
     ·simp at h4
      simp [h4]
    ·cases s
     ·simp at h4
      simp [h4]
     ·simp at h4
  ·rintro ⟨h1,h2⟩
   by_cases hb:b = -1
   ·rw [if_pos hb,List.mem_singleton] at h1
    injection h1 with h1 h3
    subst h1; subst h3
    by_cases hr:r = -1
    ·simp [hb,hr]
    ·simp [hr] at h2
     simp [hb,hr,h2]
   ·rw [if_neg hb] at h1
    simp only [List.mem_cons,List.not_mem_nil,or_false,Prod.mk.injEq] at h1
    rcases h1 with ⟨rfl,rfl⟩ | ⟨rfl,rfl⟩
    ·simp [hb] at h2
     simp [hb,h2]
    ·by_cases hr:r = -1
     ·simp [hb,hr]
     ·simp [hb,hr]
 unfold fineP
 rw [Bool.and_eq_true,Bool.and_eq_true,decide_eq_true_eq,key,and_assoc]
theorem all_eq {c:List Df} {q:Qy} {p:Pl} {e:Int} {s:Bool} (hm:q.may c = true) (h:fineP c q p e s = true):allP c q p e s = addK [costP c q p,extraQ c q e s]:=by
 rw [allP,if_pos h]
 obtain ⟨_,_,h3,_⟩:=fine_iff.1 h
 unfold allL extraQ extraL
 by_cases he:e = 0
 ·subst he
  have hs:s = false:=by
   unfold endsQ at h3
   split at h3
   ·rw [List.mem_singleton] at h3
    injection h3
   ·simp at h3
  subst hs
  rw [if_pos rfl,if_pos (show (0:Int) = 0 ∨ q.may c = false from .inl rfl)]
  simp only [Bool.false_eq_true,if_false,List.append_nil]
  rw [addK_cons (costP c q p) []]
  rfl
 ·rw [if_neg he,if_neg (show ¬ (e = 0 ∨ q.may c = false) from fun h=>h.elim he fun h=>by rw [hm] at h; cases h),List.append_assoc,List.singleton_append,addK_cons]
theorem ends_col {c:List Df} {q:Qy} (h:q.may c = true) {e:Int × Bool} (he:e ∈ endsQ q):needsQ q e.1 = -1 ∨ isCol c q (needsQ q e.1) = true:=by
 have hm:=(may_split h).2.2.2.2.2.2
 have hin:∀ x,(colsIn c q fun _=>true).contains x = true → isCol c q x = true:=fun x hx=>by
  have hx:=List.contains_iff_mem.1 hx
  simp only [colsIn,List.mem_filter,Bool.and_true] at hx
  exact hx.2
 have hw:∀ l x,within l (colsIn c q fun _=>true) = true → l.contains x = true → isCol c q x = true:=fun l x hl hx=>by
  simp only [within,List.all_eq_true] at hl
  exact hin x (hl x (List.contains_iff_mem.1 hx))
 unfold endMay at hm
 unfold endsQ at he
 by_cases hb:q.by_ = -1
 ·rw [if_pos hb] at hm he
  rw [List.mem_singleton] at he
  subst he
  show q.ord = -1 ∨ isCol c q q.ord = true
  simp only [Bool.and_eq_true,Bool.or_eq_true,decide_eq_true_eq] at hm
  obtain ⟨⟨⟨⟨⟨_,_⟩,_⟩,h4⟩,_⟩,h6⟩:=hm
  exact h6.imp id fun h=>hw _ _ h4 h
 ·rw [if_neg hb] at hm he
  simp only [Bool.and_eq_true,Bool.or_eq_true,decide_eq_true_eq] at hm
  obtain ⟨⟨⟨⟨h1,_⟩,_⟩,_⟩,_⟩:=hm
  simp only [List.mem_cons,List.not_mem_nil,or_false] at he
  rcases he with rfl | rfl
  ·exact .inr (hw _ _ h1 (by simp [needsQ]))
  ·exact .inl rfl
theorem bit_full {n i:Nat} (hn:n ≤ 4) (hi:i < n):bitI (2 ^ n - 1) i = true:=by
 obtain ⟨j,rfl⟩:∃ j:Fin 5,n = j.val:=⟨⟨n,by omega⟩,rfl⟩
 obtain ⟨k,rfl⟩:∃ k:Fin 5,i = k.val:=⟨⟨i,by omega⟩,rfl⟩
 clear hn
 revert hi
 revert j k
 decide +kernel
theorem full_pos {c:List Df} {q:Qy} (h:q.may c = true):(1:Int) ≤ 2 ^ q.occ.length - 1:=by
 have h1:=(may_split h).2.1
 have h4:=(may_split h).2.2.1
 have hc:q.occ.length = 1 ∨ q.occ.length = 2 ∨ q.occ.length = 3 ∨ q.occ.length = 4:=by omega
 rcases hc with h | h | h | h <;> rw [h] <;> decide
theorem opt_valid {c:List Df} {q:Qy} (h:q.may c = true) {t:Tr} (ht:t ∈ allT 4 (2 ^ q.occ.length - 1)) {e:Int × Bool} (he:e ∈ endsQ q):validT c q t (needsQ q e.1) = true:=by
 obtain ⟨h1,h2⟩:=(all_mem (full_pos h)).1 ht
 unfold validT
 rw [h,h1,h2]
 simp only [Bool.true_and,Bool.and_eq_true,Bool.or_eq_true,decide_eq_true_eq]
 refine ⟨by omega,(ends_col h he).imp id fun hc=>?_⟩
 have hr:=isCol_range hc
 exact (cols_mem_iff h _ _).2 ⟨hc,bit_full (may_split h).2.2.1 (by omega)⟩
theorem ends_ne (q:Qy):endsQ q ≠ []:=by unfold endsQ; split <;> simp
theorem all_ne {c:List Df} {q:Qy} (h:q.may c = true):allT 4 (2 ^ q.occ.length - 1) ≠ []:=by
 have h1:=(may_split h).2.1
 have h4:=(may_split h).2.2.1
 have hc:q.occ.length = 1 ∨ q.occ.length = 2 ∨ q.occ.length = 3 ∨ q.occ.length = 4:=by omega
 have ht:∃ t:Tr,t.may = true ∧ t.set = 2 ^ q.occ.length - 1:=by
  rcases hc with h | h | h | h <;> rw [h]
  ·exact ⟨.leaf 0,by decide⟩
  ·exact ⟨.join (.leaf 0) (.leaf 1),by decide⟩
  ·exact ⟨.join (.join (.leaf 0) (.leaf 1)) (.leaf 2),by decide⟩
  ·exact ⟨.join (.join (.leaf 0) (.leaf 1)) (.join (.leaf 2) (.leaf 3)),by decide⟩
 obtain ⟨t,ht⟩:=ht
 exact List.ne_nil_of_mem ((all_mem (full_pos h)).2 ht)
theorem optL_ne {c:List Df} {q:Qy} (h:q.may c = true):optL c q ≠ []:=by
 obtain ⟨t,ht⟩:=List.exists_mem_of_ne_nil _ (all_ne h)
 obtain ⟨e,he⟩:=List.exists_mem_of_ne_nil _ (ends_ne q)
 exact List.ne_nil_of_mem (List.mem_flatMap.2 ⟨t,ht,List.mem_map.2 ⟨e,he,rfl⟩⟩)
theorem opt_good {c:List Df} {q:Qy} (h:q.may c = true) {x:Cw} (hx:x ∈ optL c q):fineP c q x.2.1 x.2.2.1 x.2.2.2 = true ∧ allP c q x.2.1 x.2.2.1 x.2.2.2 = x.1:=by
 obtain ⟨t,ht,hx⟩:=List.mem_flatMap.1 hx
 obtain ⟨e,he,rfl⟩:=List.mem_map.1 hx
 obtain ⟨h1,h2⟩:=(all_mem (full_pos h)).1 ht
 obtain ⟨g1,g2,g3,g4,_⟩:=valid_good (opt_valid h ht he)
 unfold optOne
 dsimp only
 have hf:fineP c q (bestF c q 4 t (needsQ q e.1)).2 e.1 e.2 = true:=by
  refine fine_iff.2 ⟨g1,by rw [g2,h2],he, ?_⟩
  by_cases hn:needsQ q e.1 = -1
  ·exact .inl hn
  ·exact .inr (g4 hn)
 exact ⟨hf,by rw [all_eq h hf,g3]⟩
end
section
theorem opt_mem {c:List Df} {q:Qy} (h:q.may c = true):optQ c q ∈ optL c q:=by
 rw [optQ,if_pos h]; exact leastW_mem (optL_ne h)
end
section
theorem addK_to {x:Int} (h0:0 ≤ x) (h1:x ≤ capK):addK [x,0] = x:=by
 unfold addK
 simp only [List.foldl_cons,List.foldl_nil]
 omega
end
section
attribute [local push_cast] encPl_mk encPl_take encPl_len encPl_one encPls_pure encPl_pure encT_pure encT_len encT_one encT_take
def encEnd (x:Int × Bool):List AV:=encW plO x.1 x.2
theorem encEnd_mk (e:Int) (s:Bool):encEnd (e,s) = [.int 0, .int 0, .int 0, .int 0, .sl [], .int e, .bool s]:=by
 show encW (.mk 0 0 0 0 []) e s = _
 rw [encW_mk]; rfl
theorem Ends_ok (q:Qy):Quiet Go.Proofs.Tryz.prog 16 [.agg (encQ q)] (.sl ((endsQ q).map encEnd)):=by
 refine quiet_of (rs:=#[.tmp 2]) Go.Proofs.Tryz.func16 rfl rfl rfl mixed rfl rfl fun H hs=>?_
 unfold endsQ
 by_cases hb:q.by_ = -1
 ·have hb':(q.by_ = -1) = True:=by simp [hb]
  rw [if_pos hb]
  simp -implicitDefEqProofs only [push_cast,Nat.reduceAdd,Nat.reduceSub,Nat.reduceMul,Nat.reduceLT,Nat.reduceLeDiff,Nat.reduceEqDiff,Nat.reduceBEq,reduceCtorEq,reduceIte,Int.reduceLE,Int.reduceLT,Int.reduceNeg,Int.reduceToNat,encQ,hb',encEnd_mk,List.map_cons,List.map_nil]
 ·have hb':(q.by_ = -1) = False:=by simp [hb]
  rw [if_neg hb]
  simp -implicitDefEqProofs only [push_cast,Nat.reduceAdd,Nat.reduceSub,Nat.reduceMul,Nat.reduceLT,Nat.reduceLeDiff,Nat.reduceEqDiff,Nat.reduceBEq,reduceCtorEq,reduceIte,Int.reduceLE,Int.reduceLT,Int.reduceNeg,Int.reduceToNat,encQ,hb',encEnd_mk,List.map_cons,List.map_nil,decide_not,ne_eq]
  exact ⟨by omega,by omega,by decide⟩
theorem EndsR_ok (q:Qy):Quiet Go.Proofs.Tryz.prog 17 [.agg (encQ q)] (.sl ((endsQ q).map encEnd)):=by
 refine quiet_of (rs:=#[.tmp 2]) Go.Proofs.Tryz.func17 rfl rfl rfl mixed rfl rfl fun H hs=>?_
 unfold endsQ
 by_cases hb:q.by_ = -1
 ·have hb':(q.by_ = -1) = True:=by simp [hb]
  rw [if_pos hb]
  push_cast -implicitDefEqProofs [eq_self,iff_self,encQ,hb',encEnd_mk,List.map_cons,List.map_nil]
 ·have hb':(q.by_ = -1) = False:=by simp [hb]
  rw [if_neg hb]
  push_cast -implicitDefEqProofs [eq_self,iff_self,encQ,hb',encEnd_mk,List.map_cons,List.map_nil,decide_not,ne_eq]
theorem Needs_ok (q:Qy) (p:Pl) (e:Int) (s:Bool):Quiet Go.Proofs.Tryz.prog 18 [.agg (encQ q), .agg (encW p e s)] (.int (needsQ q e)):=by
 obtain ⟨op,occ,a,b,l⟩:=p
 rw [encW_mk]
 refine quiet_of (rs:=#[.tmp 4]) Go.Proofs.Tryz.func18 rfl rfl rfl mixed rfl rfl fun H hs=>?_
 unfold needsQ
 by_cases h0:e = 0
 ·subst h0
  push_cast -implicitDefEqProofs [eq_self,iff_self,encQ,if_true]
 ·have h0':(e = 0) = False:=by simp [h0]
  by_cases h2:e = 2
  ·subst h2
   push_cast -implicitDefEqProofs [eq_self,iff_self,encQ,if_true,if_false]
  ·have h2':(e = 2) = False:=by simp [h2]
   push_cast -implicitDefEqProofs [eq_self,iff_self,encQ,h0',h2',if_false]
theorem NeedsR_ok (q:Qy) (p:Pl) (e:Int) (s:Bool):Quiet Go.Proofs.Tryz.prog 19 [.agg (encQ q), .agg (encW p e s)] (.int (needsQ q e)):=by
 obtain ⟨op,occ,a,b,l⟩:=p
 rw [encW_mk]
 refine quiet_of (rs:=#[.tmp 4]) Go.Proofs.Tryz.func19 rfl rfl rfl mixed rfl rfl fun H hs=>?_
 unfold needsQ
 by_cases h0:e = 0
 ·subst h0
  push_cast -implicitDefEqProofs [eq_self,iff_self,encQ,if_true]
 ·have h0':(e = 0) = False:=by simp [h0]
  by_cases h2:e = 2
  ·subst h2
   push_cast -implicitDefEqProofs [eq_self,iff_self,encQ,if_true,if_false]
  ·have h2':(e = 2) = False:=by simp [h2]
   push_cast -implicitDefEqProofs [eq_self,iff_self,encQ,h0',h2',if_false]
theorem fullOpt_ok (q:Qy) (h4:q.occ.length ≤ 4):Quiet Go.Proofs.Tryz.prog 43 [.agg (encQ q)] (.int (2 ^ q.occ.length - 1)):=by
 have hc:q.occ.length = 0 ∨ q.occ.length = 1 ∨ q.occ.length = 2 ∨ q.occ.length = 3 ∨ q.occ.length = 4:=by omega
 refine quiet_of (rs:=#[.tmp 2]) Go.Proofs.Tryz.func43 rfl rfl rfl mixed rfl rfl fun H hs=>?_
 rcases hc with hc | hc | hc | hc | hc
 ·rw [hc]; push_cast -implicitDefEqProofs [eq_self,iff_self,encQ,hc]; decide
 ·rw [hc]; push_cast -implicitDefEqProofs [eq_self,iff_self,encQ,hc]; decide
 ·rw [hc]; push_cast -implicitDefEqProofs [eq_self,iff_self,encQ,hc]; decide
 ·rw [hc]; push_cast -implicitDefEqProofs [eq_self,iff_self,encQ,hc]; decide
 ·rw [hc]; push_cast -implicitDefEqProofs [eq_self,iff_self,encQ,hc]; decide
theorem addK_sing {x:Int} (h0:0 ≤ x) (h1:x ≤ capK):addK [x] = x:=by
 rw [addK_cons,addK_nil]; exact addK_to h0 h1
set_option maxHeartbeats 4000000 in
theorem Extra_ok (c:List Df) (hcl:c.length ≤ 1000000) (q:Qy) (hq:q.Ok) (p:Pl) (e:Int) (s:Bool):Quiet Go.Proofs.Tryz.prog 20 [.agg [.sl (c.map encD)], .agg (encQ q), .agg (encW p e s)] (.int (extraQ c q e s)):=by
 have hM:=MayQ_ok c hcl q hq
 obtain ⟨op,occ,a,b,l⟩:=p
 rw [encW_mk]
 unfold extraQ
 by_cases he:e = 0
 ·rw [if_pos (Or.inl he)]
  subst he
  refine quiet_of (rs:=#[.tmp 6]) Go.Proofs.Tryz.func20 rfl rfl rfl mixed rfl rfl fun H hs=>?_
  push_cast -implicitDefEqProofs [eq_self,iff_self,encQ,if_false,if_true,or_true,or_false,true_or,false_or,List.map_cons,List.map_nil,List.length_cons,List.length_nil,List.cons_append,List.nil_append,List.append_nil]
  refine gcallq' (.bool true) (fun h=>by cases h) (fun h=>by cases h) ?_
  push_cast -implicitDefEqProofs [eq_self,iff_self,encQ,if_false,if_true,or_true,or_false,true_or,false_or,List.map_cons,List.map_nil,List.length_cons,List.length_nil,List.cons_append,List.nil_append,List.append_nil]
 have he':(e = 0) = False:=by simp [he]
 have hen:decide (e = 0) = false:=by simp [he]
 cases hm:q.may c
 ·rw [if_pos (Or.inr rfl)]
  rw [hm] at hM
  refine quiet_of (rs:=#[.tmp 6]) Go.Proofs.Tryz.func20 rfl rfl rfl mixed rfl rfl fun H hs=>?_
  push_cast -implicitDefEqProofs [eq_self,iff_self,encQ,if_false,if_true,or_true,or_false,true_or,false_or,List.map_cons,List.map_nil,List.length_cons,List.length_nil,List.cons_append,List.nil_append,List.append_nil,he',hen]
  refine gcallq' (.bool false) (fun _=>by simp) (fun _=>hM) ?_
  push_cast -implicitDefEqProofs [eq_self,iff_self,encQ,if_false,if_true,or_true,or_false,true_or,false_or,List.map_cons,List.map_nil,List.length_cons,List.length_nil,List.cons_append,List.nil_append,List.append_nil,he',hen]
 rw [if_neg (show ¬ (e = 0 ∨ true = false) from fun h=>h.elim he fun h=>by cases h)]
 rw [hm] at hM
 have h4:=(may_split hm).2.2.1
 have hR:=Rows_ok c hcl q hq (2 ^ q.occ.length - 1)
 rw [rows_full hm] at hR
 have hFu:=fullOpt_ok q h4
 have hG:=GroupK_ok (rowsQ c q 15) (decide (e = 1))
 have hgr:=groupK_range (rowsQ c q 15) (decide (e = 1))
 have hGs:=Groups_ok c hcl q hq
 unfold extraL
 generalize (2:Int) ^ q.occ.length - 1 = F at hR hFu
 generalize groupK (rowsQ c q 15) (decide (e = 1)) = G at hG hgr ⊢
 have hSo:=SortK_ok (groupsQ c q)
 generalize sortK (groupsQ c q) = K at hSo ⊢
 refine quiet_of (rs:=#[.tmp 6]) Go.Proofs.Tryz.func20 rfl rfl rfl mixed rfl rfl fun H hs=>?_
 push_cast -implicitDefEqProofs [eq_self,iff_self,encQ,if_false,if_true,or_true,or_false,true_or,false_or,List.map_cons,List.map_nil,List.length_cons,List.length_nil,List.cons_append,List.nil_append,List.append_nil,he',hen]
 refine gcallq' (.bool true) (fun _=>by simp) (fun _=>hM) ?_
 push_cast -implicitDefEqProofs [eq_self,iff_self,encQ,if_false,if_true,or_true,or_false,true_or,false_or,List.map_cons,List.map_nil,List.length_cons,List.length_nil,List.cons_append,List.nil_append,List.append_nil,he',hen]
 refine areg_at 9 (by kernel_rfl) (by kernel_rfl) ?_
 push_cast -implicitDefEqProofs [eq_self,iff_self,encQ,if_false,if_true,or_true,or_false,true_or,false_or,List.map_cons,List.map_nil,List.length_cons,List.length_nil,List.cons_append,List.nil_append,List.append_nil,he',hen]
 refine ahdq hFu ?_
 push_cast -implicitDefEqProofs [eq_self,iff_self,encQ,if_false,if_true,or_true,or_false,true_or,false_or,List.map_cons,List.map_nil,List.length_cons,List.length_nil,List.cons_append,List.nil_append,List.append_nil,he',hen]
 refine ahdq hR ?_
 push_cast -implicitDefEqProofs [eq_self,iff_self,encQ,if_false,if_true,or_true,or_false,true_or,false_or,List.map_cons,List.map_nil,List.length_cons,List.length_nil,List.cons_append,List.nil_append,List.append_nil,he',hen]
 refine ahdq hG ?_
 push_cast -implicitDefEqProofs [eq_self,iff_self,encQ,if_false,if_true,or_true,or_false,true_or,false_or,List.map_cons,List.map_nil,List.length_cons,List.length_nil,List.cons_append,List.nil_append,List.append_nil,he',hen]
 cases s
 ·have hsg:=addK_sing hgr.1 hgr.2
  push_cast -implicitDefEqProofs [eq_self,iff_self,hsg,Bool.false_eq_true,encQ,if_false,if_true,or_true,or_false,true_or,false_or,List.map_cons,List.map_nil,List.length_cons,List.length_nil,List.cons_append,List.nil_append,List.append_nil,he',hen]
 ·have hA:=AddK_ok [G,K] (by simp)
  push_cast -implicitDefEqProofs [eq_self,iff_self,encQ,if_false,if_true,or_true,or_false,true_or,false_or,List.map_cons,List.map_nil,List.length_cons,List.length_nil,List.cons_append,List.nil_append,List.append_nil,he',hen]
  refine callq hGs ?_
  push_cast -implicitDefEqProofs [eq_self,iff_self,encQ,if_false,if_true,or_true,or_false,true_or,false_or,List.map_cons,List.map_nil,List.length_cons,List.length_nil,List.cons_append,List.nil_append,List.append_nil,he',hen]
  refine callq hSo ?_
  push_cast -implicitDefEqProofs [eq_self,iff_self,encQ,if_false,if_true,or_true,or_false,true_or,false_or,List.map_cons,List.map_nil,List.length_cons,List.length_nil,List.cons_append,List.nil_append,List.append_nil,he',hen]
  refine fzk H 3 2 [.sl ([G,K].map encI)] (by rfl) (by omega) (by simp) ?_ ?_
  ·(try push_cast -implicitDefEqProofs [eq_self,iff_self,encI,if_false,if_true,or_true,or_false,true_or,false_or,List.map_cons,List.map_nil,List.length_cons,List.length_nil,List.cons_append,List.nil_append,List.append_nil])
  refine callq hA ?_
  push_cast -implicitDefEqProofs [eq_self,iff_self,encQ,if_false,if_true,or_true,or_false,true_or,false_or,List.map_cons,List.map_nil,List.length_cons,List.length_nil,List.cons_append,List.nil_append,List.append_nil,he',hen]
set_option maxHeartbeats 4000000 in
theorem ExtraR_ok (c:List Df) (hcl:c.length ≤ 1000000) (q:Qy) (hq:q.Ok) (hqi:q.In) (p:Pl) (e:Int) (s:Bool):Quiet Go.Proofs.Tryz.prog 21 [.agg [.sl (c.map encD)], .agg (encQ q), .agg (encW p e s)] (.int (extraQ c q e s)):=by
 have hM:=MayRQ_ok c hcl q hq hqi
 obtain ⟨op,occ,a,b,l⟩:=p
 rw [encW_mk]
 unfold extraQ
 by_cases he:e = 0
 ·rw [if_pos (Or.inl he)]
  subst he
  refine quiet_of (rs:=#[.tmp 6]) Go.Proofs.Tryz.func21 rfl rfl rfl mixed rfl rfl fun H hs=>?_
  push_cast -implicitDefEqProofs [eq_self,iff_self,encQ,if_false,if_true,or_true,or_false,true_or,false_or,List.map_cons,List.map_nil,List.length_cons,List.length_nil,List.cons_append,List.nil_append,List.append_nil]
  refine callq hM ?_
  push_cast -implicitDefEqProofs [eq_self,iff_self,encQ,if_false,if_true,or_true,or_false,true_or,false_or,List.map_cons,List.map_nil,List.length_cons,List.length_nil,List.cons_append,List.nil_append,List.append_nil]
 have he':(e = 0) = False:=by simp [he]
 have hen:decide (e = 0) = false:=by simp [he]
 cases hm:q.may c
 ·rw [if_pos (Or.inr rfl)]
  rw [hm] at hM
  refine quiet_of (rs:=#[.tmp 6]) Go.Proofs.Tryz.func21 rfl rfl rfl mixed rfl rfl fun H hs=>?_
  push_cast -implicitDefEqProofs [eq_self,iff_self,encQ,if_false,if_true,or_true,or_false,true_or,false_or,List.map_cons,List.map_nil,List.length_cons,List.length_nil,List.cons_append,List.nil_append,List.append_nil,he',hen]
  refine callq hM ?_
  push_cast -implicitDefEqProofs [eq_self,iff_self,encQ,if_false,if_true,or_true,or_false,true_or,false_or,List.map_cons,List.map_nil,List.length_cons,List.length_nil,List.cons_append,List.nil_append,List.append_nil,he',hen]
 rw [if_neg (show ¬ (e = 0 ∨ true = false) from fun h=>h.elim he fun h=>by cases h)]
 rw [hm] at hM
 have hR:=RowsR_ok c hcl q hq hqi 15
 have hG:=Group10_ok (rowsQ c q 15) (decide (e = 1))
 have hGs:=GroupsR_ok c hcl q hq hqi
 unfold extraL
 generalize groupK (rowsQ c q 15) (decide (e = 1)) = G at hG ⊢
 have hSo:=Sort10_ok (groupsQ c q)
 generalize sortK (groupsQ c q) = K at hSo ⊢
 refine quiet_of (rs:=#[.tmp 6]) Go.Proofs.Tryz.func21 rfl rfl rfl mixed rfl rfl fun H hs=>?_
 push_cast -implicitDefEqProofs [eq_self,iff_self,encQ,if_false,if_true,or_true,or_false,true_or,false_or,List.map_cons,List.map_nil,List.length_cons,List.length_nil,List.cons_append,List.nil_append,List.append_nil,he',hen]
 refine callq hM ?_
 push_cast -implicitDefEqProofs [eq_self,iff_self,encQ,if_false,if_true,or_true,or_false,true_or,false_or,List.map_cons,List.map_nil,List.length_cons,List.length_nil,List.cons_append,List.nil_append,List.append_nil,he',hen]
 refine areg_at 8 (by kernel_rfl) (by kernel_rfl) ?_
 push_cast -implicitDefEqProofs [eq_self,iff_self,encQ,if_false,if_true,or_true,or_false,true_or,false_or,List.map_cons,List.map_nil,List.length_cons,List.length_nil,List.cons_append,List.nil_append,List.append_nil,he',hen]
 refine ahdq hR ?_
 push_cast -implicitDefEqProofs [eq_self,iff_self,encQ,if_false,if_true,or_true,or_false,true_or,false_or,List.map_cons,List.map_nil,List.length_cons,List.length_nil,List.cons_append,List.nil_append,List.append_nil,he',hen]
 refine ahdq hG ?_
 push_cast -implicitDefEqProofs [eq_self,iff_self,encQ,if_false,if_true,or_true,or_false,true_or,false_or,List.map_cons,List.map_nil,List.length_cons,List.length_nil,List.cons_append,List.nil_append,List.append_nil,he',hen]
 cases s
 ·have hA:=Add10_ok [G] (by simp)
  push_cast -implicitDefEqProofs [eq_self,iff_self,Bool.false_eq_true,encQ,if_false,if_true,or_true,or_false,true_or,false_or,List.map_cons,List.map_nil,List.length_cons,List.length_nil,List.cons_append,List.nil_append,List.append_nil,he',hen]
  refine fzk H 3 1 [.sl ([G].map encI)] (by rfl) (by omega) (by simp) ?_ ?_
  ·(try push_cast -implicitDefEqProofs [eq_self,iff_self,encI,if_false,if_true,or_true,or_false,true_or,false_or,List.map_cons,List.map_nil,List.length_cons,List.length_nil,List.cons_append,List.nil_append,List.append_nil])
  refine callq hA ?_
  push_cast -implicitDefEqProofs [eq_self,iff_self,encQ,if_false,if_true,or_true,or_false,true_or,false_or,List.map_cons,List.map_nil,List.length_cons,List.length_nil,List.cons_append,List.nil_append,List.append_nil,he',hen]
 ·have hA:=Add10_ok [G,K] (by simp)
  push_cast -implicitDefEqProofs [eq_self,iff_self,encQ,if_false,if_true,or_true,or_false,true_or,false_or,List.map_cons,List.map_nil,List.length_cons,List.length_nil,List.cons_append,List.nil_append,List.append_nil,he',hen]
  refine callq hGs ?_
  push_cast -implicitDefEqProofs [eq_self,iff_self,encQ,if_false,if_true,or_true,or_false,true_or,false_or,List.map_cons,List.map_nil,List.length_cons,List.length_nil,List.cons_append,List.nil_append,List.append_nil,he',hen]
  refine callq hSo ?_
  push_cast -implicitDefEqProofs [eq_self,iff_self,encQ,if_false,if_true,or_true,or_false,true_or,false_or,List.map_cons,List.map_nil,List.length_cons,List.length_nil,List.cons_append,List.nil_append,List.append_nil,he',hen]
  refine fzk H 5 2 [.sl ([G,K].map encI)] (by rfl) (by omega) (by simp) ?_ ?_
  ·(try push_cast -implicitDefEqProofs [eq_self,iff_self,encI,if_false,if_true,or_true,or_false,true_or,false_or,List.map_cons,List.map_nil,List.length_cons,List.length_nil,List.cons_append,List.nil_append,List.append_nil])
  refine callq hA ?_
  push_cast -implicitDefEqProofs [eq_self,iff_self,encQ,if_false,if_true,or_true,or_false,true_or,false_or,List.map_cons,List.map_nil,List.length_cons,List.length_nil,List.cons_append,List.nil_append,List.append_nil,he',hen]
end
section
end
section
def Qy.back (q:Qy):Qy:={ q with p:=q.p.reverse }
end
section
def soN (acc:List Cw):Int:=if acc = [] then -1 else (leastW acc).1
def soW (acc:List Cw):Wh:=if acc = [] then (plO,0,false) else (leastW acc).2
theorem soN_nil:soN [] = -1:=rfl
theorem soW_nil:soW [] = (plO,0,false):=rfl
theorem leastW_push {acc:List Cw} (h:acc ≠ []) (x:Cw):leastW (acc ++ [x]) = if x.1 < (leastW acc).1 then x else leastW acc:=by
 match acc,h with
 | y :: l,_=>rw [List.cons_append,leastW,leastW,List.foldl_append]; rfl
theorem soN_neg {acc:List Cw} (h:∀ x ∈ acc,0 ≤ x.1):soN acc < 0 ↔ acc = []:=by
 unfold soN
 split
 ·rename_i e; exact ⟨fun _=>e,fun _=>by omega⟩
 ·rename_i e
  have:=h _ (leastW_mem e)
  exact ⟨fun h=>by omega,fun h=>absurd h e⟩
theorem so_push {acc:List Cw} (h:∀ x ∈ acc,0 ≤ x.1) (x:Cw):((soN acc < 0 ∨ x.1 < soN acc) → soN (acc ++ [x]) = x.1 ∧ soW (acc ++ [x]) = x.2) ∧ (¬ (soN acc < 0 ∨ x.1 < soN acc) → soN (acc ++ [x]) = soN acc ∧ soW (acc ++ [x]) = soW acc):=by
 have hne:acc ++ [x] ≠ []:=by simp
 by_cases e:acc = []
 ·subst e
  refine ⟨fun _=>⟨by rw [soN,if_neg hne]; rfl,by rw [soW,if_neg hne]; rfl⟩,fun hn=>absurd (.inl (by rw [soN_nil]; decide)) hn⟩
 ·have hs:=soN_neg h
  have e1:soN acc = (leastW acc).1:=if_neg e
  have e2:soW acc = (leastW acc).2:=if_neg e
  have e3:soN (acc ++ [x]) = (leastW (acc ++ [x])).1:=if_neg hne
  have e4:soW (acc ++ [x]) = (leastW (acc ++ [x])).2:=if_neg hne
  rw [leastW_push e] at e3 e4
  rw [e3,e4]
  constructor
  ·rintro (h1 | h1)
   ·exact absurd (hs.1 h1) e
   ·rw [e1] at h1
    rw [if_pos h1]; exact ⟨rfl,rfl⟩
  ·intro h1
   rw [e1] at h1
   rw [if_neg (fun h2=>h1 (.inr h2)),e1,e2]
   exact ⟨rfl,rfl⟩
end
section
theorem oneQ9_pairs':oneQ9.pairs 2 1 = [(4,0)]:=by
 rw [Qy.pairs,oneQ9_new]
 decide +kernel
theorem oneQ9_cols4:(oneQ9.cols catTwo 2).contains 4 = true:=by rw [Qy.cols,if_pos oneQ9_may]; decide +kernel
theorem ways9':waysP oneQ9 2 1 (-1) = [nestW, .mk 2 0 4 0 [], .mk 3 0 4 0 []]:=by unfold waysP; rw [oneQ9_pairs']; rfl
theorem v9_n (col:Int):wayC catTwo oneQ9 (bestF catTwo oneQ9 3 (.leaf 1)) (bestF catTwo oneQ9 3 (.leaf 0)) 2 1 col nestW = if col ≠ -1 ∧ (oneQ9.cols catTwo 2).contains col = false then [] else [(addK [(bestF catTwo oneQ9 3 (.leaf 1) col).1,(bestF catTwo oneQ9 3 (.leaf 0) (-1)).1,nestK (rowsQ catTwo oneQ9 2) (rowsQ catTwo oneQ9 1)], .mk 1 0 0 0 [(bestF catTwo oneQ9 3 (.leaf 1) col).2,(bestF catTwo oneQ9 3 (.leaf 0) (-1)).2])]:=rfl
theorem v9_h (col:Int):wayC catTwo oneQ9 (bestF catTwo oneQ9 3 (.leaf 1)) (bestF catTwo oneQ9 3 (.leaf 0)) 2 1 col (.mk 2 0 4 0 []) = [(addK [(bestF catTwo oneQ9 3 (.leaf 1) (-1)).1,(bestF catTwo oneQ9 3 (.leaf 0) (-1)).1,hashK (rowsQ catTwo oneQ9 2) (rowsQ catTwo oneQ9 1)], .mk 2 0 4 0 [(bestF catTwo oneQ9 3 (.leaf 1) (-1)).2,(bestF catTwo oneQ9 3 (.leaf 0) (-1)).2])]:=by
 unfold wayC
 rw [if_neg (fun h=>h.1 rfl)]; rfl
theorem v9_m (col:Int):wayC catTwo oneQ9 (bestF catTwo oneQ9 3 (.leaf 1)) (bestF catTwo oneQ9 3 (.leaf 0)) 2 1 col (.mk 3 0 4 0 []) = [(addK [(bestF catTwo oneQ9 3 (.leaf 1) 4).1,(bestF catTwo oneQ9 3 (.leaf 0) 0).1,mergeK (rowsQ catTwo oneQ9 2) (rowsQ catTwo oneQ9 1)], .mk 3 0 4 0 [(bestF catTwo oneQ9 3 (.leaf 1) 4).2,(bestF catTwo oneQ9 3 (.leaf 0) 0).2])]:=by
 unfold wayC
 rw [if_neg (fun h=>by have h2:(oneQ9.cols catTwo 2).contains 4 = false:=h.2; rw [oneQ9_cols4] at h2; cases h2)]; rfl
theorem c9_j:bestF catTwo oneQ9 4 (.join (.leaf 1) (.leaf 0)) (-1) = (320, .mk 2 0 4 0 [.mk 0 1 0 0 [], .mk 0 0 0 0 []]):=by
 rw [joinV,set0,set1,ways9',List.flatMap_cons,List.flatMap_cons,List.flatMap_cons,List.flatMap_nil,v9_n,v9_h,v9_m,if_neg (fun h=>h.1 rfl),b9_0,b9_1,b9_0s,b9_1s,oneQ9_1,oneQ9_2,if_pos rfl]
 rfl
theorem all_three:allT 4 3 = [.join (.leaf 0) (.leaf 1), .join (.leaf 1) (.leaf 0)]:=by rfl
theorem opt9:optQ catTwo oneQ9 = (230,(.mk 2 0 0 4 [.mk 0 0 0 0 [], .mk 0 1 0 0 []],0,false)):=by
 have hl:optL catTwo oneQ9 = [optOne catTwo oneQ9 (.join (.leaf 0) (.leaf 1)) (0,false),optOne catTwo oneQ9 (.join (.leaf 1) (.leaf 0)) (0,false)]:=by
  have e1:(2:Int) ^ oneQ9.occ.length - 1 = 3:=by rfl
  have ho:endsQ oneQ9 = [(0,false)]:=by rfl
  rw [optL,e1,all_three,ho]
  rfl
 have hx:extraQ catTwo oneQ9 0 false = 0:=by unfold extraQ; rw [if_pos (show (0:Int) = 0 ∨ oneQ9.may catTwo = false from .inl rfl)]
 have hn:needsQ oneQ9 0 = -1:=rfl
 have h1:optOne catTwo oneQ9 (.join (.leaf 0) (.leaf 1)) (0,false) = (230,(.mk 2 0 0 4 [.mk 0 0 0 0 [], .mk 0 1 0 0 []],0,false)):=by
  unfold optOne
  dsimp only
  rw [hx,hn,b9_j]
  exact congrArg (fun n:Int=>(n,(Pl.mk 2 0 0 4 [.mk 0 0 0 0 [], .mk 0 1 0 0 []],(0:Int),false))) (by decide +kernel:addK [230,0] = 230)
 have h2:optOne catTwo oneQ9 (.join (.leaf 1) (.leaf 0)) (0,false) = (320,(.mk 2 0 4 0 [.mk 0 1 0 0 [], .mk 0 0 0 0 []],0,false)):=by
  unfold optOne
  dsimp only
  rw [hx,hn,c9_j]
  exact congrArg (fun n:Int=>(n,(Pl.mk 2 0 4 0 [.mk 0 1 0 0 [], .mk 0 0 0 0 []],(0:Int),false))) (by decide +kernel:addK [320,0] = 320)
 rw [optQ,if_pos oneQ9_may,hl,h1,h2]
 rfl
end
section
attribute [local push_cast] encPl_mk encPl_take encPl_len encPl_one encPls_pure encPl_pure encT_pure encT_len encT_one encT_take
def encCw (x:Cw):List AV:=encW x.2.1 x.2.2.1 x.2.2.2 ++ [.int x.1]
theorem encCw_mk (n:Int) (op occ a b:Int) (l:List Pl) (e:Int) (s:Bool):encCw (n,(.mk op occ a b l,e,s)) = [.int op, .int occ, .int a, .int b, .sl (l.map encPl), .int e, .bool s, .int n]:=by rw [encCw,encW_mk]; rfl
theorem encCw_len (x:Cw):(encCw x).length = 8:=by
 obtain ⟨n,⟨op,occ,a,b,l⟩,e,s⟩:=x
 rw [encCw_mk]; rfl
theorem encCw_pure (x:Cw):PureL (encCw x):=by
 obtain ⟨n,⟨op,occ,a,b,l⟩,e,s⟩:=x
 rw [encCw_mk]
 simp only [PureL,Pure,true_and,and_true]
 exact encPls_pure l
def finC (c:List Df) (q:Qy) (v:AV):List AV:=[.sl (c.map encD), .sl (q.occ.map encI), .sl (q.p.map encE), .int q.by_, .sl (q.sums.map encI), .sl (q.out.map encI), .int q.ord,v]
set_option maxHeartbeats 8000000 in
theorem with0_ok (c:List Df) (hcl:c.length ≤ 1000000) (q:Qy) (hq:q.Ok) (hp8:q.p.length ≤ 8) (t:Tr) (ht:t.Ok) (e:Int) (s:Bool) (y:Cw) (hy:optOne c q t (e,s) = y) (i j:Nat) (H:AH) (hi:i < H.nxt) (hj:j < H.nxt) (ho:H.obj i = some (.cells 8 [finC c q (.rsl j 8 0 0)] 0)) (hr:H.obj j = some (.cells 8 [] 0)) (hv:validT c q t (needsQ q e) = true) :
  ACalls Go.Proofs.Tryz.prog 42 [.ptr i 8 0 0, .agg (encT t), .agg (encEnd (e,s))] H (fun r H'=>r = .tup [] ∧ H' = (H.set i (.cells 8 [finC c q (.rsl (H.nxt + 3) 8 0 1)] 0)).plus [some (.cells 2 [encT t] 0),some (.cells 7 [encW y.2.1 y.2.2.1 y.2.2.2] 0),some (.cells 5 [encPl y.2.1] 0),some (.cells 8 [encCw y] 0)]):=by
 subst hy
 unfold optOne
 dsimp only
 have hN:=Needs_ok q plO e s
 have hX:=Extra_ok c hcl q hq plO e s
 have hB:=Best_ok c hcl q hq hp8 t ht (needsQ q e)
 rw [bestR,if_pos hv] at hB
 rw [show encW plO e s = encEnd (e,s) from rfl] at hN hX
 generalize needsQ q e = nd at hN hB ⊢
 generalize extraQ c q e s = X at hX ⊢
 generalize bestF c q 4 t nd = x at hB ⊢
 obtain ⟨n,op,occ,a,b,l⟩:=x
 dsimp only at hB ⊢
 have hA:=AddK_ok [n,X] (by simp)
 generalize addK [n,X] = m at hA ⊢
 rw [encEnd_mk] at hN hX
 rw [encEnd_mk]
 unfold finC at ho ⊢
 refine acalls_sc (rs:=#[]) Go.Proofs.Tryz.func42 rfl rfl rfl mixed rfl (Nat.le_of_ble_eq_true rfl) fun hs _=>?_
 have hob:∀ l,(H.plus l).obj i = some (.cells 8 [[.sl (c.map encD), .sl (q.occ.map encI), .sl (q.p.map encE), .int q.by_, .sl (q.sums.map encI), .sl (q.out.map encI), .int q.ord, .rsl j 8 0 0]] 0):=fun l=>by rw [plus_low H l hi]; exact ho
 have hoj:∀ l,(H.plus l).obj j = some (.cells 8 [] 0):=fun l=>by rw [plus_low H l hj]; exact hr
 have hset:∀ l o,(H.plus l).set i o = (H.set i o).plus l:=fun l o=>plus_setlow H l hi o
 push_cast -implicitDefEqProofs [eq_self,iff_self,encQ,if_false,if_true,or_true,or_false,true_or,false_or,List.map_cons,List.map_nil,List.length_cons,List.length_nil,List.cons_append,List.nil_append,List.append_nil,List.set_cons_zero,List.set_cons_succ,hob,hoj,hset]
 refine areg_at 23 (by kernel_rfl) (by kernel_rfl) ?_
 push_cast -implicitDefEqProofs [eq_self,iff_self,encQ,if_false,if_true,or_true,or_false,true_or,false_or,List.map_cons,List.map_nil,List.length_cons,List.length_nil,List.cons_append,List.nil_append,List.append_nil,List.set_cons_zero,List.set_cons_succ,hob,hoj,hset]
 refine ahdq hN ?_
 push_cast -implicitDefEqProofs [eq_self,iff_self,encQ,if_false,if_true,or_true,or_false,true_or,false_or,List.map_cons,List.map_nil,List.length_cons,List.length_nil,List.cons_append,List.nil_append,List.append_nil,List.set_cons_zero,List.set_cons_succ,hob,hoj,hset]
 refine ahdq hB ?_
 push_cast -implicitDefEqProofs [eq_self,iff_self,encQ,if_false,if_true,or_true,or_false,true_or,false_or,List.map_cons,List.map_nil,List.length_cons,List.length_nil,List.cons_append,List.nil_append,List.append_nil,List.set_cons_zero,List.set_cons_succ,hob,hoj,hset]
 refine areg_im [40] 13 (by kernel_rfl) (by kernel_rfl) ?_
 push_cast -implicitDefEqProofs [eq_self,iff_self,encQ,if_false,if_true,or_true,or_false,true_or,false_or,List.map_cons,List.map_nil,List.length_cons,List.length_nil,List.cons_append,List.nil_append,List.append_nil,List.set_cons_zero,List.set_cons_succ,hob,hoj,hset]
 refine ahdq hX ?_
 push_cast -implicitDefEqProofs [eq_self,iff_self,encQ,if_false,if_true,or_true,or_false,true_or,false_or,List.map_cons,List.map_nil,List.length_cons,List.length_nil,List.cons_append,List.nil_append,List.append_nil,List.set_cons_zero,List.set_cons_succ,hob,hoj,hset]
 refine ahdq hA ?_
 push_cast -implicitDefEqProofs [eq_self,iff_self,encQ,if_false,if_true,or_true,or_false,true_or,false_or,List.map_cons,List.map_nil,List.length_cons,List.length_nil,List.cons_append,List.nil_append,List.append_nil,List.set_cons_zero,List.set_cons_succ,hob,hoj,hset,List.getD_nil,List.drop_nil]
 refine gskip ?_
 push_cast -implicitDefEqProofs [eq_self,iff_self,encQ,if_false,if_true,or_true,or_false,true_or,false_or,List.map_cons,List.map_nil,List.length_cons,List.length_nil,List.cons_append,List.nil_append,List.append_nil,List.set_cons_zero,List.set_cons_succ,hob,hoj,hset]
 refine retk trivial ⟨rfl, ?_⟩
 rw [encW_mk,encCw_mk]
set_option maxHeartbeats 8000000 in
theorem with1_ok (c:List Df) (hcl:c.length ≤ 1000000) (q:Qy) (hq:q.Ok) (hp8:q.p.length ≤ 8) (t:Tr) (ht:t.Ok) (e:Int) (s:Bool) (y:Cw) (hy:optOne c q t (e,s) = y) (i j:Nat) (H:AH) (hi:i < H.nxt) (hj:j < H.nxt) (x0:Cw) (ho:H.obj i = some (.cells 8 [finC c q (.rsl j 8 0 1)] 0)) (hr:H.obj j = some (.cells 8 [encCw x0] 0)) (hv:validT c q t (needsQ q e) = true) :
  ACalls Go.Proofs.Tryz.prog 42 [.ptr i 8 0 0, .agg (encT t), .agg (encEnd (e,s))] H (fun r H'=>r = .tup [] ∧ ((y.1 < x0.1 → H' = (H.set i (.cells 8 [finC c q (.rsl (H.nxt + 3) 8 0 1)] 0)).plus [some (.cells 2 [encT t] 0),some (.cells 7 [encW y.2.1 y.2.2.1 y.2.2.2] 0),some (.cells 5 [encPl y.2.1] 0),some (.cells 8 [encCw y] 0)]) ∧ (¬ y.1 < x0.1 → H' = H.plus [some (.cells 2 [encT t] 0),some (.cells 7 [encEnd (e,s)] 0),some (.cells 5 [encPl y.2.1] 0)]))):=by
 subst hy
 unfold optOne
 dsimp only
 have hN:=Needs_ok q plO e s
 have hX:=Extra_ok c hcl q hq plO e s
 have hB:=Best_ok c hcl q hq hp8 t ht (needsQ q e)
 rw [bestR,if_pos hv] at hB
 rw [show encW plO e s = encEnd (e,s) from rfl] at hN hX
 generalize needsQ q e = nd at hN hB ⊢
 generalize extraQ c q e s = X at hX ⊢
 generalize bestF c q 4 t nd = x at hB ⊢
 obtain ⟨n,op,occ,a,b,l⟩:=x
 dsimp only at hB ⊢
 have hA:=AddK_ok [n,X] (by simp)
 generalize addK [n,X] = m at hA ⊢
 rw [encEnd_mk] at hN hX
 rw [encEnd_mk]
 unfold finC at ho ⊢
 obtain ⟨n0,⟨o0,c0,a0,b0,l0⟩,e0,s0⟩:=x0
 rw [encCw_mk] at hr
 refine acalls_sc (rs:=#[]) Go.Proofs.Tryz.func42 rfl rfl rfl mixed rfl (Nat.le_of_ble_eq_true rfl) fun hs _=>?_
 have hob:∀ l,(H.plus l).obj i = some (.cells 8 [[.sl (c.map encD), .sl (q.occ.map encI), .sl (q.p.map encE), .int q.by_, .sl (q.sums.map encI), .sl (q.out.map encI), .int q.ord, .rsl j 8 0 1]] 0):=fun l=>by rw [plus_low H l hi]; exact ho
 have hoj:∀ l,(H.plus l).obj j = some (.cells 8 [[.int o0, .int c0, .int a0, .int b0, .sl (l0.map encPl), .int e0, .bool s0, .int n0]] 0):=fun l=>by rw [plus_low H l hj]; exact hr
 have hset:∀ l o,(H.plus l).set i o = (H.set i o).plus l:=fun l o=>plus_setlow H l hi o
 push_cast -implicitDefEqProofs [eq_self,iff_self,encQ,if_false,if_true,or_true,or_false,true_or,false_or,List.map_cons,List.map_nil,List.length_cons,List.length_nil,List.cons_append,List.nil_append,List.append_nil,List.set_cons_zero,List.set_cons_succ,hob,hoj,hset]
 refine areg_at 23 (by kernel_rfl) (by kernel_rfl) ?_
 push_cast -implicitDefEqProofs [eq_self,iff_self,encQ,if_false,if_true,or_true,or_false,true_or,false_or,List.map_cons,List.map_nil,List.length_cons,List.length_nil,List.cons_append,List.nil_append,List.append_nil,List.set_cons_zero,List.set_cons_succ,hob,hoj,hset]
 refine ahdq hN ?_
 push_cast -implicitDefEqProofs [eq_self,iff_self,encQ,if_false,if_true,or_true,or_false,true_or,false_or,List.map_cons,List.map_nil,List.length_cons,List.length_nil,List.cons_append,List.nil_append,List.append_nil,List.set_cons_zero,List.set_cons_succ,hob,hoj,hset]
 refine ahdq hB ?_
 push_cast -implicitDefEqProofs [eq_self,iff_self,encQ,if_false,if_true,or_true,or_false,true_or,false_or,List.map_cons,List.map_nil,List.length_cons,List.length_nil,List.cons_append,List.nil_append,List.append_nil,List.set_cons_zero,List.set_cons_succ,hob,hoj,hset]
 refine areg_im [40] 13 (by kernel_rfl) (by kernel_rfl) ?_
 push_cast -implicitDefEqProofs [eq_self,iff_self,encQ,if_false,if_true,or_true,or_false,true_or,false_or,List.map_cons,List.map_nil,List.length_cons,List.length_nil,List.cons_append,List.nil_append,List.append_nil,List.set_cons_zero,List.set_cons_succ,hob,hoj,hset]
 refine ahdq hX ?_
 push_cast -implicitDefEqProofs [eq_self,iff_self,encQ,if_false,if_true,or_true,or_false,true_or,false_or,List.map_cons,List.map_nil,List.length_cons,List.length_nil,List.cons_append,List.nil_append,List.append_nil,List.set_cons_zero,List.set_cons_succ,hob,hoj,hset]
 refine ahdq hA ?_
 by_cases hlt:m < n0
 ·have hlt':(m < n0) = True:=by simp [hlt]
  push_cast -implicitDefEqProofs [eq_self,iff_self,encQ,if_false,if_true,or_true,or_false,true_or,false_or,List.map_cons,List.map_nil,List.length_cons,List.length_nil,List.cons_append,List.nil_append,List.append_nil,List.set_cons_zero,List.set_cons_succ,hob,hoj,hset,hlt]
  refine retk trivial ⟨rfl, ?_⟩
  rw [encW_mk,encCw_mk]
 ·have hlt':(m < n0) = False:=by simp [hlt]
  push_cast -implicitDefEqProofs [eq_self,iff_self,encQ,if_false,if_true,or_true,or_false,true_or,false_or,List.map_cons,List.map_nil,List.length_cons,List.length_nil,List.cons_append,List.nil_append,List.append_nil,List.set_cons_zero,List.set_cons_succ,hob,hoj,hset,hlt]
  exact retk trivial ⟨rfl,rfl⟩
end
section
mutual
theorem sameT_eq':∀ p q:Tr,sameT p q = true → p = q
 | .mk o l, .mk o' m,h=>by
  simp only [sameT,Bool.and_eq_true,decide_eq_true_eq] at h
  obtain ⟨rfl,h⟩:=h
  rw [sameTL_eq' l m h]
theorem sameTL_eq':∀ l m:List Tr,sameTL l m = true → l = m
 | [],[],_=>rfl
 | x :: l,y :: m,h=>by
  simp only [sameTL,Bool.and_eq_true] at h
  rw [sameT_eq' x y h.1,sameTL_eq' l m h.2]
 | [],_ :: _,h=>by simp [sameTL] at h
 | _ :: _,[],h=>by simp [sameTL] at h
end
theorem all_small':∀ i:Fin 15,sameTL (allT 3 (i.val:Int)) (allT 4 (i.val:Int)) = true:=by decide +kernel
theorem all_small {a:Int} (h0:0 ≤ a) (h:a < 15):allT 3 a = allT 4 a:=by
 obtain ⟨i,rfl⟩:∃ i:Fin 15,a = (i.val:Int):=⟨⟨a.toNat,by omega⟩,by simp; omega⟩
 exact sameTL_eq' _ _ (all_small' i)
theorem cutT_congr {f g:Int → List Tr} {s a:Int} (h:∀ x:Int,0 ≤ x → x < 15 → f x = g x) (ha:1 ≤ a) (hs:s ≤ 15):cutT f s a = cutT g s a:=by
 unfold cutT
 split
 ·rename_i hc
  simp only [Bool.and_eq_true,decide_eq_true_eq] at hc
  rw [h a (by omega) (by omega),h (s - a) (by omega) (by omega)]
 ·rfl
theorem all_len (a:Int):(allT 4 a).length ≤ 120:=by
 by_cases h:1 ≤ a ∧ a < 16
 ·obtain ⟨i,rfl⟩:∃ i:Fin 16,a = (i.val:Int):=⟨⟨a.toNat,by omega⟩,by simp; omega⟩
  clear h
  revert i
  decide +kernel
 ·rw [allT,if_neg h]; simp
theorem all_out {s:Int} (h:¬ (1 ≤ s ∧ s < 16)):allT 4 s = []:=by rw [allT,if_neg h]
def cutsU (s:Int) (n:Nat):List Tr:=(List.range n).flatMap fun (k:Nat)=>cutT (allT 4) s ((k:Int) + 1)
theorem cutsU_zero (s:Int):cutsU s 0 = []:=rfl
theorem cutsU_succ (s:Int) (n:Nat):cutsU s (n + 1) = cutsU s n ++ cutT (allT 4) s ((n:Int) + 1):=by
 rw [cutsU,cutsU,List.range_succ,List.flatMap_append,List.flatMap_cons,List.flatMap_nil,List.append_nil]
theorem cutT_none {f:Int → List Tr} {s a:Int} (h:s ≤ a):cutT f s a = []:=by
 unfold cutT
 rw [if_neg]
 simp only [Bool.and_eq_true,decide_eq_true_eq]
 omega
theorem cutsU_end {s:Int} {n:Nat} (h:s ≤ (n:Int) + 1) (m:Nat):cutsU s (n + m) = cutsU s n:=by
 induction m with
 | zero=>rfl
 | succ m ih=>rw [← Nat.add_assoc,cutsU_succ,ih,cutT_none (by omega),List.append_nil]
theorem allT_parts {s:Int} (h1:1 ≤ s) (h2:s < 16) {n:Nat} (hn:s ≤ (n:Int) + 1) (hm:n ≤ 15):allT 4 s = leafSet s ++ cutsU s n:=by
 have e:cutsU s n = cutsU s 15:=by
  have:=cutsU_end hn (15 - n)
  rw [show n + (15 - n) = 15 by omega] at this
  exact this.symm
 rw [e,allT,if_pos ⟨h1,h2⟩,cutsU]
 congr 1
 exact congrArg (fun f=>List.flatMap f (List.range 15)) (funext fun k=>cutT_congr (fun x=>all_small) (by omega) (by omega))
theorem flatT_len {α β:Type} {f:α → List β} {m:Nat} (h:∀ x,(f x).length ≤ m):∀ l:List α,(l.flatMap f).length ≤ l.length * m
 | []=>by simp
 | x :: l=>by
  rw [List.flatMap_cons,List.length_append,List.length_cons,Nat.succ_mul]
  have:=flatT_len h l
  have:=h x
  omega
theorem cutT_len (s a:Int):(cutT (allT 4) s a).length ≤ 14400:=by
 unfold cutT
 split
 ·have h:=flatT_len (f:=fun x=>(allT 4 (s - a)).map fun y=>Tr.join x y) (m:=120) (fun x=>by rw [List.length_map]; exact all_len _) (allT 4 a)
  have:=all_len a
  omega
 ·simp
theorem cutsU_len (s:Int) (n:Nat):(cutsU s n).length ≤ n * 14400:=by
 have h:=flatT_len (f:=fun (k:Nat)=>cutT (allT 4) s ((k:Int) + 1)) (m:=14400) (fun x=>cutT_len _ _) (List.range n)
 rw [List.length_range] at h
 exact h
def leafU (s:Int) (n:Nat):List Tr:=((List.range n).filter fun (o:Nat)=>decide (s = 2 ^ o)).map fun (o:Nat)=>Tr.leaf (o:Int)
theorem leafU_zero (s:Int):leafU s 0 = []:=rfl
theorem leafU_four (s:Int):leafU s 4 = leafSet s:=rfl
theorem leafU_succ (s:Int) (n:Nat):leafU s (n + 1) = leafU s n ++ (if s = 2 ^ n then [.leaf (n:Int)] else []):=by
 rw [leafU,leafU,List.range_succ,List.filter_append,List.map_append]
 congr 1
 by_cases h:s = 2 ^ n
 ·rw [if_pos h,List.filter_cons,if_pos (decide_eq_true h)]; rfl
 ·rw [if_neg h,List.filter_cons,if_neg (by simpa using h)]; rfl
theorem leafU_len (s:Int) (n:Nat):(leafU s n).length ≤ n:=by
 rw [leafU,List.length_map]
 have:=List.length_filter_le (fun (o:Nat)=>decide (s = (2:Int) ^ o)) (List.range n)
 rw [List.length_range] at this
 exact this
def xsU (X Y:List Tr) (i:Nat):List Tr:=(X.take i).flatMap fun x=>Y.map fun y=>Tr.join x y
theorem xsU_zero (X Y:List Tr):xsU X Y 0 = []:=rfl
theorem xsU_succ (X Y:List Tr) {i:Nat} (h:i < X.length):xsU X Y (i + 1) = xsU X Y i ++ Y.map fun y=>Tr.join X[i] y:=by
 rw [xsU,xsU,List.take_succ_eq_append_getElem h,List.flatMap_append,List.flatMap_cons,List.flatMap_nil,List.append_nil]
theorem xsU_all (X Y:List Tr):xsU X Y X.length = X.flatMap fun x=>Y.map fun y=>Tr.join x y:=by rw [xsU,List.take_length]
theorem xsU_len (X Y:List Tr) (hX:X.length ≤ 120) (hY:Y.length ≤ 120) (i:Nat):(xsU X Y i).length ≤ 14400:=by
 have h:=flatT_len (f:=fun x=>Y.map fun y=>Tr.join x y) (m:=120) (fun x=>by rw [List.length_map]; exact hY) (X.take i)
 have:(X.take i).length ≤ 120:=by rw [List.length_take]; omega
 unfold xsU
 omega
def ysU (x:Tr) (Y:List Tr) (j:Nat):List Tr:=(Y.take j).map fun y=>Tr.join x y
theorem ysU_zero (x:Tr) (Y:List Tr):ysU x Y 0 = []:=rfl
theorem ysU_succ (x:Tr) (Y:List Tr) {j:Nat} (h:j < Y.length):ysU x Y (j + 1) = ysU x Y j ++ [.join x Y[j]]:=by
 rw [ysU,ysU,List.take_succ_eq_append_getElem h,List.map_append]; rfl
theorem ysU_all (x:Tr) (Y:List Tr):ysU x Y Y.length = Y.map fun y=>Tr.join x y:=by rw [ysU,List.take_length]
theorem ysU_len (x:Tr) (Y:List Tr) (j:Nat):(ysU x Y j).length ≤ Y.length:=by rw [ysU,List.length_map,List.length_take]; omega
def rowJ (R S:List Tr):List Tr:=R ++ S
theorem rowJ_nil (R:List Tr):rowJ R [] = R:=List.append_nil R
theorem rowJ_len (R S:List Tr):(rowJ R S).length = R.length + S.length:=List.length_append
theorem rowJ_app (R S T:List Tr):rowJ R (S ++ T) = rowJ (rowJ R S) T:=(List.append_assoc R S T).symm
theorem rowJ_one (R:List Tr) (t:Tr):(rowJ R [t]).length = R.length + 1:=List.length_append
def manyI (s:Int):Int:=s.tmod 2 + (s.tdiv 2).tmod 2 + (s.tdiv 4).tmod 2 + (s.tdiv 8).tmod 2
theorem many_one {s:Int} (h1:1 ≤ s) (h2:s < 16):(manyI s = 1 ∧ ∃ j:Nat,j ≤ 3 ∧ s = 2 ^ j ∧ allT 4 s = [.leaf (j:Int)]) ∨ (manyI s ≠ 1 ∧ leafSet s = []):=by
 have hc:s = 1 ∨ s = 2 ∨ s = 4 ∨ s = 8 ∨ (s ≠ 1 ∧ s ≠ 2 ∧ s ≠ 4 ∧ s ≠ 8):=by omega
 rcases hc with rfl | rfl | rfl | rfl | h
 ·exact .inl ⟨by decide,0,by omega,rfl,by rfl⟩
 ·exact .inl ⟨by decide,1,by omega,rfl,by rfl⟩
 ·exact .inl ⟨by decide,2,by omega,rfl,by rfl⟩
 ·exact .inl ⟨by decide,3,by omega,rfl,by rfl⟩
 ·right
  obtain ⟨i,rfl⟩:∃ i:Fin 16,s = (i.val:Int):=⟨⟨s.toNat,by omega⟩,by simp; omega⟩
  refine ⟨?_,List.eq_nil_iff_length_eq_zero.2 ?_⟩
  ·clear h1 h2; revert h; revert i; decide +kernel
  ·clear h1 h2; revert h; revert i; decide +kernel
theorem half_pow {j k:Nat} (hj:j ≤ 3) (hk:k ≤ j):if k < j then 1 < (2:Int) ^ (j - k) ∧ ((2:Int) ^ (j - k)).tdiv 2 = 2 ^ (j - (k + 1)) else (2:Int) ^ (j - k) = 1:=by
 obtain ⟨j',rfl⟩:∃ i:Fin 4,j = i.val:=⟨⟨j,by omega⟩,rfl⟩
 obtain ⟨k',rfl⟩:∃ i:Fin 4,k = i.val:=⟨⟨k,by omega⟩,rfl⟩
 clear hj
 revert hk
 revert j' k'
 decide +kernel
end
section
attribute [local push_cast] encT_mk encT_take encT_len encT_one encTs_pure encT_pure
theorem AllT_out {s:Int} (h:¬ (1 ≤ s ∧ s < 16)):Quiet Go.Proofs.Tryz.prog 23 [.int s] (.sl ((allT 4 s).map encT)):=by
 rw [all_out h]
 refine quiet_of (rs:=#[.tmp 2]) Go.Proofs.Tryz.func23 rfl rfl rfl mixed rfl rfl fun H hs=>?_
 by_cases h1:s < 1
 ·have h1':(s < 1) = True:=by simp [h1]
  push_cast -implicitDefEqProofs [eq_self,iff_self,h1',List.map_nil]
 ·have h1':(s < 1) = False:=by simp [h1]
  have h2':(16 ≤ s) = True:=by simp; omega
  push_cast -implicitDefEqProofs [eq_self,iff_self,h1',h2',List.map_nil]
set_option maxHeartbeats 8000000 in
theorem AllT_in (s:Int) (h1:1 ≤ s) (h2:s < 16) (ih:∀ a:Int,a < s → Quiet Go.Proofs.Tryz.prog 23 [.int a] (.sl ((allT 4 a).map encT))):Quiet Go.Proofs.Tryz.prog 23 [.int s] (.sl ((allT 4 s).map encT)):=by
 have h1':(s < 1) = False:=by simp; omega
 have h2':(16 ≤ s) = False:=by simp; omega
 refine quiet_of (rs:=#[.tmp 2]) Go.Proofs.Tryz.func23 rfl rfl rfl mixed rfl rfl fun H hs=>?_
 push_cast -implicitDefEqProofs [eq_self,iff_self,h1',h2']
 refine loop_at hs (σ:=Nat) (fun o=>o ≤ 4) (fun o=>4 - o)
  (fun o=>[(16, .int o),(0, .int s),(3, .rsl (H.nxt + 0) 2 0 (leafU s o).length)]) (fun o=>[some (.cells 2 ((leafU s o).map encT) 0)]) [none] 0 (by omega) rfl ?_ ?_ ?_
 ·(try push_cast -implicitDefEqProofs [eq_self,iff_self,leafU_zero,List.map_nil])
 ·(try push_cast -implicitDefEqProofs [eq_self,iff_self,leafU_zero,List.map_nil])
 ·intro o ho
  have hlen:=leafU_len s o
  have hsn:=leafU_succ s o
  by_cases hol:o < 4
  ·have ho':((o:Int) < 4) = True:=by simp; omega
   have ho0:(0 ≤ (o:Int)) = True:=by simp
   have hp:=shl_pow o (by omega)
   generalize leafU s o = row at hlen hsn ⊢
   have hL:=Leaf_ok (o:Int)
   generalize Tr.leaf (o:Int) = lf at hsn hL
   push_cast -implicitDefEqProofs [eq_self,iff_self,ho',ho0,hp]
   refine ⟨fun h=>?_,fun h=>?_⟩
   ·refine callq hL ?_
    push_cast -implicitDefEqProofs [eq_self,iff_self]
    rw [if_pos h] at hsn
    have hln:(leafU s (o + 1)).length = row.length + 1:=by rw [hsn,List.length_append]; rfl
    have hrw:(leafU s (o + 1)).map encT = row.map encT ++ [encT lf]:=by rw [hsn,List.map_append]; rfl
    have hcap:List.take row.length (row.map encT) = row.map encT:=List.take_of_length_le (by simp)
    rw [wrap64 (n:=(o:Int) + 1) (by omega) (by omega)]
    refine ⟨by omega,next_at [some 2] (o + 1) (by omega) (by omega) rfl ?_ ?_⟩
    ·(try push_cast -implicitDefEqProofs [eq_self,iff_self,hln])
    ·(try push_cast -implicitDefEqProofs [eq_self,iff_self,hcap])
     rw [hrw]
     exact ⟨sealLL_snoc (sealLL_pure _ _ _ (encTs_pure row)) (sealL_pure _ _ _ (encT_pure lf)),fun e he=>by rw [← hrw] at he; exact of_eq_true (encTs_two _) e he⟩
   ·rw [if_neg h,List.append_nil] at hsn
    rw [wrap64 (n:=(o:Int) + 1) (by omega) (by omega)]
    refine next_at [some 0] (o + 1) (by omega) (by omega) rfl ?_ ?_
    ·(try push_cast -implicitDefEqProofs [eq_self,iff_self,hsn])
    ·(try push_cast -implicitDefEqProofs [eq_self,iff_self,hsn])
     exact of_eq_true (encTs_two _)
  ·have ho':((o:Int) < 4) = False:=by simp; omega
   have e4:leafU s o = leafSet s:=by rw [show o = 4 by omega,leafU_four]
   rw [e4]
   have hl4:(leafSet s).length ≤ 4:=leafU_len s 4
   push_cast -implicitDefEqProofs [eq_self,iff_self,ho']
   refine loop_at hs (σ:=Nat) (fun n=>(n:Int) < s) (fun n=>16 - n)
    (fun n=>[(5, .int ((n:Int) + 1)),(0, .int s),(3, .rsl (H.nxt + 0) 2 0 (rowJ (leafSet s) (cutsU s n)).length)]) (fun n=>[some (.cells 2 ((rowJ (leafSet s) (cutsU s n)).map encT) 0)]) [some 0] 0 (by omega) rfl ?_ ?_ ?_
   ·(try push_cast -implicitDefEqProofs [eq_self,iff_self,cutsU_zero,rowJ_nil,Int.zero_add])
   ·(try push_cast -implicitDefEqProofs [eq_self,iff_self,cutsU_zero,rowJ_nil])
    exact of_eq_true (encTs_two _)
   intro n hn
   have hcl:=cutsU_len s n
   have hsu:=cutsU_succ s n
   have hal:(rowJ (leafSet s) (cutsU s n)).length ≤ 4 + n * 14400:=by rw [rowJ_len]; omega
   by_cases hna:(n:Int) + 1 < s
   ·have hna':((n:Int) + 1 < s) = True:=by simp [hna]
    have hrow1:rowJ (leafSet s) (cutsU s (n + 1)) = rowJ (rowJ (leafSet s) (cutsU s n)) (cutT (allT 4) s ((n:Int) + 1)):=by rw [hsu,rowJ_app]
    generalize hR:rowJ (leafSet s) (cutsU s n) = row at hal hrow1 ⊢
    have hX:=ih ((n:Int) + 1) hna
    have hY:=ih (s - ((n:Int) + 1)) (by omega)
    have hXl:=all_len ((n:Int) + 1)
    have hYl:=all_len (s - ((n:Int) + 1))
    by_cases hb:band .i64 ((n:Int) + 1) s = (n:Int) + 1
    ·have hb':(band .i64 ((n:Int) + 1) s = (n:Int) + 1) = True:=by simp [hb]
     rw [cutT,if_pos (by rw [decide_eq_true hna,decide_eq_true hb]; rfl)] at hrow1
     generalize allT 4 ((n:Int) + 1) = X at hX hXl hrow1
     generalize allT 4 (s - ((n:Int) + 1)) = Y at hY hYl hrow1
     rw [← xsU_all] at hrow1
     push_cast -implicitDefEqProofs [eq_self,iff_self,hna',hb']
     refine callq hX ?_
     push_cast -implicitDefEqProofs [eq_self,iff_self]
     refine loop_at hs (σ:=Nat) (fun i=>i ≤ X.length) (fun i=>X.length - i)
      (fun i=>[(42, .int i),(41, .int X.length),(40, .sl (X.map encT)),(5, .int ((n:Int) + 1)),(0, .int s),(3, .rsl (H.nxt + 0) 2 0 (rowJ row (xsU X Y i)).length)]) (fun i=>[some (.cells 2 ((rowJ row (xsU X Y i)).map encT) 0)]) [some 0] 0 (by omega) rfl ?_ ?_ ?_
     ·(try push_cast -implicitDefEqProofs [eq_self,iff_self,xsU_zero,rowJ_nil,encTs_pure])
     ·(try push_cast -implicitDefEqProofs [eq_self,iff_self,xsU_zero,rowJ_nil,encTs_pure])
      exact of_eq_true (encTs_two _)
     intro i hi2
     have hxl:=xsU_len X Y hXl hYl i
     have hxr:(rowJ row (xsU X Y i)).length ≤ 4 + n * 14400 + 14400:=by rw [rowJ_len]; omega
     by_cases hi:i < X.length
     ·have hi':((i:Int) < (X.length:Int)) = True:=by simp; omega
      have hi0:(0 ≤ (i:Int)) = True:=by simp
      have hxs:rowJ row (xsU X Y (i + 1)) = rowJ (rowJ row (xsU X Y i)) (ysU X[i] Y Y.length):=by rw [xsU_succ X Y hi,rowJ_app,ysU_all]
      generalize hR2:rowJ row (xsU X Y i) = row2 at hxr hxs ⊢
      have hget:=encTs_get X i hi
      generalize X[i] = x at hget hxs
      push_cast -implicitDefEqProofs [eq_self,iff_self,hi',hi0,hget]
      rw [wrap64 (n:=s - ((n:Int) + 1)) (by omega) (by omega)]
      refine callq hY ?_
      push_cast -implicitDefEqProofs [eq_self,iff_self]
      refine loop_at hs (σ:=Nat) (fun j=>j ≤ Y.length) (fun j=>Y.length - j)
       (fun j=>[(51, .int j),(50, .int Y.length),(49, .sl (Y.map encT)),(7, .ptr (H.nxt + 1) 2 0 0),(42, .int i),(41, .int X.length),(40, .sl (X.map encT)),(5, .int ((n:Int) + 1)),(0, .int s),(3, .rsl (H.nxt + 0) 2 0 (rowJ row2 (ysU x Y j)).length)]) (fun j=>[some (.cells 2 ((rowJ row2 (ysU x Y j)).map encT) 0),some (.cells 2 [encT x] 0)]) [some 0,some 1] 0 (by omega) rfl ?_ ?_ ?_
      ·(try push_cast -implicitDefEqProofs [eq_self,iff_self,ysU_zero,rowJ_nil,encTs_pure])
      ·(try push_cast -implicitDefEqProofs [eq_self,iff_self,ysU_zero,rowJ_nil,encTs_pure])
       exact of_eq_true (encTs_two _)
      intro j hj2
      have hyl:=ysU_len x Y j
      have hyr:(rowJ row2 (ysU x Y j)).length ≤ 4 + n * 14400 + 14400 + 120:=by rw [rowJ_len]; omega
      by_cases hj:j < Y.length
      ·have hj':((j:Int) < (Y.length:Int)) = True:=by simp; omega
       have hj0:(0 ≤ (j:Int)) = True:=by simp
       have hys:rowJ row2 (ysU x Y (j + 1)) = rowJ (rowJ row2 (ysU x Y j)) [.join x Y[j]]:=by rw [ysU_succ x Y hj,rowJ_app]
       generalize hR3:rowJ row2 (ysU x Y j) = row3 at hyr hys ⊢
       have hget2:=encTs_get Y j hj
       have hJ:=Join_ok x Y[j]
       generalize Y[j] = y at hget2 hys hJ
       generalize Tr.join x y = xy at hys hJ
       push_cast -implicitDefEqProofs [eq_self,iff_self,hj',hj0,hget2]
       refine callq hJ ?_
       push_cast -implicitDefEqProofs [eq_self,iff_self]
       have hln:(rowJ row2 (ysU x Y (j + 1))).length = row3.length + 1:=by rw [hys,rowJ_one]
       have hrw:(rowJ row2 (ysU x Y (j + 1))).map encT = row3.map encT ++ [encT xy]:=by rw [hys,rowJ,List.map_append]; rfl
       have hcap:List.take row3.length (row3.map encT) = row3.map encT:=List.take_of_length_le (by simp)
       rw [wrap64 (n:=(j:Int) + 1) (by omega) (by omega)]
       refine ⟨by omega,next_at [some 4,some 1] (j + 1) (by omega) (by omega) rfl ?_ ?_⟩
       ·(try push_cast -implicitDefEqProofs [eq_self,iff_self,hln,encTs_pure])
       ·(try push_cast -implicitDefEqProofs [eq_self,iff_self,hcap])
        rw [hrw]
        exact ⟨sealLL_snoc (sealLL_pure _ _ _ (encTs_pure row3)) (sealL_pure _ _ _ (encT_pure xy)),fun e he=>by rw [← hrw] at he; exact of_eq_true (encTs_two _) e he⟩
      ·have hj':((j:Int) < (Y.length:Int)) = False:=by simp; omega
       obtain rfl:j = Y.length:=by omega
       rw [← hxs]
       push_cast -implicitDefEqProofs [eq_self,iff_self,hj']
       rw [wrap64 (n:=(i:Int) + 1) (by omega) (by omega)]
       refine next_at [some 0] (i + 1) (by omega) (by omega) rfl ?_ ?_
       ·(try push_cast -implicitDefEqProofs [eq_self,iff_self,encTs_pure])
       ·(try push_cast -implicitDefEqProofs [eq_self,iff_self,encTs_pure])
        exact of_eq_true (encTs_two _)
     ·have hi':((i:Int) < (X.length:Int)) = False:=by simp; omega
      obtain rfl:i = X.length:=by omega
      rw [← hrow1]
      push_cast -implicitDefEqProofs [eq_self,iff_self,hi']
      rw [wrap64 (n:=(n:Int) + 1 + 1) (by omega) (by omega)]
      refine next_at [some 0] (n + 1) (by omega) (by omega) rfl ?_ ?_
      ·(try push_cast -implicitDefEqProofs [eq_self,iff_self,encTs_pure])
      ·(try push_cast -implicitDefEqProofs [eq_self,iff_self,encTs_pure])
       exact of_eq_true (encTs_two _)
    ·have hb':(band .i64 ((n:Int) + 1) s = (n:Int) + 1) = False:=by simp [hb]
     rw [cutT,if_neg (by rw [decide_eq_false hb,Bool.and_false]; exact Bool.false_ne_true),rowJ_nil] at hrow1
     push_cast -implicitDefEqProofs [eq_self,iff_self,hna',hb']
     rw [wrap64 (n:=(n:Int) + 1 + 1) (by omega) (by omega)]
     refine next_at [some 0] (n + 1) (by omega) (by omega) rfl ?_ ?_
     ·(try push_cast -implicitDefEqProofs [eq_self,iff_self,hrow1])
     ·(try push_cast -implicitDefEqProofs [eq_self,iff_self,hrow1])
      exact of_eq_true (encTs_two _)
   ·have hna':((n:Int) + 1 < s) = False:=by simp; omega
    have hp:=allT_parts h1 h2 (n:=n) (by omega) (by omega)
    have hp':rowJ (leafSet s) (cutsU s n) = allT 4 s:=hp.symm
    rw [hp']
    have hcap:List.take (allT 4 s).length ((allT 4 s).map encT) = (allT 4 s).map encT:=List.take_of_length_le (by simp)
    push_cast -implicitDefEqProofs [eq_self,iff_self,hna']
    rw [hcap]
    exact sealLL_pure _ _ _ (encTs_pure _)
theorem AllT_n:∀ (n:Nat) (s:Int),s < (n:Int) → Quiet Go.Proofs.Tryz.prog 23 [.int s] (.sl ((allT 4 s).map encT)):=by
 intro n
 induction n with
 | zero=>intro s hs; exact AllT_out (by omega)
 | succ n ih =>
  intro s hs
  by_cases h:1 ≤ s ∧ s < 16
  ·exact AllT_in s h.1 h.2 fun a ha=>ih a (by omega)
  ·exact AllT_out h
theorem AllT_ok (s:Int):Quiet Go.Proofs.Tryz.prog 23 [.int s] (.sl ((allT 4 s).map encT)):=AllT_n (s.toNat + 1) s (by omega)
end
section
attribute [local push_cast] encPl_mk encPl_take encPl_len encPl_one encPls_pure encPl_pure encT_pure encT_len encT_one encT_take
def encWh (w:Wh):List AV:=encW w.1 w.2.1 w.2.2
theorem encWh_mk (op occ a b:Int) (l:List Pl) (e:Int) (s:Bool):encWh (.mk op occ a b l,e,s) = [.int op, .int occ, .int a, .int b, .sl (l.map encPl), .int e, .bool s]:=by rw [encWh,encW_mk]
def soRow (acc:List Cw):List Cw:=if acc = [] then [] else [leastW acc]
theorem soRow_nil:soRow [] = []:=rfl
theorem soRow_some {acc:List Cw} (h:acc ≠ []):soRow acc = [leastW acc]:=if_neg h
def accO (c:List Df) (q:Qy) (T:List Tr) (i:Nat):List Cw:=(T.take i).flatMap fun t=>(endsQ q).map (optOne c q t)
theorem accO_zero (c:List Df) (q:Qy) (T:List Tr):accO c q T 0 = []:=rfl
theorem accO_succ (c:List Df) (q:Qy) (T:List Tr) {i:Nat} (h:i < T.length):accO c q T (i + 1) = accO c q T i ++ (endsQ q).map (optOne c q T[i]):=by
 rw [accO,accO,List.take_succ_eq_append_getElem h,List.flatMap_append,List.flatMap_cons,List.flatMap_nil,List.append_nil]
def accE (c:List Df) (q:Qy) (A:List Cw) (t:Tr) (k:Nat):List Cw:=A ++ ((endsQ q).take k).map (optOne c q t)
theorem accE_zero (c:List Df) (q:Qy) (A:List Cw) (t:Tr):accE c q A t 0 = A:=List.append_nil A
theorem accE_succ (c:List Df) (q:Qy) (A:List Cw) (t:Tr) {k:Nat} (h:k < (endsQ q).length):accE c q A t (k + 1) = accE c q A t k ++ [optOne c q t (endsQ q)[k]]:=by
 rw [accE,accE,List.take_succ_eq_append_getElem h,List.map_append,List.append_assoc]; rfl
theorem accE_all (c:List Df) (q:Qy) (A:List Cw) (t:Tr):accE c q A t (endsQ q).length = A ++ (endsQ q).map (optOne c q t):=by rw [accE,List.take_length]
theorem soRow_snoc (acc:List Cw) (y:Cw):(acc = [] ∧ soRow acc = [] ∧ soRow (acc ++ [y]) = [y]) ∨ (∃ x,soRow acc = [x] ∧ (y.1 < x.1 → soRow (acc ++ [y]) = [y]) ∧ (¬ y.1 < x.1 → soRow (acc ++ [y]) = [x])):=by
 by_cases h:acc = []
 ·left; subst h; exact ⟨rfl,rfl,rfl⟩
 ·right
  refine ⟨leastW acc,soRow_some h,fun hl=>?_,fun hl=>?_⟩
  ·rw [soRow_some (by simp),leastW_push h,if_pos hl]
  ·rw [soRow_some (by simp),leastW_push h,if_neg hl]
theorem encEnds_get (l:List (Int × Bool)) (i:Nat) (h:i < l.length):(l.map encEnd).getD i [] = encEnd l[i]:=getD_map encEnd l [] i h
theorem encEnd_pure (x:Int × Bool):PureL (encEnd x):=by
 obtain ⟨e,s⟩:=x
 rw [encEnd_mk]
 simp only [PureL,Pure,true_and,and_true,PureLL]
theorem encEnds_pure (l:List (Int × Bool)):PureLL (l.map encEnd):=by
 rw [pureLL_iff]
 simp only [List.mem_map]
 rintro _ ⟨x,_,rfl⟩
 exact encEnd_pure x
theorem encCws_pure (l:List Cw):PureLL (l.map encCw):=by
 rw [pureLL_iff]
 simp only [List.mem_map]
 rintro _ ⟨x,_,rfl⟩
 exact encCw_pure x
theorem encCws_all8 (l:List Cw):∀ e ∈ l.map encCw,e.length = 8:=by
 simp only [List.mem_map]
 rintro _ ⟨x,_,rfl⟩
 exact encCw_len x
theorem ends_len (q:Qy):(endsQ q).length ≤ 2:=by unfold endsQ; split <;> simp
theorem allT_ok {d:Nat} {s:Int} {t:Tr} (h:t ∈ allT d s):t.Ok:=by
 induction d generalizing s t with
 | zero=>cases h
 | succ d ih =>
  rw [allT] at h
  split at h
  ·rcases List.mem_append.1 h with h | h
   ·obtain ⟨o,_,_,rfl⟩:=leafSet_mem.1 h
    exact .mk (by simp) (by simp)
   ·obtain ⟨k,_,hk⟩:=List.mem_flatMap.1 h
    obtain ⟨_,x,hx,y,hy,rfl⟩:=cutT_mem.1 hk
    refine .mk (by simp) fun z hz=>?_
    simp only [List.mem_cons,List.not_mem_nil,or_false] at hz
    rcases hz with rfl | rfl
    ·exact ih hx
    ·exact ih hy
  ·cases h
set_option maxHeartbeats 16000000 in
theorem OptBest_no (c:List Df) (hcl:c.length ≤ 1000000) (q:Qy) (hq:q.Ok) (hm:q.may c = false):Quiet Go.Proofs.Tryz.prog 12 [.agg [.sl (c.map encD)], .agg (encQ q)] (.tup [.int (optQ c q).1, .agg (encWh (optQ c q).2), .bool (q.may c)]):=by
 have hM:=MayQ_ok c hcl q hq
 rw [optQ,hm,if_neg (by decide)]
 rw [hm] at hM
 refine quiet_of (rs:=#[.tmp 4, .cell 5 34, .tmp 6]) Go.Proofs.Tryz.func12 rfl rfl rfl mixed rfl rfl fun H hs=>?_
 push_cast -implicitDefEqProofs [eq_self,iff_self,encQ,if_false,if_true,or_true,or_false,true_or,false_or,List.map_cons,List.map_nil,List.length_cons,List.length_nil,List.cons_append,List.nil_append,List.append_nil,List.set_cons_zero,List.set_cons_succ]
 refine callq hM ?_
 push_cast -implicitDefEqProofs [eq_self,iff_self,encQ,if_false,if_true,or_true,or_false,true_or,false_or,List.map_cons,List.map_nil,List.length_cons,List.length_nil,List.cons_append,List.nil_append,List.append_nil,List.set_cons_zero,List.set_cons_succ]
 (try push_cast -implicitDefEqProofs [eq_self,iff_self,encQ,if_false,if_true,or_true,or_false,true_or,false_or,List.map_cons,List.map_nil,List.length_cons,List.length_nil,List.cons_append,List.nil_append,List.append_nil,List.set_cons_zero,List.set_cons_succ,encWh_mk,plO])
set_option maxHeartbeats 16000000 in
theorem OptBest_yes (c:List Df) (hcl:c.length ≤ 1000000) (q:Qy) (hq:q.Ok) (hp8:q.p.length ≤ 8) (hm:q.may c = true):Quiet Go.Proofs.Tryz.prog 12 [.agg [.sl (c.map encD)], .agg (encQ q)] (.tup [.int (optQ c q).1, .agg (encWh (optQ c q).2), .bool (q.may c)]):=by
 have hM:=MayQ_ok c hcl q hq
 have hne:=optL_ne hm
 have hol:optL c q = accO c q (allT 4 (2 ^ q.occ.length - 1)) (allT 4 (2 ^ q.occ.length - 1)).length:=by rw [accO,List.take_length]; rfl
 rw [optQ,hm,if_pos rfl]
 rw [hol] at hne ⊢
 rw [hm] at hM
 have h4:=(may_split hm).2.2.1
 have hF:=fullOpt_ok q h4
 have hT:=AllT_ok (2 ^ q.occ.length - 1)
 have hTl:=all_len (2 ^ q.occ.length - 1)
 have hEn:=Ends_ok q
 have hEl:=ends_len q
 have hval:∀ t ∈ allT 4 (2 ^ q.occ.length - 1),∀ e ∈ endsQ q,validT c q t (needsQ q e.1) = true:=fun t ht e he=>opt_valid hm ht he
 have htok:∀ t ∈ allT 4 (2 ^ q.occ.length - 1),t.Ok:=fun t ht=>allT_ok ht
 generalize (2:Int) ^ q.occ.length - 1 = full at hF hT hTl hval htok hne ⊢
 generalize allT 4 full = T at hT hTl hval htok hne ⊢
 refine quiet_of (rs:=#[.tmp 4, .cell 5 34, .tmp 6]) Go.Proofs.Tryz.func12 rfl rfl rfl mixed rfl rfl fun H hs=>?_
 push_cast -implicitDefEqProofs [eq_self,iff_self,encQ,if_false,if_true,or_true,or_false,true_or,false_or,List.map_cons,List.map_nil,List.length_cons,List.length_nil,List.cons_append,List.nil_append,List.append_nil,List.set_cons_zero,List.set_cons_succ]
 refine callq hM ?_
 push_cast -implicitDefEqProofs [eq_self,iff_self,encQ,if_false,if_true,or_true,or_false,true_or,false_or,List.map_cons,List.map_nil,List.length_cons,List.length_nil,List.cons_append,List.nil_append,List.append_nil,List.set_cons_zero,List.set_cons_succ]
 refine callq hF ?_
 push_cast -implicitDefEqProofs [eq_self,iff_self,encQ,if_false,if_true,or_true,or_false,true_or,false_or,List.map_cons,List.map_nil,List.length_cons,List.length_nil,List.cons_append,List.nil_append,List.append_nil,List.set_cons_zero,List.set_cons_succ]
 refine callq hT ?_
 push_cast -implicitDefEqProofs [eq_self,iff_self,encQ,if_false,if_true,or_true,or_false,true_or,false_or,List.map_cons,List.map_nil,List.length_cons,List.length_nil,List.cons_append,List.nil_append,List.append_nil,List.set_cons_zero,List.set_cons_succ]
 refine loop_at hs (σ:=Nat) (fun i=>i ≤ T.length) (fun i=>T.length - i)
  (fun i=>[(26, .int i),(25, .int T.length),(24, .sl (T.map encT)),(7, .ptr (H.nxt + 3) 8 0 0),(8, .clo (.func 42) [] []),(3, .ptr (H.nxt + 1) 6 0 0),(2, .ptr (H.nxt + 0) 1 0 0),(5, .ptr (H.nxt + 2) 7 0 0)])
  (fun i=>[some (.cells 1 [[.sl (c.map encD)]] 0),some (.cells 6 [encQ q] 0),some (.cells 7 [encEnd (0,false)] 0),some (.cells 8 [finC c q (.rsl (H.nxt + 4) 8 0 (soRow (accO c q T i)).length)] 0),some (.cells 8 ((soRow (accO c q T i)).map encCw) 0)]) [some 0,some 1,some 2,some 3,none] 0 (by omega) rfl ?_ ?_ ?_
 ·(try push_cast -implicitDefEqProofs [eq_self,iff_self,encQ,if_false,if_true,or_true,or_false,true_or,false_or,List.map_cons,List.map_nil,List.length_cons,List.length_nil,List.cons_append,List.nil_append,List.append_nil,List.set_cons_zero,List.set_cons_succ,accO_zero,soRow_nil,encEnd_mk,finC,encDs_pure,encEs_pure,encIs_pure,encTs_pure])
 ·(try push_cast -implicitDefEqProofs [eq_self,iff_self,encQ,if_false,if_true,or_true,or_false,true_or,false_or,List.map_cons,List.map_nil,List.length_cons,List.length_nil,List.cons_append,List.nil_append,List.append_nil,List.set_cons_zero,List.set_cons_succ,accO_zero,soRow_nil,encEnd_mk,finC,encDs_pure,encEs_pure,encIs_pure,encTs_pure])
 intro i hi2
 by_cases hi:i < T.length
 ·have hi':((i:Int) < (T.length:Int)) = True:=by simp; omega
  have hi0:(0 ≤ (i:Int)) = True:=by simp
  have hacc:=accO_succ c q T hi
  have hget:=encTs_get T i hi
  have htk:=htok _ (List.getElem_mem hi)
  have hvt:=hval _ (List.getElem_mem hi)
  generalize T[i] = t at hacc hget htk hvt
  have hae:=accE_all c q (accO c q T i) t
  rw [← hae] at hacc
  have hz:=accE_zero c q (accO c q T i) t
  push_cast -implicitDefEqProofs [eq_self,iff_self,encQ,if_false,if_true,or_true,or_false,true_or,false_or,List.map_cons,List.map_nil,List.length_cons,List.length_nil,List.cons_append,List.nil_append,List.append_nil,List.set_cons_zero,List.set_cons_succ,hi',hi0,hget,finC,encEnd_mk]
  refine callq hEn ?_
  push_cast -implicitDefEqProofs [eq_self,iff_self,encQ,if_false,if_true,or_true,or_false,true_or,false_or,List.map_cons,List.map_nil,List.length_cons,List.length_nil,List.cons_append,List.nil_append,List.append_nil,List.set_cons_zero,List.set_cons_succ,hi',hi0,hget,finC,encEnd_mk]
  generalize hA0:accO c q T i = A at hacc hae hz ⊢
  refine loop_at hs (σ:=Nat) (fun k=>k ≤ (endsQ q).length) (fun k=>(endsQ q).length - k)
   (fun k=>[(33, .int k),(32, .int (endsQ q).length),(31, .sl ((endsQ q).map encEnd)),(10, .ptr (H.nxt + 5) 2 0 0),(26, .int i),(25, .int T.length),(24, .sl (T.map encT)),(7, .ptr (H.nxt + 3) 8 0 0),(8, .clo (.func 42) [] []),(3, .ptr (H.nxt + 1) 6 0 0),(2, .ptr (H.nxt + 0) 1 0 0),(5, .ptr (H.nxt + 2) 7 0 0)])
   (fun k=>[some (.cells 1 [[.sl (c.map encD)]] 0),some (.cells 6 [encQ q] 0),some (.cells 7 [encEnd (0,false)] 0),some (.cells 8 [finC c q (.rsl (H.nxt + 4) 8 0 (soRow (accE c q A t k)).length)] 0),some (.cells 8 ((soRow (accE c q A t k)).map encCw) 0),some (.cells 2 [encT t] 0)]) [some 0,some 1,some 2,some 3,some 4,some 5] 0 (by omega) rfl ?_ ?_ ?_
  ·(try push_cast -implicitDefEqProofs [eq_self,iff_self,encQ,if_false,if_true,or_true,or_false,true_or,false_or,List.map_cons,List.map_nil,List.length_cons,List.length_nil,List.cons_append,List.nil_append,List.append_nil,List.set_cons_zero,List.set_cons_succ,hz,encEnd_mk,finC,encDs_pure,encEs_pure,encIs_pure,encTs_pure,encEnds_pure,encCw_pure,encCws_pure])
  ·(try push_cast -implicitDefEqProofs [eq_self,iff_self,encQ,if_false,if_true,or_true,or_false,true_or,false_or,List.map_cons,List.map_nil,List.length_cons,List.length_nil,List.cons_append,List.nil_append,List.append_nil,List.set_cons_zero,List.set_cons_succ,hz,encEnd_mk,finC,encDs_pure,encEs_pure,encIs_pure,encTs_pure,encEnds_pure,encCw_pure,encCws_pure])
   exact encCws_all8 _
  intro k hk2
  by_cases hk:k < (endsQ q).length
  ·have hk':((k:Int) < ((endsQ q).length:Int)) = True:=by simp; omega
   have hk0:(0 ≤ (k:Int)) = True:=by simp
   have hsn:=accE_succ c q A t hk
   have hget2:=encEnds_get (endsQ q) k hk
   have hvk:=hvt _ (List.getElem_mem hk)
   generalize (endsQ q)[k] = ee at hsn hget2 hvk
   obtain ⟨e,s⟩:=ee
   dsimp only at hvk
   have hst:=soRow_snoc (accE c q A t k) (optOne c q t (e,s))
   rw [← hsn] at hst
   have hy:optOne c q t (e,s) = optOne c q t (e,s):=rfl
   generalize hold:soRow (accE c q A t k) = old at hst ⊢
   rw [encEnd_mk] at hget2
   rcases hst with ⟨_,rfl,hnew⟩ | ⟨x,rfl,hnew⟩
   ·push_cast -implicitDefEqProofs [eq_self,iff_self,encQ,if_false,if_true,or_true,or_false,true_or,false_or,List.map_cons,List.map_nil,List.length_cons,List.length_nil,List.cons_append,List.nil_append,List.append_nil,List.set_cons_zero,List.set_cons_succ,hk',hk0,hget2,hold,finC,encEnd_mk]
    refine told [.ptr (H.nxt + 3) 8 0 0, .agg (encT t), .agg (encEnd (e,s))] ?_ ?_
    ·(try push_cast -implicitDefEqProofs [eq_self,iff_self,encEnd_mk])
    refine (with0_ok c hcl q hq hp8 t htk e s _ hy (H.nxt + 3) (H.nxt + 4) _ (by simp [plus_nxt]) (by simp [plus_nxt]) (by rw [plus_obj]; rfl) (by rw [plus_obj]; rfl) hvk).mono ?_
    rintro r H2 ⟨rfl,rfl⟩
    rw [plus_set _ _ 3 _ (by simp),plus_plus]
    push_cast -implicitDefEqProofs [eq_self,iff_self,encQ,if_false,if_true,or_true,or_false,true_or,false_or,List.map_cons,List.map_nil,List.length_cons,List.length_nil,List.cons_append,List.nil_append,List.append_nil,List.set_cons_zero,List.set_cons_succ,finC,encEnd_mk,plus_plus,Nat.add_assoc]
    rw [wrap64 (n:=(k:Int) + 1) (by omega) (by omega)]
    refine next_at [some 0,some 1,some 2,some 3,some 10,some 5] (k + 1) (by omega) (by omega) rfl ?_ ?_
    ·(try push_cast -implicitDefEqProofs [eq_self,iff_self,encQ,if_false,if_true,or_true,or_false,true_or,false_or,List.map_cons,List.map_nil,List.length_cons,List.length_nil,List.cons_append,List.nil_append,List.append_nil,List.set_cons_zero,List.set_cons_succ,hnew,encEnd_mk,finC,encDs_pure,encEs_pure,encIs_pure,encTs_pure,encEnds_pure,encCw_pure,encCws_pure,encCw_len])
    ·(try push_cast -implicitDefEqProofs [eq_self,iff_self,encQ,if_false,if_true,or_true,or_false,true_or,false_or,List.map_cons,List.map_nil,List.length_cons,List.length_nil,List.cons_append,List.nil_append,List.append_nil,List.set_cons_zero,List.set_cons_succ,hnew,encEnd_mk,finC,encDs_pure,encEs_pure,encIs_pure,encTs_pure,encEnds_pure,encCw_pure,encCws_pure,encCw_len])
   ·push_cast -implicitDefEqProofs [eq_self,iff_self,encQ,if_false,if_true,or_true,or_false,true_or,false_or,List.map_cons,List.map_nil,List.length_cons,List.length_nil,List.cons_append,List.nil_append,List.append_nil,List.set_cons_zero,List.set_cons_succ,hk',hk0,hget2,hold,finC,encEnd_mk]
    refine told [.ptr (H.nxt + 3) 8 0 0, .agg (encT t), .agg (encEnd (e,s))] ?_ ?_
    ·(try push_cast -implicitDefEqProofs [eq_self,iff_self,encEnd_mk])
    refine (with1_ok c hcl q hq hp8 t htk e s _ hy (H.nxt + 3) (H.nxt + 4) _ (by simp [plus_nxt]) (by simp [plus_nxt]) x (by rw [plus_obj]; rfl) (by rw [plus_obj]; rfl) hvk).mono ?_
    rintro r H2 ⟨rfl,h1,h2⟩
    by_cases hlt:(optOne c q t (e,s)).1 < x.1
    ·obtain rfl:=h1 hlt
     replace hnew:=hnew.1 hlt
     clear h1 h2
     rw [plus_set _ _ 3 _ (by simp),plus_plus]
     push_cast -implicitDefEqProofs [eq_self,iff_self,encQ,if_false,if_true,or_true,or_false,true_or,false_or,List.map_cons,List.map_nil,List.length_cons,List.length_nil,List.cons_append,List.nil_append,List.append_nil,List.set_cons_zero,List.set_cons_succ,finC,encEnd_mk,plus_plus,Nat.add_assoc]
     rw [wrap64 (n:=(k:Int) + 1) (by omega) (by omega)]
     refine next_at [some 0,some 1,some 2,some 3,some 10,some 5] (k + 1) (by omega) (by omega) rfl ?_ ?_
     ·(try push_cast -implicitDefEqProofs [eq_self,iff_self,encQ,if_false,if_true,or_true,or_false,true_or,false_or,List.map_cons,List.map_nil,List.length_cons,List.length_nil,List.cons_append,List.nil_append,List.append_nil,List.set_cons_zero,List.set_cons_succ,hnew,encEnd_mk,finC,encDs_pure,encEs_pure,encIs_pure,encTs_pure,encEnds_pure,encCw_pure,encCws_pure,encCw_len])
     ·(try push_cast -implicitDefEqProofs [eq_self,iff_self,encQ,if_false,if_true,or_true,or_false,true_or,false_or,List.map_cons,List.map_nil,List.length_cons,List.length_nil,List.cons_append,List.nil_append,List.append_nil,List.set_cons_zero,List.set_cons_succ,hnew,encEnd_mk,finC,encDs_pure,encEs_pure,encIs_pure,encTs_pure,encEnds_pure,encCw_pure,encCws_pure,encCw_len])
    ·obtain rfl:=h2 hlt
     replace hnew:=hnew.2 hlt
     clear h1 h2
     rw [plus_plus]
     push_cast -implicitDefEqProofs [eq_self,iff_self,encQ,if_false,if_true,or_true,or_false,true_or,false_or,List.map_cons,List.map_nil,List.length_cons,List.length_nil,List.cons_append,List.nil_append,List.append_nil,List.set_cons_zero,List.set_cons_succ,finC,encEnd_mk,plus_plus,Nat.add_assoc]
     rw [wrap64 (n:=(k:Int) + 1) (by omega) (by omega)]
     refine next_at [some 0,some 1,some 2,some 3,some 4,some 5] (k + 1) (by omega) (by omega) rfl ?_ ?_
     ·(try push_cast -implicitDefEqProofs [eq_self,iff_self,encQ,if_false,if_true,or_true,or_false,true_or,false_or,List.map_cons,List.map_nil,List.length_cons,List.length_nil,List.cons_append,List.nil_append,List.append_nil,List.set_cons_zero,List.set_cons_succ,hnew,encEnd_mk,finC,encDs_pure,encEs_pure,encIs_pure,encTs_pure,encEnds_pure,encCw_pure,encCws_pure,encCw_len])
     ·(try push_cast -implicitDefEqProofs [eq_self,iff_self,encQ,if_false,if_true,or_true,or_false,true_or,false_or,List.map_cons,List.map_nil,List.length_cons,List.length_nil,List.cons_append,List.nil_append,List.append_nil,List.set_cons_zero,List.set_cons_succ,hnew,encEnd_mk,finC,encDs_pure,encEs_pure,encIs_pure,encTs_pure,encEnds_pure,encCw_pure,encCws_pure,encCw_len])
  ·have hk':((k:Int) < ((endsQ q).length:Int)) = False:=by simp; omega
   obtain rfl:k = (endsQ q).length:=by omega
   rw [← hacc]
   push_cast -implicitDefEqProofs [eq_self,iff_self,encQ,if_false,if_true,or_true,or_false,true_or,false_or,List.map_cons,List.map_nil,List.length_cons,List.length_nil,List.cons_append,List.nil_append,List.append_nil,List.set_cons_zero,List.set_cons_succ,hk',finC,encEnd_mk]
   rw [wrap64 (n:=(i:Int) + 1) (by omega) (by omega)]
   refine next_at [some 0,some 1,some 2,some 3,some 4] (i + 1) (by omega) (by omega) rfl ?_ ?_
   ·(try push_cast -implicitDefEqProofs [eq_self,iff_self,encQ,if_false,if_true,or_true,or_false,true_or,false_or,List.map_cons,List.map_nil,List.length_cons,List.length_nil,List.cons_append,List.nil_append,List.append_nil,List.set_cons_zero,List.set_cons_succ,encEnd_mk,finC,encDs_pure,encEs_pure,encIs_pure,encTs_pure,encEnds_pure,encCw_pure,encCws_pure])
   ·(try push_cast -implicitDefEqProofs [eq_self,iff_self,encQ,if_false,if_true,or_true,or_false,true_or,false_or,List.map_cons,List.map_nil,List.length_cons,List.length_nil,List.cons_append,List.nil_append,List.append_nil,List.set_cons_zero,List.set_cons_succ,encEnd_mk,finC,encDs_pure,encEs_pure,encIs_pure,encTs_pure,encEnds_pure,encCw_pure,encCws_pure])
    exact encCws_all8 _
 have hi':((i:Int) < (T.length:Int)) = False:=by simp; omega
 obtain rfl:i = T.length:=by omega
 rw [soRow_some hne]
 generalize leastW (accO c q T T.length) = y
 obtain ⟨n,⟨op,occ,a,b,l⟩,e,s⟩:=y
 push_cast -implicitDefEqProofs [eq_self,iff_self,encQ,if_false,if_true,or_true,or_false,true_or,false_or,List.map_cons,List.map_nil,List.length_cons,List.length_nil,List.cons_append,List.nil_append,List.append_nil,List.set_cons_zero,List.set_cons_succ,hi',finC,encEnd_mk,encCw_mk]
 refine areg_at 15 (by kernel_rfl) (by kernel_rfl) ?_
 push_cast -implicitDefEqProofs [eq_self,iff_self,encQ,if_false,if_true,or_true,or_false,true_or,false_or,List.map_cons,List.map_nil,List.length_cons,List.length_nil,List.cons_append,List.nil_append,List.append_nil,List.set_cons_zero,List.set_cons_succ,hi',finC,encEnd_mk,encCw_mk,encWh_mk]
theorem OptBest_ok (c:List Df) (hcl:c.length ≤ 1000000) (q:Qy) (hq:q.Ok) (hp8:q.p.length ≤ 8):Quiet Go.Proofs.Tryz.prog 12 [.agg [.sl (c.map encD)], .agg (encQ q)] (.tup [.int (optQ c q).1, .agg (encWh (optQ c q).2), .bool (q.may c)]):=by
 rcases Bool.eq_false_or_eq_true (q.may c) with hm | hm
 ·exact OptBest_yes c hcl q hq hp8 hm
 ·exact OptBest_no c hcl q hq hm
end
section
attribute [local push_cast] encPl_mk encPl_take encPl_len encPl_one encPls_pure encPl_pure encT_pure encT_len encT_one encT_take
def qNull:Qy:=⟨[],[],0,[],[],0⟩
set_option maxHeartbeats 4000000 in
theorem awake14_ok:Quiet Go.Proofs.Tryz.prog 10 [] (.bool true):=by
 have hB:=OptBest_ok catTwo (by decide) oneQ9 oneQ9_ok (by decide)
 rw [opt9,oneQ9_may] at hB
 dsimp only at hB
 have hg:=(opt_good oneQ9_may (opt_mem oneQ9_may)).1
 rw [opt9] at hg
 dsimp only at hg
 have hF:=FinePl_ok catTwo (by decide) oneQ9 oneQ9_ok (.mk 2 0 0 4 [.mk 0 0 0 0 [], .mk 0 1 0 0 []]) (few_ok' _ (by decide)) 0 false
 rw [hg,encW_mk] at hF
 have hE:=Ends_ok qNull
 have he2:((endsQ qNull).map encEnd).length = 2:=rfl
 generalize (endsQ qNull).map encEnd = ends at hE he2
 have hT:=Two13_ok
 rw [encWh_mk] at hB
 generalize [Pl.mk 0 0 0 0 [],Pl.mk 0 1 0 0 []] = l1 at hB hF
 generalize oneQ9 = q at hB hF hT
 refine quiet_of (rs:=#[.tmp 0]) Go.Proofs.Tryz.func10 rfl rfl rfl mixed rfl rfl fun H hs=>?_
 push_cast -implicitDefEqProofs [eq_self,iff_self]
 refine callq Two_ok ?_
 push_cast -implicitDefEqProofs [eq_self,iff_self]
 refine ⟨rfl, ?_⟩
 refine areg_at 10 (by kernel_rfl) (by kernel_rfl) ?_
 push_cast -implicitDefEqProofs [eq_self,iff_self]
 refine ahdq hT ?_
 push_cast -implicitDefEqProofs [eq_self,iff_self]
 refine ahdq hB ?_
 push_cast -implicitDefEqProofs [eq_self,iff_self]
 refine areg_at 23 (by kernel_rfl) (by kernel_rfl) ?_
 push_cast -implicitDefEqProofs [eq_self,iff_self]
 refine gcallq (.agg (encQ q)) (fun _=>hT) ?_
 push_cast -implicitDefEqProofs [eq_self,iff_self]
 refine gcallq (.bool true) (fun _=>hF) ?_
 push_cast -implicitDefEqProofs [eq_self,iff_self]
 refine gcallq (.sl ends) (fun _=>quiet_told hE fun H=>?_) ?_
 ·(try push_cast -implicitDefEqProofs [eq_self,iff_self,encQ,qNull,List.map_nil])
 push_cast -implicitDefEqProofs [eq_self,iff_self,he2]
end
section
attribute [local push_cast] encT_mk encT_take encT_len encT_one encTs_pure encT_pure
theorem sub16 {a s:Int} (a0:1 ≤ a) (a1:a ≤ 15) (s0:1 ≤ s) (s1:s < 16) (h:band .i64 a s = a):a ≤ s:=by
 obtain ⟨i,rfl⟩:∃ i:Fin 16,a = (i.val:Int):=⟨⟨a.toNat,by omega⟩,by simp; omega⟩
 obtain ⟨j,rfl⟩:∃ j:Fin 16,s = (j.val:Int):=⟨⟨s.toNat,by omega⟩,by simp; omega⟩
 clear a0 a1 s0 s1
 revert i j
 decide +kernel
theorem many_ok (s:Int) (h1:1 ≤ s) (h2:s < 16):Quiet Go.Proofs.Tryz.prog 86 [.int s] (.int (manyI s)):=by
 refine quiet_of (rs:=#[.tmp 2]) Go.Proofs.Tryz.func86 rfl rfl rfl mixed rfl rfl fun H hs=>?_
 simp -implicitDefEqProofs only [push_cast,Nat.reduceAdd,Nat.reduceSub,Nat.reduceMul,Nat.reduceLT,Nat.reduceLeDiff,Nat.reduceEqDiff,Nat.reduceBEq,reduceCtorEq,reduceIte,Int.reduceLE,Int.reduceLT,Int.reduceNeg,Int.reduceToNat]
 refine ⟨by decide,by decide,by decide,by decide,by decide,by decide,by decide, ?_⟩
 obtain ⟨i,rfl⟩:∃ i:Fin 16,s = (i.val:Int):=⟨⟨s.toNat,by omega⟩,by simp; omega⟩
 clear h1 h2
 revert i
 decide +kernel
set_option maxHeartbeats 8000000 in
theorem AllTR_one (s:Int) (h1:1 ≤ s) (h2:s < 16) (hm:manyI s = 1) (j:Nat) (hj:j ≤ 3) (hs:s = 2 ^ j) (ha:allT 4 s = [.leaf (j:Int)]):Quiet Go.Proofs.Tryz.prog 45 [.int s] (.sl ((allT 4 s).map encT)):=by
 have h1':(s < 1) = False:=by simp; omega
 have h2':(15 < s) = False:=by simp; omega
 have hM:=many_ok s h1 h2
 rw [hm] at hM
 rw [ha]
 refine quiet_of (rs:=#[.tmp 2]) Go.Proofs.Tryz.func45 rfl rfl rfl mixed rfl rfl fun H hh=>?_
 simp -implicitDefEqProofs only [push_cast,Nat.reduceAdd,Nat.reduceSub,Nat.reduceMul,Nat.reduceLT,Nat.reduceLeDiff,Nat.reduceEqDiff,Nat.reduceBEq,reduceCtorEq,reduceIte,Int.reduceLE,Int.reduceLT,Int.reduceNeg,Int.reduceToNat,h1',h2']
 refine callq hM ?_
 simp -implicitDefEqProofs only [push_cast,Nat.reduceAdd,Nat.reduceSub,Nat.reduceMul,Nat.reduceLT,Nat.reduceLeDiff,Nat.reduceEqDiff,Nat.reduceBEq,reduceCtorEq,reduceIte,Int.reduceLE,Int.reduceLT,Int.reduceNeg,Int.reduceToNat,Int.reduceEq]
 have hpow:(2:Int) ^ j = 2 ^ (j - 0):=rfl
 rw [hs,hpow]
 refine loop_at hh (σ:=Nat) (fun k=>k ≤ j) (fun k=>j - k)
  (fun k=>[(4, .int (2 ^ (j - k))),(3, .int k)]) (fun k=>[]) [] 0 (by omega) rfl ?_ ?_ ?_
 ·(try simp -implicitDefEqProofs only [push_cast,Nat.reduceAdd,Nat.reduceSub,Nat.reduceMul,Nat.reduceLT,Nat.reduceLeDiff,Nat.reduceEqDiff,Nat.reduceBEq,reduceCtorEq,reduceIte,Int.reduceLE,Int.reduceLT,Int.reduceNeg,Int.reduceToNat])
 ·(try simp -implicitDefEqProofs only [push_cast,Nat.reduceAdd,Nat.reduceSub,Nat.reduceMul,Nat.reduceLT,Nat.reduceLeDiff,Nat.reduceEqDiff,Nat.reduceBEq,reduceCtorEq,reduceIte,Int.reduceLE,Int.reduceLT,Int.reduceNeg,Int.reduceToNat])
 intro k hk
 have hp:=half_pow hj hk
 by_cases hkj:k < j
 ·rw [if_pos hkj] at hp
  obtain ⟨p1,p2⟩:=hp
  have p1':(1 < (2:Int) ^ (j - k)) = True:=by simp [p1]
  generalize (2:Int) ^ (j - k) = x at p1 p1' p2 ⊢
  have hc:=pow2_cases (n:=j - (k + 1)) (by omega)
  simp -implicitDefEqProofs only [push_cast,Nat.reduceAdd,Nat.reduceSub,Nat.reduceMul,Nat.reduceLT,Nat.reduceLeDiff,Nat.reduceEqDiff,Nat.reduceBEq,reduceCtorEq,reduceIte,Int.reduceLE,Int.reduceLT,Int.reduceNeg,Int.reduceToNat,p1',p2]
  rw [wrap64 (n:=(2:Int) ^ (j - (k + 1))) (by omega) (by omega),wrap64 (n:=(k:Int) + 1) (by omega) (by omega)]
  refine ⟨by decide,next_at [] (k + 1) (by omega) (by omega) rfl ?_ ?_⟩
  ·(try simp -implicitDefEqProofs only [push_cast,Nat.reduceAdd,Nat.reduceSub,Nat.reduceMul,Nat.reduceLT,Nat.reduceLeDiff,Nat.reduceEqDiff,Nat.reduceBEq,reduceCtorEq,reduceIte,Int.reduceLE,Int.reduceLT,Int.reduceNeg,Int.reduceToNat])
  ·(try simp -implicitDefEqProofs only [push_cast,Nat.reduceAdd,Nat.reduceSub,Nat.reduceMul,Nat.reduceLT,Nat.reduceLeDiff,Nat.reduceEqDiff,Nat.reduceBEq,reduceCtorEq,reduceIte,Int.reduceLE,Int.reduceLT,Int.reduceNeg,Int.reduceToNat])
 ·rw [if_neg hkj] at hp
  obtain rfl:k = j:=by omega
  rw [hp]
  simp -implicitDefEqProofs only [push_cast,Nat.reduceAdd,Nat.reduceSub,Nat.reduceMul,Nat.reduceLT,Nat.reduceLeDiff,Nat.reduceEqDiff,Nat.reduceBEq,reduceCtorEq,reduceIte,Int.reduceLE,Int.reduceLT,Int.reduceNeg,Int.reduceToNat]
  (try simp -implicitDefEqProofs only [push_cast,Nat.reduceAdd,Nat.reduceSub,Nat.reduceMul,Nat.reduceLT,Nat.reduceLeDiff,Nat.reduceEqDiff,Nat.reduceBEq,reduceCtorEq,reduceIte,Int.reduceLE,Int.reduceLT,Int.reduceNeg,Int.reduceToNat,Tr.leaf,List.map_nil])
set_option maxHeartbeats 8000000 in
theorem AllTR_in (s:Int) (h1:1 ≤ s) (h2:s < 16) (hm:manyI s ≠ 1) (hls:leafSet s = []) (ih:∀ a:Int,a < s → Quiet Go.Proofs.Tryz.prog 45 [.int a] (.sl ((allT 4 a).map encT))):Quiet Go.Proofs.Tryz.prog 45 [.int s] (.sl ((allT 4 s).map encT)):=by
 have h1':(s < 1) = False:=by simp; omega
 have h2':(15 < s) = False:=by simp; omega
 have hM:=many_ok s h1 h2
 have hm1:(manyI s = 1) = False:=by simp [hm]
 refine quiet_of (rs:=#[.tmp 2]) Go.Proofs.Tryz.func45 rfl rfl rfl mixed rfl rfl fun H hs=>?_
 push_cast -implicitDefEqProofs [eq_self,iff_self,h1',h2']
 refine callq hM ?_
 push_cast -implicitDefEqProofs [eq_self,iff_self,hm1]
 refine loop_at hs (σ:=Nat) (fun n=>n ≤ 14) (fun n=>16 - n)
  (fun n=>[(6, .int ((n:Int) + 1)),(0, .int s),(5, .rsl (H.nxt + 0) 2 0 (cutsU s n).length)]) (fun n=>[some (.cells 2 ((cutsU s n).map encT) 0)]) [none] 0 (by omega) rfl ?_ ?_ ?_
 ·(try push_cast -implicitDefEqProofs [eq_self,iff_self,cutsU_zero,Int.zero_add,List.map_nil])
 ·(try push_cast -implicitDefEqProofs [eq_self,iff_self,cutsU_zero,List.map_nil])
 intro n hn
 have hal:=cutsU_len s n
 have hsu:cutsU s (n + 1) = rowJ (cutsU s n) (cutT (allT 4) s ((n:Int) + 1)):=cutsU_succ s n
 by_cases hna:(n:Int) + 1 < 15
 ·have hna':((n:Int) + 1 < 15) = True:=by simp [hna]
  generalize hR:cutsU s n = row at hal hsu ⊢
  by_cases hb:band .i64 ((n:Int) + 1) s = (n:Int) + 1
  ·have hb':(band .i64 ((n:Int) + 1) s = (n:Int) + 1) = True:=by simp [hb]
   have hle:(n:Int) + 1 ≤ s:=sub16 (by omega) (by omega) h1 h2 hb
   by_cases he:(n:Int) + 1 = s
   ·have he':((n:Int) + 1 = s) = True:=by simp [he]
    rw [cutT_none (by omega),rowJ_nil] at hsu
    push_cast -implicitDefEqProofs [eq_self,iff_self,hna',hb',he']
    rw [wrap64 (n:=(n:Int) + 1 + 1) (by omega) (by omega)]
    refine next_at [some 0] (n + 1) (by omega) (by omega) rfl ?_ ?_
    ·(try push_cast -implicitDefEqProofs [eq_self,iff_self,hsu])
    ·(try push_cast -implicitDefEqProofs [eq_self,iff_self,hsu])
     exact of_eq_true (encTs_two _)
   have he':((n:Int) + 1 = s) = False:=by simp [he]
   have hlt:(n:Int) + 1 < s:=by omega
   have hX:=ih ((n:Int) + 1) hlt
   have hY:=ih (s - ((n:Int) + 1)) (by omega)
   have hXl:=all_len ((n:Int) + 1)
   have hYl:=all_len (s - ((n:Int) + 1))
   rw [cutT,if_pos (by rw [decide_eq_true hlt,decide_eq_true hb]; rfl)] at hsu
   generalize allT 4 ((n:Int) + 1) = X at hX hXl hsu
   generalize allT 4 (s - ((n:Int) + 1)) = Y at hY hYl hsu
   rw [← xsU_all] at hsu
   push_cast -implicitDefEqProofs [eq_self,iff_self,hna',hb',he']
   refine callq hX ?_
   push_cast -implicitDefEqProofs [eq_self,iff_self]
   rw [wrap64 (n:=s - ((n:Int) + 1)) (by omega) (by omega)]
   refine callq hY ?_
   push_cast -implicitDefEqProofs [eq_self,iff_self]
   refine loop_at hs (σ:=Nat) (fun i=>i ≤ X.length) (fun i=>X.length - i)
    (fun i=>[(9, .int i),(7, .sl (X.map encT)),(8, .sl (Y.map encT)),(6, .int ((n:Int) + 1)),(0, .int s),(5, .rsl (H.nxt + 0) 2 0 (rowJ row (xsU X Y i)).length)]) (fun i=>[some (.cells 2 ((rowJ row (xsU X Y i)).map encT) 0)]) [some 0] 0 (by omega) rfl ?_ ?_ ?_
   ·(try push_cast -implicitDefEqProofs [eq_self,iff_self,xsU_zero,rowJ_nil,encTs_pure])
   ·(try push_cast -implicitDefEqProofs [eq_self,iff_self,xsU_zero,rowJ_nil,encTs_pure])
    exact of_eq_true (encTs_two _)
   intro i hi2
   have hxl:=xsU_len X Y hXl hYl i
   have hxr:(rowJ row (xsU X Y i)).length ≤ n * 14400 + 14400:=by rw [rowJ_len]; omega
   by_cases hi:i < X.length
   ·have hi':((i:Int) < (X.length:Int)) = True:=by simp; omega
    have hi0:(0 ≤ (i:Int)) = True:=by simp
    have hxs:rowJ row (xsU X Y (i + 1)) = rowJ (rowJ row (xsU X Y i)) (ysU X[i] Y Y.length):=by rw [xsU_succ X Y hi,rowJ_app,ysU_all]
    generalize hR2:rowJ row (xsU X Y i) = row2 at hxr hxs ⊢
    have hget:=encTs_get X i hi
    generalize X[i] = x at hget hxs
    push_cast -implicitDefEqProofs [eq_self,iff_self,hi',hi0]
    refine loop_at hs (σ:=Nat) (fun j=>j ≤ Y.length) (fun j=>Y.length - j)
     (fun j=>[(10, .int j),(9, .int i),(7, .sl (X.map encT)),(8, .sl (Y.map encT)),(6, .int ((n:Int) + 1)),(0, .int s),(5, .rsl (H.nxt + 0) 2 0 (rowJ row2 (ysU x Y j)).length)]) (fun j=>[some (.cells 2 ((rowJ row2 (ysU x Y j)).map encT) 0)]) [some 0] 0 (by omega) rfl ?_ ?_ ?_
    ·(try push_cast -implicitDefEqProofs [eq_self,iff_self,ysU_zero,rowJ_nil,encTs_pure])
    ·(try push_cast -implicitDefEqProofs [eq_self,iff_self,ysU_zero,rowJ_nil,encTs_pure])
     exact of_eq_true (encTs_two _)
    intro j hj2
    have hyl:=ysU_len x Y j
    have hyr:(rowJ row2 (ysU x Y j)).length ≤ n * 14400 + 14400 + 120:=by rw [rowJ_len]; omega
    by_cases hj:j < Y.length
    ·have hj':((j:Int) < (Y.length:Int)) = True:=by simp; omega
     have hj0:(0 ≤ (j:Int)) = True:=by simp
     have hys:rowJ row2 (ysU x Y (j + 1)) = rowJ (rowJ row2 (ysU x Y j)) [.join x Y[j]]:=by rw [ysU_succ x Y hj,rowJ_app]
     generalize hR3:rowJ row2 (ysU x Y j) = row3 at hyr hys ⊢
     have hget2:=encTs_get Y j hj
     have hJ:=JoinR_ok x Y[j]
     generalize Y[j] = y at hget2 hys hJ
     generalize Tr.join x y = xy at hys hJ
     push_cast -implicitDefEqProofs [eq_self,iff_self,hj',hj0,hi',hi0]
     refine areg_grow [none] 12 ?_ (by kernel_rfl) (by kernel_rfl) (by kernel_rfl) ?_
     ·intro k o hk
      match k,hk with
      | 0,hk=>simp at hk
      | k + 1,hk=>simp at hk
     push_cast -implicitDefEqProofs [eq_self,iff_self,hj',hj0,hi',hi0,hget,hget2]
     refine ⟨_,hJ, ?_⟩
     push_cast -implicitDefEqProofs [eq_self,iff_self]
     have hln:(rowJ row2 (ysU x Y (j + 1))).length = row3.length + 1:=by rw [hys,rowJ_one]
     have hrw:(rowJ row2 (ysU x Y (j + 1))).map encT = row3.map encT ++ [encT xy]:=by rw [hys,rowJ,List.map_append]; rfl
     have hcap:List.take row3.length (row3.map encT) = row3.map encT:=List.take_of_length_le (by simp)
     rw [wrap64 (n:=(j:Int) + 1) (by omega) (by omega)]
     refine ⟨by omega,next_at [some 1] (j + 1) (by omega) (by omega) rfl ?_ ?_⟩
     ·(try push_cast -implicitDefEqProofs [eq_self,iff_self,hln,encTs_pure])
     ·(try push_cast -implicitDefEqProofs [eq_self,iff_self,hcap])
      rw [hrw]
      exact ⟨sealLL_snoc (sealLL_pure _ _ _ (encTs_pure row3)) (sealL_pure _ _ _ (encT_pure xy)),fun e he=>by rw [← hrw] at he; exact of_eq_true (encTs_two _) e he⟩
    ·have hj':((j:Int) < (Y.length:Int)) = False:=by simp; omega
     obtain rfl:j = Y.length:=by omega
     rw [← hxs]
     push_cast -implicitDefEqProofs [eq_self,iff_self,hj']
     rw [wrap64 (n:=(i:Int) + 1) (by omega) (by omega)]
     refine next_at [some 0] (i + 1) (by omega) (by omega) rfl ?_ ?_
     ·(try push_cast -implicitDefEqProofs [eq_self,iff_self,encTs_pure])
     ·(try push_cast -implicitDefEqProofs [eq_self,iff_self,encTs_pure])
      exact of_eq_true (encTs_two _)
   ·have hi':((i:Int) < (X.length:Int)) = False:=by simp; omega
    obtain rfl:i = X.length:=by omega
    rw [← hsu]
    push_cast -implicitDefEqProofs [eq_self,iff_self,hi']
    rw [wrap64 (n:=(n:Int) + 1 + 1) (by omega) (by omega)]
    refine next_at [some 0] (n + 1) (by omega) (by omega) rfl ?_ ?_
    ·(try push_cast -implicitDefEqProofs [eq_self,iff_self,encTs_pure])
    ·(try push_cast -implicitDefEqProofs [eq_self,iff_self,encTs_pure])
     exact of_eq_true (encTs_two _)
  ·have hb':(band .i64 ((n:Int) + 1) s = (n:Int) + 1) = False:=by simp [hb]
   rw [cutT,if_neg (by rw [decide_eq_false hb,Bool.and_false]; exact Bool.false_ne_true),rowJ_nil] at hsu
   push_cast -implicitDefEqProofs [eq_self,iff_self,hna',hb']
   rw [wrap64 (n:=(n:Int) + 1 + 1) (by omega) (by omega)]
   refine next_at [some 0] (n + 1) (by omega) (by omega) rfl ?_ ?_
   ·(try push_cast -implicitDefEqProofs [eq_self,iff_self,hsu])
   ·(try push_cast -implicitDefEqProofs [eq_self,iff_self,hsu])
    exact of_eq_true (encTs_two _)
 ·have hna':((n:Int) + 1 < 15) = False:=by simp; omega
  have hp:=allT_parts h1 h2 (n:=n) (by omega) (by omega)
  rw [hls,List.nil_append] at hp
  rw [← hp]
  have hcap:List.take (allT 4 s).length ((allT 4 s).map encT) = (allT 4 s).map encT:=List.take_of_length_le (by simp)
  push_cast -implicitDefEqProofs [eq_self,iff_self,hna']
  rw [hcap]
  exact sealLL_pure _ _ _ (encTs_pure _)
theorem AllTR_out {s:Int} (h:¬ (1 ≤ s ∧ s < 16)):Quiet Go.Proofs.Tryz.prog 45 [.int s] (.sl ((allT 4 s).map encT)):=by
 rw [all_out h]
 refine quiet_of (rs:=#[.tmp 2]) Go.Proofs.Tryz.func45 rfl rfl rfl mixed rfl rfl fun H hs=>?_
 by_cases h1:s < 1
 ·have h1':(s < 1) = True:=by simp [h1]
  push_cast -implicitDefEqProofs [eq_self,iff_self,h1',List.map_nil]
 ·have h1':(s < 1) = False:=by simp [h1]
  have h2':(15 < s) = True:=by simp; omega
  push_cast -implicitDefEqProofs [eq_self,iff_self,h1',h2',List.map_nil]
theorem AllTR_n:∀ (n:Nat) (s:Int),s < (n:Int) → Quiet Go.Proofs.Tryz.prog 45 [.int s] (.sl ((allT 4 s).map encT)):=by
 intro n
 induction n with
 | zero=>intro s hs; exact AllTR_out (by omega)
 | succ n ih =>
  intro s hs
  by_cases h:1 ≤ s ∧ s < 16
  ·rcases many_one h.1 h.2 with ⟨hm,j,hj,he,ha⟩ | ⟨hm,hl⟩
   ·exact AllTR_one s h.1 h.2 hm j hj he ha
   ·exact AllTR_in s h.1 h.2 hm hl fun a ha=>ih a (by omega)
  ·exact AllTR_out h
theorem AllTR_ok (s:Int):Quiet Go.Proofs.Tryz.prog 45 [.int s] (.sl ((allT 4 s).map encT)):=AllTR_n (s.toNat + 1) s (by omega)
end
section
attribute [local push_cast] encPl_mk encPl_take encPl_len encPl_one encPls_pure encPl_pure encT_pure encT_len encT_one encT_take
theorem SortedR_ok (c:List Df) (hcl:c.length ≤ 1000000) (q:Qy) (hq:q.Ok) (hqi:q.In) (s n:Int):Quiet Go.Proofs.Tryz.prog 97 [.agg [.sl (c.map encD)], .agg (encQ q), .int s, .int n] (.int (sortedC c q s n)):=by
 have hR:=RowsR_ok c hcl q hq hqi s
 have hA:=Add10_ok [n,sortK (rowsQ c q s)] (by simp)
 refine quiet_of (rs:=#[.tmp 8]) Go.Proofs.Tryz.func97 rfl rfl rfl mixed rfl rfl fun H hs=>?_
 push_cast -implicitDefEqProofs [eq_self,iff_self,encQ]
 refine callq hR ?_
 push_cast -implicitDefEqProofs [eq_self,iff_self,encQ]
 refine callq (Sort10_ok _) ?_
 push_cast -implicitDefEqProofs [eq_self,iff_self,encQ]
 refine fzk H 2 2 [.sl ([n,sortK (rowsQ c q s)].map encI)] (by rfl) (by omega) (by simp) ?_ ?_
 ·(try push_cast -implicitDefEqProofs [eq_self,iff_self,encI,List.map_cons,List.map_nil])
 refine callq hA ?_
 push_cast -implicitDefEqProofs [eq_self,iff_self,sortedC]
theorem innerL_none (col:Int) (ps:List (Int × Int)) (h:col ≠ -1):innerL 2 col ps = []:=by
 unfold innerL
 rw [List.filter_eq_nil_iff.2,List.map_nil]
 intro p _
 simp [h]
theorem hash_all (ps:List (Int × Int)) (i:Nat) (h:i < ps.length):innerL 2 (-1) (ps.take (i + 1)) = innerL 2 (-1) (ps.take i) ++ [.mk 2 0 ps[i].1 ps[i].2 []]:=by
 rw [innerL_snoc 2 (-1) ps i h]; rfl
theorem curW_len' (B:List Pl) (op col:Int) (ps:List (Int × Int)) (i:Nat):(curW B op col ps i).length ≤ B.length + i:=by
 rw [curW,List.length_append]
 have:=innerL_len op col (ps.take i)
 rw [List.length_take] at this
 omega
set_option maxHeartbeats 4000000 in
theorem WaysR_ok (q:Qy) (hq:q.Ok) (a b col:Int):Quiet Go.Proofs.Tryz.prog 93 [.agg (encQ q), .int a, .int b, .int col] (.sl ((waysP q a b col).map encPl)):=by
 have hP:=PairsR_ok q hq a b
 have hple:=pairs_le q hq a b
 unfold waysP
 generalize q.pairs a b = ps at hP hple ⊢
 have e1:[nestW] ++ innerL 2 col ps ++ innerL 3 col ps = curW (curW [nestW] 2 col ps ps.length) 3 col ps ps.length:=by rw [curW,curW,List.take_length]
 rw [e1]
 refine quiet_of (rs:=#[.tmp 8]) Go.Proofs.Tryz.func93 rfl rfl rfl mixed rfl rfl fun H hs=>?_
 simp -implicitDefEqProofs only [push_cast,Nat.reduceAdd,Nat.reduceSub,Nat.reduceMul,Nat.reduceLT,Nat.reduceLeDiff,Nat.reduceEqDiff,Nat.reduceBEq,reduceCtorEq,reduceIte,Int.reduceLE,Int.reduceLT,Int.reduceNeg,Int.reduceToNat,encQ]
 refine callq hP ?_
 simp -implicitDefEqProofs only [push_cast,Nat.reduceAdd,Nat.reduceSub,Nat.reduceMul,Nat.reduceLT,Nat.reduceLeDiff,Nat.reduceEqDiff,Nat.reduceBEq,reduceCtorEq,reduceIte,Int.reduceLE,Int.reduceLT,Int.reduceNeg,Int.reduceToNat,encQ]
 refine loop_at hs (σ:=Nat) (fun i=>i ≤ ps.length ∧ (col ≠ -1 → i = 0)) (fun i=>ps.length - i)
  (fun i=>[(11, .int i),(10, .sl (ps.map encP)),(3, .int col),(9, .rsl (H.nxt + 1) 5 0 (curW [nestW] 2 col ps i).length)])
  (fun i=>[none,some (.cells 5 ((curW [nestW] 2 col ps i).map encPl) 0)]) [none,some 1] 0 ⟨by omega,fun _=>rfl⟩ rfl ?_ ?_ ?_
 ·(try simp -implicitDefEqProofs only [push_cast,Nat.reduceAdd,Nat.reduceSub,Nat.reduceMul,Nat.reduceLT,Nat.reduceLeDiff,Nat.reduceEqDiff,Nat.reduceBEq,reduceCtorEq,reduceIte,Int.reduceLE,Int.reduceLT,Int.reduceNeg,Int.reduceToNat,curW_zero,rowP_pure,Int.reduceAdd,List.length_singleton])
 ·(try simp -implicitDefEqProofs only [push_cast,Nat.reduceAdd,Nat.reduceSub,Nat.reduceMul,Nat.reduceLT,Nat.reduceLeDiff,Nat.reduceEqDiff,Nat.reduceBEq,reduceCtorEq,reduceIte,Int.reduceLE,Int.reduceLT,Int.reduceNeg,Int.reduceToNat,curW_zero,nestW,List.map_cons,List.map_nil])
 rintro i ⟨hi2,hi3⟩
 have hcl1:=curW_len' [nestW] 2 col ps i
 rw [List.length_singleton] at hcl1
 by_cases hi:i < ps.length ∧ col = -1
 ·obtain ⟨hi,rfl⟩:=hi
  have hi':((i:Int) < (ps.length:Int)) = True:=by simp; omega
  have hi0:(0 ≤ (i:Int)) = True:=by simp
  have hps:=encPs_get ps i hi
  rw [encP] at hps
  have hcs:curW [nestW] 2 (-1) ps (i + 1) = curW [nestW] 2 (-1) ps i ++ [.mk 2 0 ps[i].1 ps[i].2 []]:=by rw [curW,hash_all ps i hi,← List.append_assoc]; rfl
  generalize ps[i].1 = u at hps hcs
  generalize ps[i].2 = v at hps hcs
  generalize curW [nestW] 2 (-1) ps i = row at hcs hcl1 ⊢
  simp -implicitDefEqProofs only [push_cast,Nat.reduceAdd,Nat.reduceSub,Nat.reduceMul,Nat.reduceLT,Nat.reduceLeDiff,Nat.reduceEqDiff,Nat.reduceBEq,reduceCtorEq,reduceIte,Int.reduceLE,Int.reduceLT,Int.reduceNeg,Int.reduceToNat,hi',hi0,hps,Int.reduceEq]
  have hrw:(curW [nestW] 2 (-1) ps (i + 1)).map encPl = row.map encPl ++ [encPl (.mk 2 0 u v [])]:=by rw [hcs,List.map_append]; rfl
  have hln:(curW [nestW] 2 (-1) ps (i + 1)).length = row.length + 1:=by rw [hcs,List.length_append]; rfl
  have hcap:List.take row.length (row.map encPl) = row.map encPl:=List.take_of_length_le (by simp)
  rw [wrap64 (n:=(i:Int) + 1) (by omega) (by omega)]
  refine ⟨by omega,next_at [none,some 3] (i + 1) (by omega) (by omega) rfl ?_ ?_⟩
  ·(try simp -implicitDefEqProofs only [push_cast,Nat.reduceAdd,Nat.reduceSub,Nat.reduceMul,Nat.reduceLT,Nat.reduceLeDiff,Nat.reduceEqDiff,Nat.reduceBEq,reduceCtorEq,reduceIte,Int.reduceLE,Int.reduceLT,Int.reduceNeg,Int.reduceToNat,hln,rowP_pure])
  ·(try simp -implicitDefEqProofs only [push_cast,Nat.reduceAdd,Nat.reduceSub,Nat.reduceMul,Nat.reduceLT,Nat.reduceLeDiff,Nat.reduceEqDiff,Nat.reduceBEq,reduceCtorEq,reduceIte,Int.reduceLE,Int.reduceLT,Int.reduceNeg,Int.reduceToNat,hcap,encPls_pure])
   rw [hrw]
   refine ⟨sealLL_snoc (sealLL_pure _ _ _ (encPls_pure row)) ?_,fun e he=>?_⟩
   ·(try simp -implicitDefEqProofs only [push_cast,Nat.reduceAdd,Nat.reduceSub,Nat.reduceMul,Nat.reduceLT,Nat.reduceLeDiff,Nat.reduceEqDiff,Nat.reduceBEq,reduceCtorEq,reduceIte,Int.reduceLE,Int.reduceLT,Int.reduceNeg,Int.reduceToNat,List.map_nil])
   ·rw [← hrw] at he; exact encPls_all5 _ e he
 have hend:curW [nestW] 2 col ps i = curW [nestW] 2 col ps ps.length:=by
  by_cases hc:col = -1
  ·have:i = ps.length:=by
    rcases Nat.lt_or_ge i ps.length with h | h
    ·exact absurd ⟨h,hc⟩ hi
    ·omega
   rw [this]
  ·rw [curW,curW,innerL_none _ _ hc,innerL_none _ _ hc]
 have hcnd:(decide ((i:Int) < (ps.length:Int)) && decide (col = -1)) = false:=by
  rcases Decidable.not_and_iff_or_not.1 hi with h | h
  ·rw [decide_eq_false (by omega)]; rfl
  ·rw [decide_eq_false h,Bool.and_false]
 have hcl2:=curW_len' [nestW] 2 col ps ps.length
 rw [List.length_singleton] at hcl2
 rw [hend]
 generalize curW [nestW] 2 col ps ps.length = B at hcl2 ⊢
 simp -implicitDefEqProofs only [push_cast,Nat.reduceAdd,Nat.reduceSub,Nat.reduceMul,Nat.reduceLT,Nat.reduceLeDiff,Nat.reduceEqDiff,Nat.reduceBEq,reduceCtorEq,reduceIte,Int.reduceLE,Int.reduceLT,Int.reduceNeg,Int.reduceToNat,hcnd]
 clear hend hi hi2 hi3 hcl1 hcnd e1
 refine loop_at hs (σ:=Nat) (fun i=>i ≤ ps.length) (fun i=>ps.length - i)
  (fun i=>[(12, .int i),(10, .sl (ps.map encP)),(3, .int col),(9, .rsl (H.nxt + 1) 5 0 (curW B 3 col ps i).length)])
  (fun i=>[none,some (.cells 5 ((curW B 3 col ps i).map encPl) 0)]) [none,some 1] 0 (by omega) rfl ?_ ?_ ?_
 ·(try simp -implicitDefEqProofs only [push_cast,Nat.reduceAdd,Nat.reduceSub,Nat.reduceMul,Nat.reduceLT,Nat.reduceLeDiff,Nat.reduceEqDiff,Nat.reduceBEq,reduceCtorEq,reduceIte,Int.reduceLE,Int.reduceLT,Int.reduceNeg,Int.reduceToNat,curW_zero,rowP_pure])
 ·(try simp -implicitDefEqProofs only [push_cast,Nat.reduceAdd,Nat.reduceSub,Nat.reduceMul,Nat.reduceLT,Nat.reduceLeDiff,Nat.reduceEqDiff,Nat.reduceBEq,reduceCtorEq,reduceIte,Int.reduceLE,Int.reduceLT,Int.reduceNeg,Int.reduceToNat,curW_zero,encPls_pure])
  exact encPls_all5 _
 intro i hi2
 have hcl1:=curW_len' B 3 col ps i
 by_cases hi:i < ps.length
 ·have hi':((i:Int) < (ps.length:Int)) = True:=by simp; omega
  have hi0:(0 ≤ (i:Int)) = True:=by simp
  have hps:=encPs_get ps i hi
  rw [encP] at hps
  have hsn:=innerL_snoc 3 col ps i hi
  have hcs:curW B 3 col ps (i + 1) = curW B 3 col ps i ++ (if (decide (col = -1) || decide (col = ps[i].1)) = true then [.mk 3 0 ps[i].1 ps[i].2 []] else []):=by
   rw [curW,hsn,← List.append_assoc]; rfl
  generalize ps[i].1 = u at hps hcs
  generalize ps[i].2 = v at hps hcs
  generalize curW B 3 col ps i = row at hcs hcl1 ⊢
  simp -implicitDefEqProofs only [push_cast,Nat.reduceAdd,Nat.reduceSub,Nat.reduceMul,Nat.reduceLT,Nat.reduceLeDiff,Nat.reduceEqDiff,Nat.reduceBEq,reduceCtorEq,reduceIte,Int.reduceLE,Int.reduceLT,Int.reduceNeg,Int.reduceToNat,hi',hi0,hps]
  refine ⟨fun _=>by decide,fun h=>?_,fun h=>?_⟩
  ·rw [h,if_pos rfl] at hcs
   have hrw:(curW B 3 col ps (i + 1)).map encPl = row.map encPl ++ [encPl (.mk 3 0 u v [])]:=by rw [hcs,List.map_append]; rfl
   have hln:(curW B 3 col ps (i + 1)).length = row.length + 1:=by rw [hcs,List.length_append]; rfl
   have hcap:List.take row.length (row.map encPl) = row.map encPl:=List.take_of_length_le (by simp)
   rw [wrap64 (n:=(i:Int) + 1) (by omega) (by omega)]
   refine ⟨by omega,next_at [none,some 3] (i + 1) (by omega) (by omega) rfl ?_ ?_⟩
   ·(try simp -implicitDefEqProofs only [push_cast,Nat.reduceAdd,Nat.reduceSub,Nat.reduceMul,Nat.reduceLT,Nat.reduceLeDiff,Nat.reduceEqDiff,Nat.reduceBEq,reduceCtorEq,reduceIte,Int.reduceLE,Int.reduceLT,Int.reduceNeg,Int.reduceToNat,hln,rowP_pure])
   ·(try simp -implicitDefEqProofs only [push_cast,Nat.reduceAdd,Nat.reduceSub,Nat.reduceMul,Nat.reduceLT,Nat.reduceLeDiff,Nat.reduceEqDiff,Nat.reduceBEq,reduceCtorEq,reduceIte,Int.reduceLE,Int.reduceLT,Int.reduceNeg,Int.reduceToNat,hcap,encPls_pure])
    rw [hrw]
    refine ⟨sealLL_snoc (sealLL_pure _ _ _ (encPls_pure row)) ?_,fun e he=>?_⟩
    ·(try simp -implicitDefEqProofs only [push_cast,Nat.reduceAdd,Nat.reduceSub,Nat.reduceMul,Nat.reduceLT,Nat.reduceLeDiff,Nat.reduceEqDiff,Nat.reduceBEq,reduceCtorEq,reduceIte,Int.reduceLE,Int.reduceLT,Int.reduceNeg,Int.reduceToNat,List.map_nil])
    ·rw [← hrw] at he; exact encPls_all5 _ e he
  ·rw [h] at hcs
   have hcs':curW B 3 col ps (i + 1) = row:=by rw [hcs]; exact List.append_nil row
   rw [wrap64 (n:=(i:Int) + 1) (by omega) (by omega)]
   refine next_at [none,some 1] (i + 1) (by omega) (by omega) rfl ?_ ?_
   ·(try simp -implicitDefEqProofs only [push_cast,Nat.reduceAdd,Nat.reduceSub,Nat.reduceMul,Nat.reduceLT,Nat.reduceLeDiff,Nat.reduceEqDiff,Nat.reduceBEq,reduceCtorEq,reduceIte,Int.reduceLE,Int.reduceLT,Int.reduceNeg,Int.reduceToNat,hcs',rowP_pure])
   ·(try simp -implicitDefEqProofs only [push_cast,Nat.reduceAdd,Nat.reduceSub,Nat.reduceMul,Nat.reduceLT,Nat.reduceLeDiff,Nat.reduceEqDiff,Nat.reduceBEq,reduceCtorEq,reduceIte,Int.reduceLE,Int.reduceLT,Int.reduceNeg,Int.reduceToNat,hcs',encPls_pure])
    exact encPls_all5 _
 ·have hi':((i:Int) < (ps.length:Int)) = False:=by simp; omega
  obtain rfl:i = ps.length:=by omega
  generalize curW B 3 col ps ps.length = out at hcl1 ⊢
  have hcap:List.take out.length (out.map encPl) = out.map encPl:=List.take_of_length_le (by simp)
  simp -implicitDefEqProofs only [push_cast,Nat.reduceAdd,Nat.reduceSub,Nat.reduceMul,Nat.reduceLT,Nat.reduceLeDiff,Nat.reduceEqDiff,Nat.reduceBEq,reduceCtorEq,reduceIte,Int.reduceLE,Int.reduceLT,Int.reduceNeg,Int.reduceToNat,hi']
  rw [hcap]
  exact sealLL_pure _ _ _ (encPls_pure _)
end
section
attribute [local push_cast] encPl_mk encPl_take encPl_len encPl_one encPls_pure encPl_pure encT_pure encT_len encT_one encT_take
def bestRd (c:List Df) (q:Qy) (d:Nat) (t:Tr) (col:Int):Int × Pl × Bool:=if validT c q t col then ((bestF c q d t col).1,(bestF c q d t col).2,true) else (0,plO,false)
def BestRAt (c:List Df) (q:Qy) (d:Nat) (t:Tr) (col:Int):Prop:=Quiet Go.Proofs.Tryz.prog 46 [.agg [.sl (c.map encD)], .agg (encQ q), .agg (encT t), .int col] (.tup [.int (bestRd c q d t col).1, .agg (encPl (bestRd c q d t col).2.1), .bool (bestRd c q d t col).2.2])
set_option maxHeartbeats 4000000 in
theorem refBestBad_ok (c:List Df) (hcl:c.length ≤ 1000000) (q:Qy) (hq:q.Ok) (hqi:q.In) (d:Nat) (t:Tr) (ht:t.Ok) (col:Int) (hv:validT c q t col = false):BestRAt c q d t col:=by
 have hM:=MayRQ_ok c hcl q hq hqi
 have hT:=MayTR_ok t ht
 unfold BestRAt
 have hr:bestRd c q d t col = (0,plO,false):=by rw [bestRd,hv]; rfl
 rw [hr]
 dsimp only
 unfold plO
 cases hmm:q.may c && t.may
 ·generalize q.may c = m at hM hmm
  generalize t.may = tm at hT hmm
  refine quiet_of (rs:=#[.tmp 8, .cell 9 32, .tmp 10]) Go.Proofs.Tryz.func46 rfl rfl rfl mixed rfl rfl fun H hs=>?_
  push_cast -implicitDefEqProofs [eq_self,iff_self,encQ]
  refine callq hM ?_
  push_cast -implicitDefEqProofs [eq_self,iff_self,encQ]
  refine callq hT ?_
  have hcnd:(!m || !tm) = true:=by cases m <;> cases tm <;> simp_all
  push_cast -implicitDefEqProofs [eq_self,iff_self,encQ,hcnd]
 rw [Bool.and_eq_true] at hmm
 obtain ⟨hm,hmt⟩:=hmm
 rw [hm] at hM
 rw [hmt] at hT
 have hL:=LeavesR_ok t ht
 have hS:=SetR_ok t ht
 have hC:=ColsRQ_ok c hcl q hq hqi t.set
 have hcl2:(q.cols c t.set).length ≤ 1000000:=by
  rw [Qy.cols,if_pos hm]
  have:=colsIn_le c q (bitI t.set)
  omega
 have hPl:=Place_ok _ hcl2 col
 have hix:=idx_has (q.cols c t.set) col
 have h4:q.occ.length ≤ 4:=may_len hm
 have hb:=set_below hmt q.occ.length h4
 have hl16:=lvsT_len 4 t (by omega)
 unfold validT at hv
 rw [hm,hmt] at hv
 refine quiet_of (rs:=#[.tmp 8, .cell 9 32, .tmp 10]) Go.Proofs.Tryz.func46 rfl rfl rfl mixed rfl rfl fun H hs=>?_
 push_cast -implicitDefEqProofs [eq_self,iff_self,encQ]
 refine callq hM ?_
 push_cast -implicitDefEqProofs [eq_self,iff_self,encQ]
 refine callq hT ?_
 push_cast -implicitDefEqProofs [eq_self,iff_self,encQ]
 refine callq hL ?_
 push_cast -implicitDefEqProofs [eq_self,iff_self,encQ]
 generalize (lvsT 4 t).1 = lv at hb hl16 ⊢
 refine loop_at hs (σ:=Nat) (fun i=>i ≤ lv.length ∧ ∀ (j:Nat) (h:j < lv.length),j < i → lv[j] < q.occ.length) (fun i=>lv.length - i)
  (fun i=>[(14, .int i),(13, .sl (lv.map encI)),(3, .int col),(4, .ptr (H.nxt + 0) 1 0 0),(5, .ptr (H.nxt + 1) 6 0 0),(6, .ptr (H.nxt + 2) 2 0 0),(9, .ptr (H.nxt + 3) 5 0 0)]) (fun i=>[some (.cells 1 [[.sl (c.map encD)]] 0),some (.cells 6 [encQ q] 0),some (.cells 2 [encT t] 0),some (.cells 5 [encPl plO] 0)]) [some 0,some 1,some 2,some 3] 0 ⟨by omega,fun j _ h=>by omega⟩ rfl ?_ ?_ ?_
 ·(try push_cast -implicitDefEqProofs [eq_self,iff_self,encDs_pure,encEs_pure,encIs_pure,encQ])
 ·(try push_cast -implicitDefEqProofs [eq_self,iff_self,encDs_pure,encEs_pure,encIs_pure,encQ,plO,List.map_nil])
 rintro i ⟨hi2,hai⟩
 by_cases hi:i < lv.length
 ·have hi':((i:Int) < (lv.length:Int)) = True:=by simp; omega
  have hi0:(0 ≤ (i:Int)) = True:=by simp
  push_cast -implicitDefEqProofs [eq_self,iff_self,hi',hi0,encIs_get lv i hi,encI,encQ]
  refine areg_at 8 (by kernel_rfl) (by kernel_rfl) ?_
  push_cast -implicitDefEqProofs [eq_self,iff_self,hi',hi0,encIs_get lv i hi,encI,encQ]
  intro h
  rw [wrap64 (n:=(i:Int) + 1) (by omega) (by omega)]
  refine next_at [some 0,some 1,some 2,some 3] (i + 1) ⟨by omega,fun j hj hji=>?_⟩ (by omega) rfl ?_ ?_
  ·rcases Nat.lt_or_ge j i with h4 | h4
   ·exact hai j hj h4
   ·obtain rfl:j = i:=by omega
    omega
  ·(try push_cast -implicitDefEqProofs [eq_self,iff_self,encDs_pure,encEs_pure,encIs_pure,encQ])
  ·(try push_cast -implicitDefEqProofs [eq_self,iff_self,encDs_pure,encEs_pure,encIs_pure,encQ])
 have hi':((i:Int) < (lv.length:Int)) = False:=by simp; omega
 have hy:t.set < 2 ^ q.occ.length:=hb.2 fun o ho=>by
  obtain ⟨j,hj,rfl⟩:=List.getElem_of_mem ho
  exact hai j hj (by omega)
 rw [decide_eq_true hy] at hv
 simp only [Bool.true_and,Bool.and_true,Bool.or_eq_false_iff,decide_eq_false_iff_not] at hv
 obtain ⟨hc1,hc2⟩:=hv
 rw [hc2] at hix
 have hix2:idx (fun c=>decide (col = c)) (q.cols c t.set) < 0:=of_decide_eq_true hix
 have hcf:(col = -1) = False:=by simp [hc1]
 push_cast -implicitDefEqProofs [eq_self,iff_self,hi',encQ,hcf]
 refine callq hS ?_
 push_cast -implicitDefEqProofs [eq_self,iff_self,encQ,hcf]
 refine callq hC ?_
 push_cast -implicitDefEqProofs [eq_self,iff_self,encQ,hcf]
 refine gcallq' (.int (idx (fun c=>decide (col = c)) (q.cols c t.set))) (fun _=>by simp) (fun _=>hPl) ?_
 have hd:decide (idx (fun c=>decide (col = c)) (q.cols c t.set) < 0) = true:=decide_eq_true hix2
 push_cast -implicitDefEqProofs [eq_self,iff_self,encQ,hd]
end
section
attribute [local push_cast] encPl_mk encPl_take encPl_len encPl_one encPls_pure encPl_pure encT_pure encT_len encT_one encT_take
def stN (acc:List Ch):Int:=if acc = [] then -1 else (leastC acc).1
def stP (acc:List Ch):Pl:=if acc = [] then plO else (leastC acc).2
theorem stN_nil:stN [] = -1:=rfl
theorem stP_nil:stP [] = plO:=rfl
theorem leastC_push {acc:List Ch} (h:acc ≠ []) (x:Ch):leastC (acc ++ [x]) = if x.1 < (leastC acc).1 then x else leastC acc:=by
 match acc,h with
 | y :: l,_=>rw [List.cons_append,leastC,leastC,List.foldl_append]; rfl
theorem stN_neg {acc:List Ch} (h:∀ x ∈ acc,0 ≤ x.1):stN acc < 0 ↔ acc = []:=by
 unfold stN
 split
 ·rename_i e; exact ⟨fun _=>e,fun _=>by omega⟩
 ·rename_i e
  have:=h _ (leastC_mem e)
  exact ⟨fun h=>by omega,fun h=>absurd h e⟩
theorem st_push {acc:List Ch} (h:∀ x ∈ acc,0 ≤ x.1) (x:Ch):((stN acc < 0 ∨ x.1 < stN acc) → stN (acc ++ [x]) = x.1 ∧ stP (acc ++ [x]) = x.2) ∧ (¬ (stN acc < 0 ∨ x.1 < stN acc) → stN (acc ++ [x]) = stN acc ∧ stP (acc ++ [x]) = stP acc):=by
 have hne:acc ++ [x] ≠ []:=by simp
 by_cases e:acc = []
 ·subst e
  refine ⟨fun _=>⟨by rw [stN,if_neg hne]; rfl,by rw [stP,if_neg hne]; rfl⟩,fun hn=>absurd (.inl (by rw [stN_nil]; decide)) hn⟩
 ·have hs:=stN_neg h
  have e1:stN acc = (leastC acc).1:=if_neg e
  have e2:stP acc = (leastC acc).2:=if_neg e
  have e3:stN (acc ++ [x]) = (leastC (acc ++ [x])).1:=if_neg hne
  have e4:stP (acc ++ [x]) = (leastC (acc ++ [x])).2:=if_neg hne
  rw [leastC_push e] at e3 e4
  rw [e3,e4]
  constructor
  ·rintro (h1 | h1)
   ·exact absurd (hs.1 h1) e
   ·rw [e1] at h1
    rw [if_pos h1]; exact ⟨rfl,rfl⟩
  ·intro h1
   rw [e1] at h1
   rw [if_neg (fun h2=>h1 (.inr h2)),e1,e2]
   exact ⟨rfl,rfl⟩
theorem addK_nonneg (l:List Int):0 ≤ addK l:=(addK_range l).1
set_option maxHeartbeats 8000000 in
theorem refLeaf_ok (c:List Df) (hcl:c.length ≤ 1000000) (q:Qy) (hq:q.Ok) (hqi:q.In) (d:Nat) (o:Int) (hv:validT c q (.leaf o) (-1) = true):BestRAt c q (d + 1) (.leaf o) (-1):=by
 have hto:(Tr.leaf o).Ok:=.mk (by simp) (by simp)
 have hM:=MayRQ_ok c hcl q hq hqi
 have hT:=MayTR_ok _ hto
 have hL:=LeavesR_ok _ hto
 have hS:=SetR_ok _ hto
 obtain ⟨hm,hmt,hlt,_⟩:=valid_split hv
 rw [hm] at hM
 rw [hmt] at hT
 have hC:=ColsRQ_ok c hcl q hq hqi (Tr.leaf o).set
 have h4:q.occ.length ≤ 4:=may_len hm
 have hb:=(set_below hmt q.occ.length h4).1 hlt
 have hl16:=lvsT_len 4 (Tr.leaf o) (by omega)
 have hCo:=CostR_ok c hcl q hq hqi (.mk 0 o 0 0 []) plOk0'
 have hr:bestRd c q (d + 1) (.leaf o) (-1) = (costP c q (.mk 0 o 0 0 []), .mk 0 o 0 0 [],true):=by rw [bestRd,hv,if_pos rfl,leafV]
 unfold BestRAt
 rw [hr]
 dsimp only
 generalize costP c q (.mk 0 o 0 0 []) = n at hCo
 rw [encPl_mk,List.map_nil] at hCo
 generalize (Tr.leaf o).set = S at hS hC
 generalize q.cols c S = cols at hC
 have he:encT (Tr.leaf o) = [.int o, .sl []]:=by rw [Tr.leaf,encT_mk]; rfl
 rw [he] at hT hL hS ⊢
 refine quiet_of (rs:=#[.tmp 8, .cell 9 32, .tmp 10]) Go.Proofs.Tryz.func46 rfl rfl rfl mixed rfl rfl fun H hs=>?_
 push_cast -implicitDefEqProofs [eq_self,iff_self,encQ]
 refine callq hM ?_
 push_cast -implicitDefEqProofs [eq_self,iff_self,encQ]
 refine callq hT ?_
 push_cast -implicitDefEqProofs [eq_self,iff_self,encQ]
 refine callq hL ?_
 push_cast -implicitDefEqProofs [eq_self,iff_self,encQ]
 generalize (lvsT 4 (Tr.leaf o)).1 = lv at hb hl16 ⊢
 refine loop_at hs (σ:=Nat) (fun i=>i ≤ lv.length) (fun i=>lv.length - i)
  (fun i=>[(14, .int i),(13, .sl (lv.map encI)),(3, .int (-1)),(4, .ptr (H.nxt + 0) 1 0 0),(5, .ptr (H.nxt + 1) 6 0 0),(6, .ptr (H.nxt + 2) 2 0 0),(9, .ptr (H.nxt + 3) 5 0 0)]) (fun i=>[some (.cells 1 [[.sl (c.map encD)]] 0),some (.cells 6 [encQ q] 0),some (.cells 2 [[.int o, .sl []]] 0),some (.cells 5 [encPl plO] 0)]) [some 0,some 1,some 2,some 3] 0 (by omega) rfl ?_ ?_ ?_
 ·(try push_cast -implicitDefEqProofs [eq_self,iff_self,encDs_pure,encEs_pure,encIs_pure,encQ])
 ·(try push_cast -implicitDefEqProofs [eq_self,iff_self,encDs_pure,encEs_pure,encIs_pure,encQ,plO,List.map_nil])
 intro i hi2
 by_cases hi:i < lv.length
 ·have hi':((i:Int) < (lv.length:Int)) = True:=by simp; omega
  have hi0:(0 ≤ (i:Int)) = True:=by simp
  have hlv:=hb lv[i] (List.getElem_mem hi)
  have hge:((q.occ.length:Int) ≤ lv[i]) = False:=by simp; omega
  push_cast -implicitDefEqProofs [eq_self,iff_self,hi',hi0,encIs_get lv i hi,encI,encQ]
  refine areg_at 8 (by kernel_rfl) (by kernel_rfl) ?_
  push_cast -implicitDefEqProofs [eq_self,iff_self,hi',hi0,encIs_get lv i hi,encI,encQ,hge]
  rw [wrap64 (n:=(i:Int) + 1) (by omega) (by omega)]
  refine next_at [some 0,some 1,some 2,some 3] (i + 1) (by omega) (by omega) rfl ?_ ?_
  ·(try push_cast -implicitDefEqProofs [eq_self,iff_self,encDs_pure,encEs_pure,encIs_pure,encQ])
  ·(try push_cast -implicitDefEqProofs [eq_self,iff_self,encDs_pure,encEs_pure,encIs_pure,encQ])
 have hi':((i:Int) < (lv.length:Int)) = False:=by simp; omega
 push_cast -implicitDefEqProofs [eq_self,iff_self,hi',encQ]
 refine callq hS ?_
 push_cast -implicitDefEqProofs [eq_self,iff_self,encQ]
 refine callq hC ?_
 push_cast -implicitDefEqProofs [eq_self,iff_self,encQ]
 refine gcallq' (.int 0) (fun h=>by cases h) (fun h=>by cases h) ?_
 push_cast -implicitDefEqProofs [eq_self,iff_self,encQ]
 refine areg_at 6 (by kernel_rfl) (by kernel_rfl) ?_
 push_cast -implicitDefEqProofs [eq_self,iff_self,encQ]
 refine ahdq (quiet_told hCo fun H=>?_) ?_
 ·(try push_cast -implicitDefEqProofs [eq_self,iff_self,encQ,encDs_pure,encEs_pure,encIs_pure,List.map_nil])
 push_cast -implicitDefEqProofs [eq_self,iff_self,encQ,List.map_nil]
end
section
attribute [local push_cast] encPl_mk encPl_take encPl_len encPl_one encPls_pure encPl_pure encT_pure encT_len encT_one encT_take
theorem valid_one {c:List Df} {q:Qy} {t:Tr} {col:Int} (h:validT c q t col = true):validT c q t (-1) = true:=by
 unfold validT at h ⊢
 simp only [Bool.and_eq_true,Bool.or_eq_true] at h ⊢
 exact ⟨h.1, .inl rfl⟩
theorem valid_split' {c:List Df} {q:Qy} {t:Tr} {col:Int} (h:validT c q t col = true):q.may c = true ∧ t.may = true ∧ t.set < 2 ^ q.occ.length ∧ (col = -1 ∨ (q.cols c t.set).contains col = true):=by
 unfold validT at h
 simp only [Bool.and_eq_true,Bool.or_eq_true,decide_eq_true_eq] at h
 exact ⟨h.1.1.1,h.1.1.2,h.1.2,h.2⟩
set_option maxHeartbeats 8000000 in
theorem refLeafS_ok (c:List Df) (hcl:c.length ≤ 1000000) (q:Qy) (hq:q.Ok) (hqi:q.In) (d:Nat) (o col:Int) (hcol:col ≠ -1) (hv:validT c q (.leaf o) col = true):BestRAt c q (d + 1) (.leaf o) col:=by
 have hto:(Tr.leaf o).Ok:=.mk (by simp) (by simp)
 have hM:=MayRQ_ok c hcl q hq hqi
 have hT:=MayTR_ok _ hto
 have hL:=LeavesR_ok _ hto
 have hS:=SetR_ok _ hto
 obtain ⟨hm,hmt,hlt,hcolv⟩:=valid_split' hv
 rw [hm] at hM
 rw [hmt] at hT
 have hC:=ColsRQ_ok c hcl q hq hqi (Tr.leaf o).set
 have h4:q.occ.length ≤ 4:=may_len hm
 have hb:=(set_below hmt q.occ.length h4).1 hlt
 have hl16:=lvsT_len 4 (Tr.leaf o) (by omega)
 have hcl2:(q.cols c (Tr.leaf o).set).length ≤ 1000000:=by
  rw [Qy.cols,if_pos hm]
  have:=colsIn_le c q (bitI (Tr.leaf o).set)
  omega
 have hPl:=Place_ok _ hcl2 col
 have hix:=idx_has (q.cols c (Tr.leaf o).set) col
 have hin:(q.cols c (Tr.leaf o).set).contains col = true:=by
  rcases hcolv with h | h
  ·exact absurd h hcol
  ·exact h
 rw [hin] at hix
 have hv1:validT c q (.leaf o) (-1) = true:=valid_one hv
 have hr:bestRd c q (d + 1) (.leaf o) col = ((sortC c q (.leaf o) col (bestF c q (d + 1) (.leaf o) (-1))).1,(sortC c q (.leaf o) col (bestF c q (d + 1) (.leaf o) (-1))).2,true):=by
  rw [bestRd,hv,if_pos rfl]
  have e:bestF c q (d + 1) (.leaf o) col = sortC c q (.leaf o) col (bestF c q (d + 1) (.leaf o) (-1)):=by
   rw [bestF,bestF,if_neg hcol,if_pos rfl]
   have e:candC c q (bestF c q d) (.leaf o) col = []:=by show (if col = -1 then _ else _) = _; rw [if_neg hcol]
   rw [e]; rfl
  rw [e]
 have hB:BestRAt c q (d + 1) (.leaf o) (-1):=refLeaf_ok c hcl q hq hqi d o hv1
 unfold BestRAt at hB ⊢
 rw [hr]
 rw [bestRd,hv1,if_pos rfl] at hB
 dsimp only at hB ⊢
 generalize bestF c q (d + 1) (.leaf o) (-1) = x at hB ⊢
 obtain ⟨n,p⟩:=x
 have hSo:=SortedR_ok c hcl q hq hqi (Tr.leaf o).set n
 unfold sortC
 dsimp only at hB ⊢
 generalize (Tr.leaf o).set = S at hS hC hSo hPl hix ⊢
 generalize q.cols c S = cols at hC hPl hix hcl2
 generalize sortedC c q S n = m at hSo ⊢
 rw [encPl_mk,List.map_cons,List.map_nil]
 have hcf:(col = -1) = False:=by simp [hcol]
 have he:encT (Tr.leaf o) = [.int o, .sl []]:=by rw [Tr.leaf,encT_mk]; rfl
 rw [he] at hT hL hS hB ⊢
 refine quiet_of (rs:=#[.tmp 8, .cell 9 32, .tmp 10]) Go.Proofs.Tryz.func46 rfl rfl rfl mixed rfl rfl fun H hs=>?_
 push_cast -implicitDefEqProofs [eq_self,iff_self,encQ]
 refine callq hM ?_
 push_cast -implicitDefEqProofs [eq_self,iff_self,encQ]
 refine callq hT ?_
 push_cast -implicitDefEqProofs [eq_self,iff_self,encQ]
 refine callq hL ?_
 push_cast -implicitDefEqProofs [eq_self,iff_self,encQ]
 generalize (lvsT 4 (Tr.leaf o)).1 = lv at hb hl16 ⊢
 refine loop_at hs (σ:=Nat) (fun i=>i ≤ lv.length) (fun i=>lv.length - i)
  (fun i=>[(14, .int i),(13, .sl (lv.map encI)),(3, .int col),(4, .ptr (H.nxt + 0) 1 0 0),(5, .ptr (H.nxt + 1) 6 0 0),(6, .ptr (H.nxt + 2) 2 0 0),(9, .ptr (H.nxt + 3) 5 0 0)]) (fun i=>[some (.cells 1 [[.sl (c.map encD)]] 0),some (.cells 6 [encQ q] 0),some (.cells 2 [[.int o, .sl []]] 0),some (.cells 5 [encPl plO] 0)]) [some 0,some 1,some 2,some 3] 0 (by omega) rfl ?_ ?_ ?_
 ·(try push_cast -implicitDefEqProofs [eq_self,iff_self,encDs_pure,encEs_pure,encIs_pure,encQ])
 ·(try push_cast -implicitDefEqProofs [eq_self,iff_self,encDs_pure,encEs_pure,encIs_pure,encQ,plO,List.map_nil])
 intro i hi2
 by_cases hi:i < lv.length
 ·have hi':((i:Int) < (lv.length:Int)) = True:=by simp; omega
  have hi0:(0 ≤ (i:Int)) = True:=by simp
  have hlv:=hb lv[i] (List.getElem_mem hi)
  have hge:((q.occ.length:Int) ≤ lv[i]) = False:=by simp; omega
  push_cast -implicitDefEqProofs [eq_self,iff_self,hi',hi0,encIs_get lv i hi,encI,encQ]
  refine areg_at 8 (by kernel_rfl) (by kernel_rfl) ?_
  push_cast -implicitDefEqProofs [eq_self,iff_self,hi',hi0,encIs_get lv i hi,encI,encQ,hge]
  rw [wrap64 (n:=(i:Int) + 1) (by omega) (by omega)]
  refine next_at [some 0,some 1,some 2,some 3] (i + 1) (by omega) (by omega) rfl ?_ ?_
  ·(try push_cast -implicitDefEqProofs [eq_self,iff_self,encDs_pure,encEs_pure,encIs_pure,encQ])
  ·(try push_cast -implicitDefEqProofs [eq_self,iff_self,encDs_pure,encEs_pure,encIs_pure,encQ])
 have hi':((i:Int) < (lv.length:Int)) = False:=by simp; omega
 push_cast -implicitDefEqProofs [eq_self,iff_self,hi',encQ,hcf]
 refine callq hS ?_
 push_cast -implicitDefEqProofs [eq_self,iff_self,encQ,hcf]
 refine callq hC ?_
 push_cast -implicitDefEqProofs [eq_self,iff_self,encQ,hcf]
 refine gcallq' (.int (idx (fun c=>decide (col = c)) cols)) (fun _=>by simp) (fun _=>hPl) ?_
 push_cast -implicitDefEqProofs [eq_self,iff_self,encQ,hix,hcf]
 refine callq hB ?_
 push_cast -implicitDefEqProofs [eq_self,iff_self,encQ,hcf]
 refine callq hSo ?_
 push_cast -implicitDefEqProofs [eq_self,iff_self,encQ,hcf]
 refine areg_at 3 (by kernel_rfl) (by kernel_rfl) ?_
 push_cast -implicitDefEqProofs [eq_self,iff_self,encQ]
 trace_state
end
section
attribute [local push_cast] encPl_mk encPl_take encPl_len encPl_one encPls_pure encPl_pure encT_pure encT_len encT_one encT_take
theorem two_valid {c:List Df} {q:Qy} {s t:Tr}:validT c q (.join s t) (-1) = (validT c q s (-1) && validT c q t (-1) && decide (band .i64 s.set t.set = 0)):=by
 have v:∀ u:Tr,validT c q u (-1) = (q.may c && u.may && decide (u.set < 2 ^ q.occ.length)):=fun u=>by unfold validT; simp
 rw [v,v,v]
 cases hm:q.may c
 ·rfl
 have hn:=may_len hm
 rw [Bool.eq_iff_iff]
 simp only [Bool.true_and,Bool.and_eq_true,decide_eq_true_eq]
 have rs:=s.set_range
 have rt:=t.set_range
 constructor
 ·rintro ⟨h1,h2⟩
  obtain ⟨m1,m2,h0,he⟩:=join_may h1
  rw [he,bor_lt rs.1 rs.2 rt.1 rt.2 hn] at h2
  exact ⟨⟨⟨m1,h2.1⟩,m2,h2.2⟩,h0⟩
 ·rintro ⟨⟨⟨m1,l1⟩,m2,l2⟩,h0⟩
  have hj:=may_join m1 m2 h0
  exact ⟨hj,by rw [(join_may hj).2.2.2,bor_lt rs.1 rs.2 rt.1 rt.2 hn]; exact ⟨l1,l2⟩⟩
end
end Go.Sim.Tryz
