/- What the row rests on, part 4. Conditions: none. -/
import Derived.Test.YtclapofaecbobaaGreatM3
set_option linter.unusedSimpArgs false
set_option linter.unusedVariables false
set_option maxRecDepth 100000
namespace Go.Sim.Tryz
open Go Go.Sim
attribute [local push_cast] aops_cons aops_nil aopG_none aopG_some aopP_eq aopE_eq aopC_eq aopE?_eq aopC?_eq aopB_eq aopB?_eq abr anilq gopP_eq gopL_eq ahead_cons ahead_nil ahdG_none ahdG_some ahdP_eq ahdN_eq ahdC_eq ahdN?_eq ahdS_eq ahdS?_eq astoreN ahdC?_eq ghdP_eq ghdC_eq ghdC?_eq ghdZ_f ghdZ_t ahdI_eq ahdI?_eq ghdN?_eq aim_nil aim_cons isIn_nil isIn_none isIn_cons aimm aheP_eq aheA_eq aheC_eq aheC?_eq aheI?_eq aheA?_eq gheP_eq gheC_eq gheC?_eq gheZ_eq aheG_none aheG_some aheff_cons aheff_nil aapp gro_rsl gro_lit gro_esl opt_some opt_none no_eq acondT_true acondT_false acondT_lit aw_skip aw_region aw_regionD aw_seq aw_cond aw_block aw_loop aw_exit aw_label aw_ret thn_normal thn_exit thn_ret inb_normal inb_exit inb_ret qret_ret qret_normal gcond apure aeff anew acallee ares aresT aresL aresC ares1 qfin_eq ev ofV evL gokL tget tput_some tput_none initT abin aint aun aload afaddr aiaddr afield aindex aextract apick pickv_lit Bool.or_false Bool.false_or Bool.or_true Bool.true_or imp_self aslice chunk roomB abound aconv abuild afill splice alen aminmax abuiltin anil apart Value.oneCell' astore aappend srcEs abuildSlice amakeSlice amapPut alookup aput afind mget keyV sameV_int Option.isSome_some Option.isSome_none cond_true cond_false asets isEq plus_obj plus_nxt plus_add plus_set plus_del IntKind.bits Option.map_some Option.map_none Option.bind_some Option.bind_none Option.join_some Option.getD_some Option.getD_none Option.toList List.getElem?_toArray List.getElem?_cons_zero List.getElem?_cons_succ List.getElem?_nil List.length_cons List.length_nil List.length_map List.head?_cons List.cons_append List.nil_append List.append_nil List.map_cons List.map_nil List.getD_cons_zero List.getD_cons_succ List.replicate_succ List.replicate_zero List.set_cons_zero List.set_cons_succ List.take_succ_cons List.take_zero List.drop_succ_cons List.drop_zero List.all_cons List.all_nil Nat.zero_add if_true if_false true_and and_true false_and and_false true_implies implies_true forall_const Bool.and_true Bool.true_and Bool.false_and Bool.and_false Bool.true_beq Bool.false_beq Bool.not_not beq_tt beq_ff Int.toNat_natCast decide_true decide_false Bool.not_true Bool.not_false Bool.true_eq_false Bool.false_eq_true false_implies exists_prop eq_self bne_self_eq_false beq_self_eq_true decide_eq_true_eq decide_eq_false_iff_not Bool.not_eq_true' Bool.not_eq_false' AV.int AV.bool AV.nilS ne_eq not_false_eq_true not_true_eq_false exists_eq_left exists_eq_left' Nat.lt_irrefl core_lit grd_lit acells_lit one_lit core_agg grd_agg acells_agg one_agg core_tup grd_tup acells_tup one_tup core_sl grd_sl acells_sl one_sl core_esl grd_esl acells_esl one_esl core_rsl grd_rsl acells_rsl one_rsl core_ptr grd_ptr acells_ptr one_ptr core_iptr grd_iptr acells_iptr one_iptr core_clo grd_clo acells_clo one_clo core_mp grd_mp acells_mp one_mp core_any grd_any acells_any one_any core_gv grd_gv fit_agg fit_lit fit_sl fit_esl fit_rsl fit_ptr fit_iptr fit_clo fit_mp retq_ret retq_normal set_nxt set_set plus_obj_set plus_set_set app_get0 app_get app_set0 app_set List.append_assoc List.length_append List.length_set Nat.lt_add_one Nat.add_lt_add_iff_right Nat.lt_add_right_iff_pos Nat.add_lt_add_iff_left List.mem_cons List.not_mem_nil or_false forall_eq forall_eq_or_imp lt_s0 lt_s1 lt_s2 lt_s3 lt_s4 lt_s5 lt_s6 lt_s7 lt_s8 pickv_t pickv_f or_nand or_nand2 imp_and_l SealT SealOs sealO_cells sl_lit sl_any sl_agg sl_tup sl_sl sl_rsl slO sl_esl sl_nil sl_eslesl sl_eslnil sl_rslrsl sl_eslrsl sl_nilrsl sl_ptr sl_iptr sl_ptri slP sl_clo sl_mp sl_gv sll_nil sll_cons slll_nil slll_cons shut_eq shutO Option.join_none Fn.func.injEq and_self sealL_self sealLL_self seal_self PureL PureLL Pure Nat.le_refl Nat.zero_le AV.lit.injEq Value.int.injEq Value.bool.injEq false_or or_true true_or Int.natCast_zero Int.ofNat_zero Int.cast_ofNat_Int Int.natCast_add Int.natCast_one Option.some.injEq piL_is sop_nil sop_cons sop_none sop_some sopO_some sop_new shut_pi shutL_nil shutL_cons exQ_exit exQ_ret exQ_normal Go.Sim.Tryz.ty_load1 Go.Sim.Tryz.ty_zero1 Go.Sim.Tryz.ty_load2 Go.Sim.Tryz.ty_zero2 Go.Sim.Tryz.ty_und2 Go.Sim.Tryz.ty_load3 Go.Sim.Tryz.ty_zero3 Go.Sim.Tryz.ty_und3 Go.Sim.Tryz.ty_load4 Go.Sim.Tryz.ty_zero4 Go.Sim.Tryz.ty_und4 Go.Sim.Tryz.ty_load5 Go.Sim.Tryz.ty_zero5 Go.Sim.Tryz.ty_und5 Go.Sim.Tryz.ty_load9 Go.Sim.Tryz.ty_zero9 Go.Sim.Tryz.ty_und9 Go.Sim.Tryz.ty_load21 Go.Sim.Tryz.ty_zero21 Go.Sim.Tryz.ty_und21 Go.Sim.Tryz.ty_load22 Go.Sim.Tryz.ty_zero22 Go.Sim.Tryz.ty_el22 Go.Sim.Tryz.ty_zeroE22 Go.Sim.Tryz.ty_load24 Go.Sim.Tryz.ty_zero24 Go.Sim.Tryz.ty_fld24_0 Go.Sim.Tryz.ty_part24_0 Go.Sim.Tryz.ty_struct24 Go.Sim.Tryz.ty_load25 Go.Sim.Tryz.ty_zero25 Go.Sim.Tryz.ty_el25 Go.Sim.Tryz.ty_zeroE25 Go.Sim.Tryz.ty_load26 Go.Sim.Tryz.ty_zero26 Go.Sim.Tryz.ty_el26 Go.Sim.Tryz.ty_zeroE26 Go.Sim.Tryz.ty_load28 Go.Sim.Tryz.ty_zero28 Go.Sim.Tryz.ty_fld28_0 Go.Sim.Tryz.ty_part28_0 Go.Sim.Tryz.ty_fld28_1 Go.Sim.Tryz.ty_part28_1 Go.Sim.Tryz.ty_fld28_2 Go.Sim.Tryz.ty_part28_2 Go.Sim.Tryz.ty_fld28_3 Go.Sim.Tryz.ty_part28_3 Go.Sim.Tryz.ty_fld28_4 Go.Sim.Tryz.ty_part28_4 Go.Sim.Tryz.ty_fld28_5 Go.Sim.Tryz.ty_part28_5 Go.Sim.Tryz.ty_struct28 Go.Sim.Tryz.ty_load29 Go.Sim.Tryz.ty_zero29 Go.Sim.Tryz.ty_arr29 Go.Sim.Tryz.ty_part29_0 Go.Sim.Tryz.ty_part29_1 Go.Sim.Tryz.ty_struct29 Go.Sim.Tryz.ty_load30 Go.Sim.Tryz.ty_zero30 Go.Sim.Tryz.ty_el30 Go.Sim.Tryz.ty_zeroE30 Go.Sim.Tryz.ty_load32 Go.Sim.Tryz.ty_zero32 Go.Sim.Tryz.ty_fld32_0 Go.Sim.Tryz.ty_part32_0 Go.Sim.Tryz.ty_fld32_1 Go.Sim.Tryz.ty_part32_1 Go.Sim.Tryz.ty_fld32_2 Go.Sim.Tryz.ty_part32_2 Go.Sim.Tryz.ty_fld32_3 Go.Sim.Tryz.ty_part32_3 Go.Sim.Tryz.ty_struct32 Go.Sim.Tryz.ty_load37 Go.Sim.Tryz.ty_zero37 Go.Sim.Tryz.ty_el37 Go.Sim.Tryz.ty_zeroE37 Go.Sim.Tryz.ty_load39 Go.Sim.Tryz.ty_zero39 Go.Sim.Tryz.ty_fld39_0 Go.Sim.Tryz.ty_part39_0 Go.Sim.Tryz.ty_fld39_1 Go.Sim.Tryz.ty_part39_1 Go.Sim.Tryz.ty_struct39 Go.Sim.Tryz.ty_load52 Go.Sim.Tryz.ty_zero52 Go.Sim.Tryz.ty_fld52_0 Go.Sim.Tryz.ty_part52_0 Go.Sim.Tryz.ty_fld52_1 Go.Sim.Tryz.ty_part52_1 Go.Sim.Tryz.ty_fld52_2 Go.Sim.Tryz.ty_part52_2 Go.Sim.Tryz.ty_struct52 Go.Sim.Tryz.ty_load55 Go.Sim.Tryz.ty_zero55 Go.Sim.Tryz.ty_load56 Go.Sim.Tryz.ty_zero56 Go.Sim.Tryz.ty_load70 Go.Sim.Tryz.ty_zero70 Go.Sim.Tryz.ty_el70 Go.Sim.Tryz.ty_zeroE70 Go.Sim.Tryz.ty_load76 Go.Sim.Tryz.ty_zero76 Go.Sim.Tryz.ty_el76 Go.Sim.Tryz.ty_zeroE76 Go.Sim.Tryz.ty_load78 Go.Sim.Tryz.ty_zero78 Go.Sim.Tryz.ty_fld78_0 Go.Sim.Tryz.ty_part78_0 Go.Sim.Tryz.ty_struct78 Go.Sim.Tryz.ty_load84 Go.Sim.Tryz.ty_zero84 Go.Sim.Tryz.ty_fld84_0 Go.Sim.Tryz.ty_part84_0 Go.Sim.Tryz.ty_struct84 Go.Sim.Tryz.ty_load85 Go.Sim.Tryz.ty_zero85 Go.Sim.Tryz.ty_load92 Go.Sim.Tryz.ty_zero92 Go.Sim.Tryz.ty_load93 Go.Sim.Tryz.ty_zero93 Go.Sim.Tryz.ty_und93 Go.Sim.Tryz.ty_load95 Go.Sim.Tryz.ty_zero95 Go.Sim.Tryz.ty_und95 Go.Sim.Tryz.ty_load104 Go.Sim.Tryz.ty_zero104 Go.Sim.Tryz.ty_fld104_0 Go.Sim.Tryz.ty_part104_0 Go.Sim.Tryz.ty_fld104_1 Go.Sim.Tryz.ty_part104_1 Go.Sim.Tryz.ty_struct104 Go.Sim.Tryz.ty_load110 Go.Sim.Tryz.ty_zero110 Go.Sim.Tryz.ty_fld110_0 Go.Sim.Tryz.ty_part110_0 Go.Sim.Tryz.ty_fld110_1 Go.Sim.Tryz.ty_part110_1 Go.Sim.Tryz.ty_struct110 Go.Sim.Tryz.ty_load112 Go.Sim.Tryz.ty_zero112 Go.Sim.Tryz.ty_fld112_0 Go.Sim.Tryz.ty_part112_0 Go.Sim.Tryz.ty_fld112_1 Go.Sim.Tryz.ty_part112_1 Go.Sim.Tryz.ty_fld112_2 Go.Sim.Tryz.ty_part112_2 Go.Sim.Tryz.ty_fld112_3 Go.Sim.Tryz.ty_part112_3 Go.Sim.Tryz.ty_struct112 Go.Sim.Tryz.ty_load119 Go.Sim.Tryz.ty_zero119 Go.Sim.Tryz.ty_load123 Go.Sim.Tryz.ty_zero123 Go.Sim.Tryz.ty_fld123_0 Go.Sim.Tryz.ty_part123_0 Go.Sim.Tryz.ty_fld123_1 Go.Sim.Tryz.ty_part123_1 Go.Sim.Tryz.ty_struct123 Go.Sim.Tryz.ty_load124 Go.Sim.Tryz.ty_zero124 Go.Sim.Tryz.ty_el124 Go.Sim.Tryz.ty_zeroE124 Go.Sim.Tryz.ty_load125 Go.Sim.Tryz.ty_zero125 Go.Sim.Tryz.ty_el125 Go.Sim.Tryz.ty_zeroE125 Go.Sim.Tryz.ty_load128 Go.Sim.Tryz.ty_zero128 Go.Sim.Tryz.ty_fld128_0 Go.Sim.Tryz.ty_part128_0 Go.Sim.Tryz.ty_struct128 Go.Sim.Tryz.ty_load135 Go.Sim.Tryz.ty_zero135 Go.Sim.Tryz.ty_und135 Go.Sim.Tryz.ty_load140 Go.Sim.Tryz.ty_zero140 Go.Sim.Tryz.ty_load141 Go.Sim.Tryz.ty_zero141 Go.Sim.Tryz.ty_el141 Go.Sim.Tryz.ty_zeroE141 Go.Sim.Tryz.ty_load148 Go.Sim.Tryz.ty_zero148 Go.Sim.Tryz.ty_load151 Go.Sim.Tryz.ty_zero151 Go.Sim.Tryz.ty_load159 Go.Sim.Tryz.ty_zero159 Go.Sim.Tryz.ty_und159 Go.Sim.Tryz.ty_vzero128 Go.Sim.Tryz.ty_load168 Go.Sim.Tryz.ty_zero168 Go.Sim.Tryz.ty_fld168_0 Go.Sim.Tryz.ty_part168_0 Go.Sim.Tryz.ty_fld168_1 Go.Sim.Tryz.ty_part168_1 Go.Sim.Tryz.ty_fld168_2 Go.Sim.Tryz.ty_part168_2 Go.Sim.Tryz.ty_struct168 Go.Sim.Tryz.ty_load170 Go.Sim.Tryz.ty_zero170 Go.Sim.Tryz.ty_load172 Go.Sim.Tryz.ty_zero172 Go.Sim.Tryz.ty_und172 Go.Sim.Tryz.ty_load179 Go.Sim.Tryz.ty_zero179 Go.Sim.Tryz.ty_und179 Go.Sim.Tryz.ty_load181 Go.Sim.Tryz.ty_zero181 Go.Sim.Tryz.ty_load184 Go.Sim.Tryz.ty_zero184 Go.Sim.Tryz.ty_und184 Go.Sim.Tryz.ty_load188 Go.Sim.Tryz.ty_zero188 Go.Sim.Tryz.ty_load191 Go.Sim.Tryz.ty_zero191
section
attribute [local push_cast] encPl_mk encPl_take encPl_len encPl_one encPls_pure encPl_pure
mutual
def szP:Pl → Int → Int
 | .mk _ _ _ _ l,m=>szPL l m 1
def szPL:List Pl → Int → Int → Int
 | [],_,n=>n
 | x :: l,m,n=>if n ≤ m then szPL l m (n + szP x (m - n)) else n
end
mutual
theorem szP_bound:∀ (e:Pl) (m:Int),0 ≤ m → 1 ≤ szP e m ∧ szP e m ≤ m + 1
 | .mk _ _ _ _ l,m,h=>by rw [szP]; exact szPL_bound l m 1 h (by omega) (by omega)
theorem szPL_bound:∀ (l:List Pl) (m n:Int),0 ≤ m → 1 ≤ n → n ≤ m + 1 → 1 ≤ szPL l m n ∧ szPL l m n ≤ m + 1
 | [],m,n,h,h1,h2=>by rw [szPL]; exact ⟨h1,h2⟩
 | x :: l,m,n,h,h1,h2=>by
  rw [szPL]
  split
  ·have:=szP_bound x (m - n) (by omega)
   exact szPL_bound l m _ h (by omega) (by omega)
  ·exact ⟨h1,h2⟩
end
mutual
theorem szP_eq:∀ (e:Pl) (m:Int),0 ≤ m → szP e m = min ((parts e).length:Int) (m + 1)
 | .mk op occ a b l,m,h=>by
  rw [szP,szPL_eq l m 1 h (by omega) (by omega),parts_mk,List.length_cons]
  omega
theorem szPL_eq:∀ (l:List Pl) (m n:Int),0 ≤ m → 1 ≤ n → n ≤ m + 1 → szPL l m n = min (n + (partsPl l).length:Int) (m + 1)
 | [],m,n,h,h1,h2=>by rw [szPL,partsPl]; simp; omega
 | x :: l,m,n,h,h1,h2=>by
  rw [szPL,partsPl_cons,List.length_append]
  split
  ·have hb:=szP_bound x (m - n) (by omega)
   have he:=szP_eq x (m - n) (by omega)
   rw [szPL_eq l m _ h (by omega) (by omega),he]
   omega
  ·omega
end
theorem sizeP_ok (e:Pl):∀ (m:Int),0 ≤ m → m ≤ 1000 → e.Ok → Quiet Go.Proofs.Tryz.prog 56 [.agg (encPl e), .int m] (.int (szP e m)):=by
 induction e using Pl.ind with
 | h op occ a b l ih =>
 intro m h0 h1 hok
 refine quiet_of (rs:=#[.tmp 4]) Go.Proofs.Tryz.func56 rfl rfl rfl mixed rfl rfl fun H hs=>?_
 obtain ⟨hl,hlo⟩:=hok
 simp -implicitDefEqProofs only [push_cast,Nat.reduceAdd,Nat.reduceSub,Nat.reduceMul,Nat.reduceLT,Nat.reduceLeDiff,Nat.reduceEqDiff,Nat.reduceBEq,reduceCtorEq,reduceIte,Int.reduceLE,Int.reduceLT,Int.reduceNeg,Int.reduceToNat]
 refine loop_at hs (σ:=Nat × Int) (fun s=>s.1 ≤ l.length ∧ 1 ≤ s.2 ∧ s.2 ≤ m + 1 ∧ szPL (l.drop s.1) m s.2 = szPL l m 1) (fun s=>l.length - s.1)
  (fun s=>[(2, .ptr (H.nxt + 0) 5 0 0),(1, .int m),(5, .int s.2),(6, .int s.1)]) (fun _=>[some (.cells 5 [encPl (.mk op occ a b l)] 0)]) [some 0] (0,1) ⟨by simp,by omega,by omega,rfl⟩ rfl ?_ ?_ ?_
 ·(try simp -implicitDefEqProofs only [push_cast,Nat.reduceAdd,Nat.reduceSub,Nat.reduceMul,Nat.reduceLT,Nat.reduceLeDiff,Nat.reduceEqDiff,Nat.reduceBEq,reduceCtorEq,reduceIte,Int.reduceLE,Int.reduceLT,Int.reduceNeg,Int.reduceToNat])
 ·(try simp -implicitDefEqProofs only [push_cast,Nat.reduceAdd,Nat.reduceSub,Nat.reduceMul,Nat.reduceLT,Nat.reduceLeDiff,Nat.reduceEqDiff,Nat.reduceBEq,reduceCtorEq,reduceIte,Int.reduceLE,Int.reduceLT,Int.reduceNeg,Int.reduceToNat])
 rintro ⟨i,s⟩ ⟨h2,h3,h4,h5⟩
 dsimp only at h2 h3 h4 h5
 by_cases hi:i < l.length
 ·have hi':((i:Int) < (l.length:Int)) = True:=by simp; omega
  have hi0:(0 ≤ (i:Int)) = True:=by simp
  by_cases hm:s ≤ m
  ·have hm':(s ≤ m) = True:=by simp [hm]
   simp -implicitDefEqProofs only [push_cast,Nat.reduceAdd,Nat.reduceSub,Nat.reduceMul,Nat.reduceLT,Nat.reduceLeDiff,Nat.reduceEqDiff,Nat.reduceBEq,reduceCtorEq,reduceIte,Int.reduceLE,Int.reduceLT,Int.reduceNeg,Int.reduceToNat,hi',hi0,hm',encPls_get l i hi]
   rw [wrap64 (n:=m - s) (by omega) (by omega)]
   refine callq (ih _ (List.getElem_mem hi) _ (by omega) (by omega) (hlo _ (List.getElem_mem hi))) ?_
   have hb:=szP_bound l[i] (m - s) (by omega)
   simp -implicitDefEqProofs only [push_cast,Nat.reduceAdd,Nat.reduceSub,Nat.reduceMul,Nat.reduceLT,Nat.reduceLeDiff,Nat.reduceEqDiff,Nat.reduceBEq,reduceCtorEq,reduceIte,Int.reduceLE,Int.reduceLT,Int.reduceNeg,Int.reduceToNat]
   rw [wrap64 (n:=s + _) (by omega) (by omega),wrap64 (n:=(i:Int) + 1) (by omega) (by omega)]
   refine next_at [some 0] (i + 1,s + szP l[i] (m - s)) ⟨by omega,by omega,by omega, ?_⟩ (by dsimp only; omega) rfl ?_ ?_
   ·rw [← h5,List.drop_eq_getElem_cons hi,szPL,if_pos hm]
   ·(try simp -implicitDefEqProofs only [push_cast,Nat.reduceAdd,Nat.reduceSub,Nat.reduceMul,Nat.reduceLT,Nat.reduceLeDiff,Nat.reduceEqDiff,Nat.reduceBEq,reduceCtorEq,reduceIte,Int.reduceLE,Int.reduceLT,Int.reduceNeg,Int.reduceToNat])
   ·(try simp -implicitDefEqProofs only [push_cast,Nat.reduceAdd,Nat.reduceSub,Nat.reduceMul,Nat.reduceLT,Nat.reduceLeDiff,Nat.reduceEqDiff,Nat.reduceBEq,reduceCtorEq,reduceIte,Int.reduceLE,Int.reduceLT,Int.reduceNeg,Int.reduceToNat])
  ·have hm':(s ≤ m) = False:=by simp [hm]
   simp -implicitDefEqProofs only [push_cast,Nat.reduceAdd,Nat.reduceSub,Nat.reduceMul,Nat.reduceLT,Nat.reduceLeDiff,Nat.reduceEqDiff,Nat.reduceBEq,reduceCtorEq,reduceIte,Int.reduceLE,Int.reduceLT,Int.reduceNeg,Int.reduceToNat,hi',hi0,hm',encPls_get l i hi]
   rw [szP,← h5,List.drop_eq_getElem_cons hi,szPL,if_neg hm]
 ·have hi':((i:Int) < (l.length:Int)) = False:=by simp; omega
  simp -implicitDefEqProofs only [push_cast,Nat.reduceAdd,Nat.reduceSub,Nat.reduceMul,Nat.reduceLT,Nat.reduceLeDiff,Nat.reduceEqDiff,Nat.reduceBEq,reduceCtorEq,reduceIte,Int.reduceLE,Int.reduceLT,Int.reduceNeg,Int.reduceToNat,hi']
  rw [szP,← h5,List.drop_eq_nil_of_le (by omega),szPL]
theorem shapeR_ok (p:Pl):(parts p).all Pl.form = true → Quiet Go.Proofs.Tryz.prog 79 [.agg (encPl p)] (.agg (encT (treeP p))):=by
 induction p using Pl.ind with
 | h op occ a b l ih =>
 intro hf
 have hi:=fun x hx=>ih x hx (forms_part hf hx)
 refine quiet_of (rs:=#[.cell 2 39]) Go.Proofs.Tryz.func79 rfl rfl rfl mixed rfl rfl fun H hs=>?_
 rcases form_split (forms_own hf) with ⟨rfl,rfl⟩ | ⟨rfl,x,rfl⟩ | ⟨ho,x,y,rfl⟩
 ·rw [treeP]
  simp -implicitDefEqProofs only [push_cast,Nat.reduceAdd,Nat.reduceSub,Nat.reduceMul,Nat.reduceLT,Nat.reduceLeDiff,Nat.reduceEqDiff,Nat.reduceBEq,reduceCtorEq,reduceIte,Int.reduceLE,Int.reduceLT,Int.reduceNeg,Int.reduceToNat,Int.reduceEq,List.map_nil,encT_mk,encT_pure,encT_len,encT_one,Tr.leaf]
 ·have hx:=hi x (by simp)
  rw [treeP]
  simp -implicitDefEqProofs only [push_cast,Nat.reduceAdd,Nat.reduceSub,Nat.reduceMul,Nat.reduceLT,Nat.reduceLeDiff,Nat.reduceEqDiff,Nat.reduceBEq,reduceCtorEq,reduceIte,Int.reduceLE,Int.reduceLT,Int.reduceNeg,Int.reduceToNat,Int.reduceEq,List.map_nil,List.map_cons,List.length_cons,List.length_nil,Int.reduceAdd,encT_mk,encT_pure,encT_len,encT_one]
  refine callq hx ?_
  simp -implicitDefEqProofs only [push_cast,Nat.reduceAdd,Nat.reduceSub,Nat.reduceMul,Nat.reduceLT,Nat.reduceLeDiff,Nat.reduceEqDiff,Nat.reduceBEq,reduceCtorEq,reduceIte,Int.reduceLE,Int.reduceLT,Int.reduceNeg,Int.reduceToNat,encT_pure,encT_len,encT_one,encT_take]
 ·have hx:=hi x (by simp)
  have hy:=hi y (by simp)
  have c0:(op = 0) = False:=by simp; omega
  have c4:(op = 4) = False:=by simp; omega
  rw [treeP]
  simp -implicitDefEqProofs only [push_cast,Nat.reduceAdd,Nat.reduceSub,Nat.reduceMul,Nat.reduceLT,Nat.reduceLeDiff,Nat.reduceEqDiff,Nat.reduceBEq,reduceCtorEq,reduceIte,Int.reduceLE,Int.reduceLT,Int.reduceNeg,Int.reduceToNat,c0,c4,List.map_nil,List.map_cons,List.length_cons,List.length_nil,Int.reduceAdd,encT_mk,encT_pure,encT_len,encT_one]
  refine areg_at 11 (by kernel_rfl) (by kernel_rfl) ?_
  simp -implicitDefEqProofs only [push_cast,Nat.reduceAdd,Nat.reduceSub,Nat.reduceMul,Nat.reduceLT,Nat.reduceLeDiff,Nat.reduceEqDiff,Nat.reduceBEq,reduceCtorEq,reduceIte,Int.reduceLE,Int.reduceLT,Int.reduceNeg,Int.reduceToNat,c0,c4,List.map_nil,List.map_cons,List.length_cons,List.length_nil,Int.reduceAdd]
  refine ahdq hx ?_
  simp -implicitDefEqProofs only [push_cast,Nat.reduceAdd,Nat.reduceSub,Nat.reduceMul,Nat.reduceLT,Nat.reduceLeDiff,Nat.reduceEqDiff,Nat.reduceBEq,reduceCtorEq,reduceIte,Int.reduceLE,Int.reduceLT,Int.reduceNeg,Int.reduceToNat,c0,c4,List.map_nil,List.map_cons,List.length_cons,List.length_nil,Int.reduceAdd]
  refine ahdq hy ?_
  simp -implicitDefEqProofs only [push_cast,Nat.reduceAdd,Nat.reduceSub,Nat.reduceMul,Nat.reduceLT,Nat.reduceLeDiff,Nat.reduceEqDiff,Nat.reduceBEq,reduceCtorEq,reduceIte,Int.reduceLE,Int.reduceLT,Int.reduceNeg,Int.reduceToNat]
  refine ahdq (JoinR_ok (treeP x) (treeP y)) ?_
  simp -implicitDefEqProofs only [push_cast,Nat.reduceAdd,Nat.reduceSub,Nat.reduceMul,Nat.reduceLT,Nat.reduceLeDiff,Nat.reduceEqDiff,Nat.reduceBEq,reduceCtorEq,reduceIte,Int.reduceLE,Int.reduceLT,Int.reduceNeg,Int.reduceToNat,encT_pure,encT_len,encT_one,encT_take]
end
section
attribute [local push_cast] encPl_mk encPl_take encPl_len encPl_one encPls_pure encPl_pure
theorem all_parts (op occ a b:Int) (l:List Pl):(parts (.mk op occ a b l)).all Pl.form = ((Pl.mk op occ a b l).form && (partsPl l).all Pl.form):=by rw [parts_mk,List.all_cons]
theorem allL_take (l:List Pl) (i:Nat) (h:i < l.length):(partsPl (l.take (i + 1))).all Pl.form = ((partsPl (l.take i)).all Pl.form && (parts l[i]).all Pl.form):=by
 induction l generalizing i with
 | nil=>simp at h
 | cons x l ih =>
  cases i with
  | zero=>simp [partsPl_cons,partsPl]
  | succ i =>
   rw [List.take_succ_cons,List.take_succ_cons,partsPl_cons,partsPl_cons,List.all_append,List.all_append,ih i (by simpa using h),Bool.and_assoc]
   rfl
theorem allL_miss {l:List Pl} {i:Nat} (h:i < l.length) (hb:(parts l[i]).all Pl.form = false):(partsPl l).all Pl.form = false:=by
 rw [Bool.eq_false_iff] at hb ⊢
 intro ha
 rw [List.all_eq_true] at ha
 exact hb (List.all_eq_true.2 fun y hy=>ha y (partsPl_mem (List.getElem_mem h) y hy))
set_option maxHeartbeats 2000000 in
theorem formR_ok (p:Pl):p.Ok → Quiet Go.Proofs.Tryz.prog 81 [.agg (encPl p)] (.bool ((parts p).all Pl.form)):=by
 induction p using Pl.ind with
 | h op occ a b l ih =>
 intro hok
 obtain ⟨hl,hlo⟩:=hok
 have hrow:(Pl.mk op occ a b l).form = (decide (0 ≤ op) && decide (op < 5) && decide (l.length = plansP op) && (decide (op = 0) || decide (occ = 0)) &&
  ((decide (a = 0) && decide (b = 0)) || decide (op = 2) || decide (op = 3) || (decide (op = 4) && decide (b = 0)))):=rfl
 rw [all_parts]
 refine quiet_of (rs:=#[.tmp 2]) Go.Proofs.Tryz.func81 rfl rfl rfl mixed rfl rfl fun H hs=>?_
 have hne:∀ r:Bool,¬ (Pl.mk op occ a b l).form = true → false = ((Pl.mk op occ a b l).form && r):=fun r h=>by rw [Bool.eq_false_iff.2 h,Bool.false_and]
 have hlen:∀ k:Nat,((l.length:Int) = k) ↔ l.length = k:=fun k=>by omega
 by_cases h0:op = 0
 ·subst h0
  simp -implicitDefEqProofs only [push_cast,Nat.reduceAdd,Nat.reduceSub,Nat.reduceMul,Nat.reduceLT,Nat.reduceLeDiff,Nat.reduceEqDiff,Nat.reduceBEq,reduceCtorEq,reduceIte,Int.reduceLE,Int.reduceLT,Int.reduceNeg,Int.reduceToNat,Int.reduceEq]
  refine ⟨fun h1=>hne _ fun hf=>?_,fun h1=>⟨by decide,fun _=>by decide,fun h2=>hne _ fun hf=>?_,fun h2=>?_⟩⟩
  ·rw [hrow] at hf
   simp [plansP] at hf
   first | omega | (simp_all; done) | grind
  ·rw [hrow] at hf
   simp [plansP] at hf h2
   first | omega | (simp_all; done) | grind
  have hform:(Pl.mk 0 occ a b l).form = true:=by
   rw [hrow]
   simp [plansP] at h2 ⊢
   first | omega | (simp_all; done) | grind
  rw [hform,Bool.true_and]
  refine loop_at hs (σ:=Nat) (fun i=>i ≤ l.length ∧ (partsPl (l.take i)).all Pl.form = true) (fun i=>l.length - i)
   (fun i=>[(4, .int i),(1, .ptr (H.nxt + 0) 5 0 0)]) (fun _=>[some (.cells 5 [encPl (.mk 0 occ a b l)] 0)]) [some 0] 0 ⟨by omega,by simp [partsPl]⟩ rfl ?_ ?_ ?_
  ·(try simp -implicitDefEqProofs only [push_cast,Nat.reduceAdd,Nat.reduceSub,Nat.reduceMul,Nat.reduceLT,Nat.reduceLeDiff,Nat.reduceEqDiff,Nat.reduceBEq,reduceCtorEq,reduceIte,Int.reduceLE,Int.reduceLT,Int.reduceNeg,Int.reduceToNat])
  ·(try simp -implicitDefEqProofs only [push_cast,Nat.reduceAdd,Nat.reduceSub,Nat.reduceMul,Nat.reduceLT,Nat.reduceLeDiff,Nat.reduceEqDiff,Nat.reduceBEq,reduceCtorEq,reduceIte,Int.reduceLE,Int.reduceLT,Int.reduceNeg,Int.reduceToNat])
  rintro i ⟨hi2,hi3⟩
  by_cases hi:i < l.length
  ·have hi':((i:Int) < (l.length:Int)) = True:=by simp; omega
   have hi0:(0 ≤ (i:Int)) = True:=by simp
   simp -implicitDefEqProofs only [push_cast,Nat.reduceAdd,Nat.reduceSub,Nat.reduceMul,Nat.reduceLT,Nat.reduceLeDiff,Nat.reduceEqDiff,Nat.reduceBEq,reduceCtorEq,reduceIte,Int.reduceLE,Int.reduceLT,Int.reduceNeg,Int.reduceToNat,hi',hi0,encPls_get l i hi]
   refine callq (ih _ (List.getElem_mem hi) (hlo _ (List.getElem_mem hi))) ?_
   simp -implicitDefEqProofs only [push_cast,Nat.reduceAdd,Nat.reduceSub,Nat.reduceMul,Nat.reduceLT,Nat.reduceLeDiff,Nat.reduceEqDiff,Nat.reduceBEq,reduceCtorEq,reduceIte,Int.reduceLE,Int.reduceLT,Int.reduceNeg,Int.reduceToNat]
   refine ⟨fun hb=>?_,fun hb=>?_⟩
   ·exact (allL_miss hi hb).symm
   ·rw [wrap64 (n:=(i:Int) + 1) (by omega) (by omega)]
    refine next_at [some 0] (i + 1) ⟨by omega,by rw [allL_take l i hi,hi3,hb]; rfl⟩ (by omega) rfl ?_ ?_
    ·(try simp -implicitDefEqProofs only [push_cast,Nat.reduceAdd,Nat.reduceSub,Nat.reduceMul,Nat.reduceLT,Nat.reduceLeDiff,Nat.reduceEqDiff,Nat.reduceBEq,reduceCtorEq,reduceIte,Int.reduceLE,Int.reduceLT,Int.reduceNeg,Int.reduceToNat])
    ·(try simp -implicitDefEqProofs only [push_cast,Nat.reduceAdd,Nat.reduceSub,Nat.reduceMul,Nat.reduceLT,Nat.reduceLeDiff,Nat.reduceEqDiff,Nat.reduceBEq,reduceCtorEq,reduceIte,Int.reduceLE,Int.reduceLT,Int.reduceNeg,Int.reduceToNat])
  ·have hi':((i:Int) < (l.length:Int)) = False:=by simp; omega
   simp -implicitDefEqProofs only [push_cast,Nat.reduceAdd,Nat.reduceSub,Nat.reduceMul,Nat.reduceLT,Nat.reduceLeDiff,Nat.reduceEqDiff,Nat.reduceBEq,reduceCtorEq,reduceIte,Int.reduceLE,Int.reduceLT,Int.reduceNeg,Int.reduceToNat,hi']
   rw [← hi3,List.take_of_length_le (by omega)]
 ·have c0:(op = 0) = False:=by simp [h0]
  by_cases h4:op = 4
  ·subst h4
   simp -implicitDefEqProofs only [push_cast,Nat.reduceAdd,Nat.reduceSub,Nat.reduceMul,Nat.reduceLT,Nat.reduceLeDiff,Nat.reduceEqDiff,Nat.reduceBEq,reduceCtorEq,reduceIte,Int.reduceLE,Int.reduceLT,Int.reduceNeg,Int.reduceToNat,Int.reduceEq]
   refine ⟨fun h1=>hne _ fun hf=>?_,fun h1=>⟨by decide,fun h2=>hne _ fun hf=>?_,fun h2=>?_⟩⟩
   ·rw [hrow] at hf
    simp [plansP] at hf h1
    first | omega | (simp_all; done) | grind
   ·rw [hrow] at hf
    simp [plansP] at hf
    first | omega | (simp_all; done) | grind
   have hform:(Pl.mk 4 occ a b l).form = true:=by
    rw [hrow]
    simp [plansP] at h1 ⊢
    first | omega | (simp_all; done) | grind
   rw [hform,Bool.true_and]
   refine loop_at hs (σ:=Nat) (fun i=>i ≤ l.length ∧ (partsPl (l.take i)).all Pl.form = true) (fun i=>l.length - i)
    (fun i=>[(4, .int i),(1, .ptr (H.nxt + 0) 5 0 0)]) (fun _=>[some (.cells 5 [encPl (.mk 4 occ a b l)] 0)]) [some 0] 0 ⟨by omega,by simp [partsPl]⟩ rfl ?_ ?_ ?_
   ·(try simp -implicitDefEqProofs only [push_cast,Nat.reduceAdd,Nat.reduceSub,Nat.reduceMul,Nat.reduceLT,Nat.reduceLeDiff,Nat.reduceEqDiff,Nat.reduceBEq,reduceCtorEq,reduceIte,Int.reduceLE,Int.reduceLT,Int.reduceNeg,Int.reduceToNat])
   ·(try simp -implicitDefEqProofs only [push_cast,Nat.reduceAdd,Nat.reduceSub,Nat.reduceMul,Nat.reduceLT,Nat.reduceLeDiff,Nat.reduceEqDiff,Nat.reduceBEq,reduceCtorEq,reduceIte,Int.reduceLE,Int.reduceLT,Int.reduceNeg,Int.reduceToNat])
   rintro i ⟨hi2,hi3⟩
   by_cases hi:i < l.length
   ·have hi':((i:Int) < (l.length:Int)) = True:=by simp; omega
    have hi0:(0 ≤ (i:Int)) = True:=by simp
    simp -implicitDefEqProofs only [push_cast,Nat.reduceAdd,Nat.reduceSub,Nat.reduceMul,Nat.reduceLT,Nat.reduceLeDiff,Nat.reduceEqDiff,Nat.reduceBEq,reduceCtorEq,reduceIte,Int.reduceLE,Int.reduceLT,Int.reduceNeg,Int.reduceToNat,hi',hi0,encPls_get l i hi]
    refine callq (ih _ (List.getElem_mem hi) (hlo _ (List.getElem_mem hi))) ?_
    simp -implicitDefEqProofs only [push_cast,Nat.reduceAdd,Nat.reduceSub,Nat.reduceMul,Nat.reduceLT,Nat.reduceLeDiff,Nat.reduceEqDiff,Nat.reduceBEq,reduceCtorEq,reduceIte,Int.reduceLE,Int.reduceLT,Int.reduceNeg,Int.reduceToNat]
    refine ⟨fun hb=>?_,fun hb=>?_⟩
    ·exact (allL_miss hi hb).symm
    ·rw [wrap64 (n:=(i:Int) + 1) (by omega) (by omega)]
     refine next_at [some 0] (i + 1) ⟨by omega,by rw [allL_take l i hi,hi3,hb]; rfl⟩ (by omega) rfl ?_ ?_
     ·(try simp -implicitDefEqProofs only [push_cast,Nat.reduceAdd,Nat.reduceSub,Nat.reduceMul,Nat.reduceLT,Nat.reduceLeDiff,Nat.reduceEqDiff,Nat.reduceBEq,reduceCtorEq,reduceIte,Int.reduceLE,Int.reduceLT,Int.reduceNeg,Int.reduceToNat])
     ·(try simp -implicitDefEqProofs only [push_cast,Nat.reduceAdd,Nat.reduceSub,Nat.reduceMul,Nat.reduceLT,Nat.reduceLeDiff,Nat.reduceEqDiff,Nat.reduceBEq,reduceCtorEq,reduceIte,Int.reduceLE,Int.reduceLT,Int.reduceNeg,Int.reduceToNat])
   ·have hi':((i:Int) < (l.length:Int)) = False:=by simp; omega
    simp -implicitDefEqProofs only [push_cast,Nat.reduceAdd,Nat.reduceSub,Nat.reduceMul,Nat.reduceLT,Nat.reduceLeDiff,Nat.reduceEqDiff,Nat.reduceBEq,reduceCtorEq,reduceIte,Int.reduceLE,Int.reduceLT,Int.reduceNeg,Int.reduceToNat,hi']
    rw [← hi3,List.take_of_length_le (by omega)]
  ·have c4:(op = 4) = False:=by simp [h4]
   simp -implicitDefEqProofs only [push_cast,Nat.reduceAdd,Nat.reduceSub,Nat.reduceMul,Nat.reduceLT,Nat.reduceLeDiff,Nat.reduceEqDiff,Nat.reduceBEq,reduceCtorEq,reduceIte,Int.reduceLE,Int.reduceLT,Int.reduceNeg,Int.reduceToNat,c0,c4]
   refine ⟨fun h1=>hne _ fun hf=>?_,fun h1=>⟨fun _=>by decide,fun _=>by decide,fun h5 h6=>by simp [h5,h6],fun h2=>hne _ fun hf=>?_,fun h2=>?_⟩⟩
   ·rw [hrow] at hf
    simp [plansP,h0,h4] at hf h1
    first | omega | (simp_all; done) | grind
   ·rw [hrow] at hf
    simp [plansP,h0,h4] at hf h2
    first | omega | (simp_all; done) | grind
   have hform:(Pl.mk op occ a b l).form = true:=by
    rw [hrow]
    simp [plansP,h0,h4] at h1 h2 ⊢
    first | omega | (simp_all; done) | grind
   rw [hform,Bool.true_and]
   refine loop_at hs (σ:=Nat) (fun i=>i ≤ l.length ∧ (partsPl (l.take i)).all Pl.form = true) (fun i=>l.length - i)
    (fun i=>[(4, .int i),(1, .ptr (H.nxt + 0) 5 0 0)]) (fun _=>[some (.cells 5 [encPl (.mk op occ a b l)] 0)]) [some 0] 0 ⟨by omega,by simp [partsPl]⟩ rfl ?_ ?_ ?_
   ·(try simp -implicitDefEqProofs only [push_cast,Nat.reduceAdd,Nat.reduceSub,Nat.reduceMul,Nat.reduceLT,Nat.reduceLeDiff,Nat.reduceEqDiff,Nat.reduceBEq,reduceCtorEq,reduceIte,Int.reduceLE,Int.reduceLT,Int.reduceNeg,Int.reduceToNat])
   ·(try simp -implicitDefEqProofs only [push_cast,Nat.reduceAdd,Nat.reduceSub,Nat.reduceMul,Nat.reduceLT,Nat.reduceLeDiff,Nat.reduceEqDiff,Nat.reduceBEq,reduceCtorEq,reduceIte,Int.reduceLE,Int.reduceLT,Int.reduceNeg,Int.reduceToNat])
   rintro i ⟨hi2,hi3⟩
   by_cases hi:i < l.length
   ·have hi':((i:Int) < (l.length:Int)) = True:=by simp; omega
    have hi0:(0 ≤ (i:Int)) = True:=by simp
    simp -implicitDefEqProofs only [push_cast,Nat.reduceAdd,Nat.reduceSub,Nat.reduceMul,Nat.reduceLT,Nat.reduceLeDiff,Nat.reduceEqDiff,Nat.reduceBEq,reduceCtorEq,reduceIte,Int.reduceLE,Int.reduceLT,Int.reduceNeg,Int.reduceToNat,hi',hi0,encPls_get l i hi]
    refine callq (ih _ (List.getElem_mem hi) (hlo _ (List.getElem_mem hi))) ?_
    simp -implicitDefEqProofs only [push_cast,Nat.reduceAdd,Nat.reduceSub,Nat.reduceMul,Nat.reduceLT,Nat.reduceLeDiff,Nat.reduceEqDiff,Nat.reduceBEq,reduceCtorEq,reduceIte,Int.reduceLE,Int.reduceLT,Int.reduceNeg,Int.reduceToNat]
    refine ⟨fun hb=>?_,fun hb=>?_⟩
    ·exact (allL_miss hi hb).symm
    ·rw [wrap64 (n:=(i:Int) + 1) (by omega) (by omega)]
     refine next_at [some 0] (i + 1) ⟨by omega,by rw [allL_take l i hi,hi3,hb]; rfl⟩ (by omega) rfl ?_ ?_
     ·(try simp -implicitDefEqProofs only [push_cast,Nat.reduceAdd,Nat.reduceSub,Nat.reduceMul,Nat.reduceLT,Nat.reduceLeDiff,Nat.reduceEqDiff,Nat.reduceBEq,reduceCtorEq,reduceIte,Int.reduceLE,Int.reduceLT,Int.reduceNeg,Int.reduceToNat])
     ·(try simp -implicitDefEqProofs only [push_cast,Nat.reduceAdd,Nat.reduceSub,Nat.reduceMul,Nat.reduceLT,Nat.reduceLeDiff,Nat.reduceEqDiff,Nat.reduceBEq,reduceCtorEq,reduceIte,Int.reduceLE,Int.reduceLT,Int.reduceNeg,Int.reduceToNat])
   ·have hi':((i:Int) < (l.length:Int)) = False:=by simp; omega
    simp -implicitDefEqProofs only [push_cast,Nat.reduceAdd,Nat.reduceSub,Nat.reduceMul,Nat.reduceLT,Nat.reduceLeDiff,Nat.reduceEqDiff,Nat.reduceBEq,reduceCtorEq,reduceIte,Int.reduceLE,Int.reduceLT,Int.reduceNeg,Int.reduceToNat,hi']
    rw [← hi3,List.take_of_length_le (by omega)]
end
section
attribute [local push_cast] encPl_mk encPl_take encPl_len encPl_one encPls_pure encPl_pure
theorem FewR_ok (p:Pl) (hok:p.Ok):Quiet Go.Proofs.Tryz.prog 31 [.agg (encPl p)] (.bool p.few):=by
 have hs20:=sizeP_ok p 20 (by omega) (by omega) hok
 have hf:=formR_ok p hok
 have he:=szP_eq p 20 (by omega)
 refine quiet_of (rs:=#[.tmp 2]) Go.Proofs.Tryz.func31 rfl rfl rfl mixed rfl rfl fun H hs=>?_
 simp -implicitDefEqProofs only [push_cast,Nat.reduceAdd,Nat.reduceSub,Nat.reduceMul,Nat.reduceLT,Nat.reduceLeDiff,Nat.reduceEqDiff,Nat.reduceBEq,reduceCtorEq,reduceIte,Int.reduceLE,Int.reduceLT,Int.reduceNeg,Int.reduceToNat]
 refine callq hs20 ?_
 unfold Pl.few
 by_cases h:(parts p).length ≤ 20
 ·have h20:(20 < szP p 20) = False:=by rw [he]; simp; omega
  have hd:decide ((parts p).length ≤ 20) = true:=by simp [h]
  rw [hd,Bool.true_and]
  simp -implicitDefEqProofs only [push_cast,Nat.reduceAdd,Nat.reduceSub,Nat.reduceMul,Nat.reduceLT,Nat.reduceLeDiff,Nat.reduceEqDiff,Nat.reduceBEq,reduceCtorEq,reduceIte,Int.reduceLE,Int.reduceLT,Int.reduceNeg,Int.reduceToNat,h20]
  refine callq hf ?_
  simp -implicitDefEqProofs only [push_cast,Nat.reduceAdd,Nat.reduceSub,Nat.reduceMul,Nat.reduceLT,Nat.reduceLeDiff,Nat.reduceEqDiff,Nat.reduceBEq,reduceCtorEq,reduceIte,Int.reduceLE,Int.reduceLT,Int.reduceNeg,Int.reduceToNat]
 ·have h20:(20 < szP p 20) = True:=by rw [he]; simp; omega
  have hd:decide ((parts p).length ≤ 20) = false:=by simp; omega
  rw [hd,Bool.false_and]
  simp -implicitDefEqProofs only [push_cast,Nat.reduceAdd,Nat.reduceSub,Nat.reduceMul,Nat.reduceLT,Nat.reduceLeDiff,Nat.reduceEqDiff,Nat.reduceBEq,reduceCtorEq,reduceIte,Int.reduceLE,Int.reduceLT,Int.reduceNeg,Int.reduceToNat,h20]
theorem TreeR_ok (p:Pl) (hok:p.Ok):Quiet Go.Proofs.Tryz.prog 30 [.agg (encPl p)] (.tup [.agg (encT p.tree.1), .bool p.tree.2]):=by
 have hF:=FewR_ok p hok
 have hM:=MayTR_ok (treeP p) (treeP_ok p)
 unfold Pl.tree
 refine quiet_of (rs:=#[.cell 2 39, .tmp 3]) Go.Proofs.Tryz.func30 rfl rfl rfl mixed rfl rfl fun H hs=>?_
 simp -implicitDefEqProofs only [push_cast,Nat.reduceAdd,Nat.reduceSub,Nat.reduceMul,Nat.reduceLT,Nat.reduceLeDiff,Nat.reduceEqDiff,Nat.reduceBEq,reduceCtorEq,reduceIte,Int.reduceLE,Int.reduceLT,Int.reduceNeg,Int.reduceToNat]
 refine callq hF ?_
 cases hf:p.few
 ·simp -implicitDefEqProofs only [push_cast,Nat.reduceAdd,Nat.reduceSub,Nat.reduceMul,Nat.reduceLT,Nat.reduceLeDiff,Nat.reduceEqDiff,Nat.reduceBEq,reduceCtorEq,reduceIte,Int.reduceLE,Int.reduceLT,Int.reduceNeg,Int.reduceToNat,Bool.false_and,Bool.false_eq_true,if_false,trO,encT_mk,List.map_nil,encT_pure]
 have hT:=shapeR_ok p (by unfold Pl.few at hf; rw [Bool.and_eq_true] at hf; exact hf.2)
 simp -implicitDefEqProofs only [push_cast,Nat.reduceAdd,Nat.reduceSub,Nat.reduceMul,Nat.reduceLT,Nat.reduceLeDiff,Nat.reduceEqDiff,Nat.reduceBEq,reduceCtorEq,reduceIte,Int.reduceLE,Int.reduceLT,Int.reduceNeg,Int.reduceToNat,Bool.true_and]
 refine callq hT ?_
 simp -implicitDefEqProofs only [push_cast,Nat.reduceAdd,Nat.reduceSub,Nat.reduceMul,Nat.reduceLT,Nat.reduceLeDiff,Nat.reduceEqDiff,Nat.reduceBEq,reduceCtorEq,reduceIte,Int.reduceLE,Int.reduceLT,Int.reduceNeg,Int.reduceToNat,encT_pure,encT_len,encT_one,encT_take]
 refine callq hM ?_
 cases hm:(treeP p).may
 ·simp -implicitDefEqProofs only [push_cast,Nat.reduceAdd,Nat.reduceSub,Nat.reduceMul,Nat.reduceLT,Nat.reduceLeDiff,Nat.reduceEqDiff,Nat.reduceBEq,reduceCtorEq,reduceIte,Int.reduceLE,Int.reduceLT,Int.reduceNeg,Int.reduceToNat,Bool.false_eq_true,if_false,trO,encT_mk,encT_pure,List.map_nil]
 ·simp -implicitDefEqProofs only [push_cast,Nat.reduceAdd,Nat.reduceSub,Nat.reduceMul,Nat.reduceLT,Nat.reduceLeDiff,Nat.reduceEqDiff,Nat.reduceBEq,reduceCtorEq,reduceIte,Int.reduceLE,Int.reduceLT,Int.reduceNeg,Int.reduceToNat,if_true,encT_pure,encT_len,encT_one,encT_take]
end
section
attribute [local push_cast] encPl_mk encPl_take encPl_len encPl_one encPls_pure encPl_pure
def setOfP (p:Pl):Int:=if p.tree.2 then p.tree.1.set else 0
theorem tree_ok (p:Pl):p.tree.1.Ok:=by
 unfold Pl.tree
 split
 ·exact treeP_ok p
 ·exact .mk (by simp) (by simp)
theorem few_own {op occ a b:Int} {l:List Pl} (h:(Pl.mk op occ a b l).few = true):(Pl.mk op occ a b l).form = true:=by
 unfold Pl.few at h
 rw [Bool.and_eq_true] at h
 exact forms_own h.2
theorem OrderR_ok (p:Pl):p.Ok → Quiet Go.Proofs.Tryz.prog 33 [.agg (encPl p)] (.int p.order):=by
 induction p using Pl.ind with
 | h op occ a b l ih =>
 intro hok
 have hF:=FewR_ok _ hok
 obtain ⟨hl,hlo⟩:=hok
 unfold Pl.order
 refine quiet_of (rs:=#[.tmp 2]) Go.Proofs.Tryz.func33 rfl rfl rfl mixed rfl rfl fun H hs=>?_
 simp -implicitDefEqProofs only [push_cast,Nat.reduceAdd,Nat.reduceSub,Nat.reduceMul,Nat.reduceLT,Nat.reduceLeDiff,Nat.reduceEqDiff,Nat.reduceBEq,reduceCtorEq,reduceIte,Int.reduceLE,Int.reduceLT,Int.reduceNeg,Int.reduceToNat]
 rw [encPl_mk] at hF
 refine callq hF ?_
 cases hf:(Pl.mk op occ a b l).few
 ·simp -implicitDefEqProofs only [push_cast,Nat.reduceAdd,Nat.reduceSub,Nat.reduceMul,Nat.reduceLT,Nat.reduceLeDiff,Nat.reduceEqDiff,Nat.reduceBEq,reduceCtorEq,reduceIte,Int.reduceLE,Int.reduceLT,Int.reduceNeg,Int.reduceToNat,Bool.false_eq_true,if_false]
 rcases form_split (few_own hf) with ⟨rfl,rfl⟩ | ⟨rfl,x,rfl⟩ | ⟨ho,x,y,rfl⟩
 ·simp -implicitDefEqProofs only [push_cast,Nat.reduceAdd,Nat.reduceSub,Nat.reduceMul,Nat.reduceLT,Nat.reduceLeDiff,Nat.reduceEqDiff,Nat.reduceBEq,reduceCtorEq,reduceIte,Int.reduceLE,Int.reduceLT,Int.reduceNeg,Int.reduceToNat,if_true,orderL,Int.reduceEq,or_self,if_false]
 ·simp -implicitDefEqProofs only [push_cast,Nat.reduceAdd,Nat.reduceSub,Nat.reduceMul,Nat.reduceLT,Nat.reduceLeDiff,Nat.reduceEqDiff,Nat.reduceBEq,reduceCtorEq,reduceIte,Int.reduceLE,Int.reduceLT,Int.reduceNeg,Int.reduceToNat,if_true,orderL,Int.reduceEq,or_false,or_true,true_or,if_false]
  decide
 ·have hx:=ih x (by simp) (hlo x (by simp))
  have hfx:x.few = true:=few_part hf (by simp)
  have hox:x.order = orderL x:=by unfold Pl.order; rw [if_pos hfx]
  rw [hox] at hx
  rcases ho with rfl | rfl | rfl
  ·simp -implicitDefEqProofs only [push_cast,Nat.reduceAdd,Nat.reduceSub,Nat.reduceMul,Nat.reduceLT,Nat.reduceLeDiff,Nat.reduceEqDiff,Nat.reduceBEq,reduceCtorEq,reduceIte,Int.reduceLE,Int.reduceLT,Int.reduceNeg,Int.reduceToNat,if_true,orderL,Int.reduceEq,List.map_cons,List.map_nil,List.length_cons,List.length_nil,Int.reduceAdd]
   refine callq hx ?_
   simp -implicitDefEqProofs only [push_cast,Nat.reduceAdd,Nat.reduceSub,Nat.reduceMul,Nat.reduceLT,Nat.reduceLeDiff,Nat.reduceEqDiff,Nat.reduceBEq,reduceCtorEq,reduceIte,Int.reduceLE,Int.reduceLT,Int.reduceNeg,Int.reduceToNat]
  ·simp -implicitDefEqProofs only [push_cast,Nat.reduceAdd,Nat.reduceSub,Nat.reduceMul,Nat.reduceLT,Nat.reduceLeDiff,Nat.reduceEqDiff,Nat.reduceBEq,reduceCtorEq,reduceIte,Int.reduceLE,Int.reduceLT,Int.reduceNeg,Int.reduceToNat,if_true,orderL,Int.reduceEq,or_self,if_false]
  ·simp -implicitDefEqProofs only [push_cast,Nat.reduceAdd,Nat.reduceSub,Nat.reduceMul,Nat.reduceLT,Nat.reduceLeDiff,Nat.reduceEqDiff,Nat.reduceBEq,reduceCtorEq,reduceIte,Int.reduceLE,Int.reduceLT,Int.reduceNeg,Int.reduceToNat,if_true,orderL,Int.reduceEq,or_true,or_false,true_or,if_false]
   decide
theorem SetP_ok (p:Pl) (hok:p.Ok):Quiet Go.Proofs.Tryz.prog 87 [.agg (encPl p)] (.int (setOfP p)):=by
 have hT:=TreeR_ok p hok
 have hS:=SetR_ok _ (tree_ok p)
 unfold setOfP
 generalize p.tree = tr at hT hS ⊢
 obtain ⟨t,is⟩:=tr
 dsimp only at hT hS ⊢
 refine quiet_of (rs:=#[.tmp 2]) Go.Proofs.Tryz.func87 rfl rfl rfl mixed rfl rfl fun H hs=>?_
 simp -implicitDefEqProofs only [push_cast,Nat.reduceAdd,Nat.reduceSub,Nat.reduceMul,Nat.reduceLT,Nat.reduceLeDiff,Nat.reduceEqDiff,Nat.reduceBEq,reduceCtorEq,reduceIte,Int.reduceLE,Int.reduceLT,Int.reduceNeg,Int.reduceToNat]
 refine callq hT ?_
 cases is
 ·simp -implicitDefEqProofs only [push_cast,Nat.reduceAdd,Nat.reduceSub,Nat.reduceMul,Nat.reduceLT,Nat.reduceLeDiff,Nat.reduceEqDiff,Nat.reduceBEq,reduceCtorEq,reduceIte,Int.reduceLE,Int.reduceLT,Int.reduceNeg,Int.reduceToNat,encT_pure,encT_len,encT_one,encT_take,Bool.false_eq_true,if_false]
 ·simp -implicitDefEqProofs only [push_cast,Nat.reduceAdd,Nat.reduceSub,Nat.reduceMul,Nat.reduceLT,Nat.reduceLeDiff,Nat.reduceEqDiff,Nat.reduceBEq,reduceCtorEq,reduceIte,Int.reduceLE,Int.reduceLT,Int.reduceNeg,Int.reduceToNat,encT_pure,encT_len,encT_one,encT_take,if_true]
  refine callq hS ?_
  simp -implicitDefEqProofs only [push_cast,Nat.reduceAdd,Nat.reduceSub,Nat.reduceMul,Nat.reduceLT,Nat.reduceLeDiff,Nat.reduceEqDiff,Nat.reduceBEq,reduceCtorEq,reduceIte,Int.reduceLE,Int.reduceLT,Int.reduceNeg,Int.reduceToNat]
end
section
attribute [local push_cast] encPl_mk encPl_take encPl_len encPl_one encPls_pure encPl_pure
theorem partSet_ok (p:Pl) (hf:(parts p).all Pl.form = true):Quiet Go.Proofs.Tryz.prog 120 [.agg (encPl p)] (.int (treeP p).set):=by
 have hT:=treeOf_ok p hf
 have hS:=SetT_ok (treeP p) (treeP_ok p)
 refine quiet_of (rs:=#[.tmp 2]) Go.Proofs.Tryz.func120 rfl rfl rfl mixed rfl rfl fun H hs=>?_
 simp -implicitDefEqProofs only [push_cast,Nat.reduceAdd,Nat.reduceSub,Nat.reduceMul,Nat.reduceLT,Nat.reduceLeDiff,Nat.reduceEqDiff,Nat.reduceBEq,reduceCtorEq,reduceIte,Int.reduceLE,Int.reduceLT,Int.reduceNeg,Int.reduceToNat]
 refine callq hT ?_
 simp -implicitDefEqProofs only [push_cast,Nat.reduceAdd,Nat.reduceSub,Nat.reduceMul,Nat.reduceLT,Nat.reduceLeDiff,Nat.reduceEqDiff,Nat.reduceBEq,reduceCtorEq,reduceIte,Int.reduceLE,Int.reduceLT,Int.reduceNeg,Int.reduceToNat]
 refine callq hS ?_
 simp -implicitDefEqProofs only [push_cast,Nat.reduceAdd,Nat.reduceSub,Nat.reduceMul,Nat.reduceLT,Nat.reduceLeDiff,Nat.reduceEqDiff,Nat.reduceBEq,reduceCtorEq,reduceIte,Int.reduceLE,Int.reduceLT,Int.reduceNeg,Int.reduceToNat]
theorem Order_ok (p:Pl) (hok:p.Ok):Quiet Go.Proofs.Tryz.prog 25 [.agg (encPl p)] (.int p.order):=by
 have hF:=Few_ok p hok
 unfold Pl.order
 refine quiet_of (rs:=#[.tmp 2]) Go.Proofs.Tryz.func25 rfl rfl rfl mixed rfl rfl fun H hs=>?_
 simp -implicitDefEqProofs only [push_cast,Nat.reduceAdd,Nat.reduceSub,Nat.reduceMul,Nat.reduceLT,Nat.reduceLeDiff,Nat.reduceEqDiff,Nat.reduceBEq,reduceCtorEq,reduceIte,Int.reduceLE,Int.reduceLT,Int.reduceNeg,Int.reduceToNat]
 refine callq hF ?_
 cases hf:p.few
 ·simp -implicitDefEqProofs only [push_cast,Nat.reduceAdd,Nat.reduceSub,Nat.reduceMul,Nat.reduceLT,Nat.reduceLeDiff,Nat.reduceEqDiff,Nat.reduceBEq,reduceCtorEq,reduceIte,Int.reduceLE,Int.reduceLT,Int.reduceNeg,Int.reduceToNat,Bool.false_eq_true,if_false]
 rw [if_pos rfl]
 simp -implicitDefEqProofs only [push_cast,Nat.reduceAdd,Nat.reduceSub,Nat.reduceMul,Nat.reduceLT,Nat.reduceLeDiff,Nat.reduceEqDiff,Nat.reduceBEq,reduceCtorEq,reduceIte,Int.reduceLE,Int.reduceLT,Int.reduceNeg,Int.reduceToNat]
 refine loop_at hs (σ:=Pl) (fun q=>q.few = true ∧ orderL q = orderL p) (fun q=>(parts q).length)
  (fun q=>[(1, .ptr (H.nxt + 0) 5 0 0)]) (fun q=>[some (.cells 5 [encPl q] 0)]) [some 0] p ⟨hf,rfl⟩ rfl ?_ ?_ ?_
 ·(try simp -implicitDefEqProofs only [push_cast,Nat.reduceAdd,Nat.reduceSub,Nat.reduceMul,Nat.reduceLT,Nat.reduceLeDiff,Nat.reduceEqDiff,Nat.reduceBEq,reduceCtorEq,reduceIte,Int.reduceLE,Int.reduceLT,Int.reduceNeg,Int.reduceToNat])
 ·(try simp -implicitDefEqProofs only [push_cast,Nat.reduceAdd,Nat.reduceSub,Nat.reduceMul,Nat.reduceLT,Nat.reduceLeDiff,Nat.reduceEqDiff,Nat.reduceBEq,reduceCtorEq,reduceIte,Int.reduceLE,Int.reduceLT,Int.reduceNeg,Int.reduceToNat])
 rintro ⟨op,occ,a,b,l⟩ ⟨hq,ho⟩
 rw [← ho]
 rcases form_split (few_own hq) with ⟨rfl,rfl⟩ | ⟨rfl,x,rfl⟩ | ⟨hop,x,y,rfl⟩
 ·simp -implicitDefEqProofs only [push_cast,Nat.reduceAdd,Nat.reduceSub,Nat.reduceMul,Nat.reduceLT,Nat.reduceLeDiff,Nat.reduceEqDiff,Nat.reduceBEq,reduceCtorEq,reduceIte,Int.reduceLE,Int.reduceLT,Int.reduceNeg,Int.reduceToNat,orderL,Int.reduceEq,or_self,if_false]
 ·simp -implicitDefEqProofs only [push_cast,Nat.reduceAdd,Nat.reduceSub,Nat.reduceMul,Nat.reduceLT,Nat.reduceLeDiff,Nat.reduceEqDiff,Nat.reduceBEq,reduceCtorEq,reduceIte,Int.reduceLE,Int.reduceLT,Int.reduceNeg,Int.reduceToNat,orderL,Int.reduceEq,or_false,or_true,true_or,if_false,if_true]
  decide
 ·rcases hop with rfl | rfl | rfl
  ·simp -implicitDefEqProofs only [push_cast,Nat.reduceAdd,Nat.reduceSub,Nat.reduceMul,Nat.reduceLT,Nat.reduceLeDiff,Nat.reduceEqDiff,Nat.reduceBEq,reduceCtorEq,reduceIte,Int.reduceLE,Int.reduceLT,Int.reduceNeg,Int.reduceToNat,Int.reduceEq,List.map_cons,List.map_nil,List.length_cons,List.length_nil,Int.reduceAdd]
   refine next_at [some 0] x ⟨few_part hq (by simp), ?_⟩ ?_ rfl ?_ ?_
   ·simp [orderL]
   ·rw [parts_mk,List.length_cons]; have:=partsPl_len (l:=[x,y]) (x:=x) (by simp); omega
   ·(try simp -implicitDefEqProofs only [push_cast,Nat.reduceAdd,Nat.reduceSub,Nat.reduceMul,Nat.reduceLT,Nat.reduceLeDiff,Nat.reduceEqDiff,Nat.reduceBEq,reduceCtorEq,reduceIte,Int.reduceLE,Int.reduceLT,Int.reduceNeg,Int.reduceToNat])
   ·(try simp -implicitDefEqProofs only [push_cast,Nat.reduceAdd,Nat.reduceSub,Nat.reduceMul,Nat.reduceLT,Nat.reduceLeDiff,Nat.reduceEqDiff,Nat.reduceBEq,reduceCtorEq,reduceIte,Int.reduceLE,Int.reduceLT,Int.reduceNeg,Int.reduceToNat])
  ·simp -implicitDefEqProofs only [push_cast,Nat.reduceAdd,Nat.reduceSub,Nat.reduceMul,Nat.reduceLT,Nat.reduceLeDiff,Nat.reduceEqDiff,Nat.reduceBEq,reduceCtorEq,reduceIte,Int.reduceLE,Int.reduceLT,Int.reduceNeg,Int.reduceToNat,orderL,Int.reduceEq,or_self,if_false]
  ·simp -implicitDefEqProofs only [push_cast,Nat.reduceAdd,Nat.reduceSub,Nat.reduceMul,Nat.reduceLT,Nat.reduceLeDiff,Nat.reduceEqDiff,Nat.reduceBEq,reduceCtorEq,reduceIte,Int.reduceLE,Int.reduceLT,Int.reduceNeg,Int.reduceToNat,orderL,Int.reduceEq,or_true,or_false,true_or,if_false,if_true]
   decide
end
section
attribute [local push_cast] encE_mk encE_take encE_len encV encE_one encEs_pure encE_pure
theorem mayR_ok (v:Vl):Quiet Go.Proofs.Tryz.prog 193 [.agg (encV v)] (.bool v.may):=by
 refine quiet_of (rs:=#[.tmp 2]) Go.Proofs.Tryz.func193 rfl rfl rfl mixed rfl rfl fun H hs=>?_
 simp -implicitDefEqProofs only [push_cast,Nat.reduceAdd,Nat.reduceSub,Nat.reduceMul,Nat.reduceLT,Nat.reduceLeDiff,Nat.reduceEqDiff,Nat.reduceBEq,reduceCtorEq,reduceIte,Int.reduceLE,Int.reduceLT,Int.reduceNeg,Int.reduceToNat]
 (try simp -implicitDefEqProofs only [push_cast,Nat.reduceAdd,Nat.reduceSub,Nat.reduceMul,Nat.reduceLT,Nat.reduceLeDiff,Nat.reduceEqDiff,Nat.reduceBEq,reduceCtorEq,reduceIte,Int.reduceLE,Int.reduceLT,Int.reduceNeg,Int.reduceToNat])
 simp only [Vl.may]
 grind
end
section
attribute [local push_cast] encE_mk encE_take encE_len encV encE_one encEs_pure encE_pure
/- What may be is fine in each part. -/
mutual
theorem may_fineS:∀ (e:Ex) (d n:Int),(eachS mayStep e d n).2 = true → e.Fine
 | .mk op col k n l,d,s,h=>by
  rw [eachS] at h
  split at h
  ·rename_i h1
   refine ⟨?_,may_fineL l _ _ h⟩
   simp only [mayStep,Bool.and_eq_true] at h1
   exact h1.2
  ·cases h
theorem may_fineL:∀ (l:List Ex) (d n:Int),(eachL mayStep l d n).2 = true → ∀ x ∈ l,x.Fine
 | [],_,_,_=>by simp
 | x :: l,d,s,h=>by
  rw [eachL] at h
  split at h
  ·rename_i h1
   intro y hy
   rcases List.mem_cons.1 hy with h2 | hy
   ·rw [h2]; exact may_fineS x _ _ h1
   ·exact may_fineL l _ _ h y hy
  ·cases h
end
theorem may_fine {e:Ex} (h:e.may = true):e.Fine:=may_fineS e 1 0 h
def Ex.eval (e:Ex) (cols:List Int) (row:List Vl):Vl:=if e.may then evalE cols row e else .bad
def Ex.keeps (e:Ex) (cols:List Int) (row:List Vl):Bool:=(e.eval cols row).true?
theorem few_ok (e:Ex) (hok:e.Ok) (m:Int) (h0:0 ≤ m) (h1:m ≤ 1000):Quiet Go.Proofs.Tryz.prog 142 [.agg (encE e), .int m] (.bool (decide (sz e m ≤ m))):=by
 refine quiet_of (rs:=#[.tmp 4]) Go.Proofs.Tryz.func142 rfl rfl rfl mixed rfl rfl fun H hs=>?_
 simp -implicitDefEqProofs only [push_cast,Nat.reduceAdd,Nat.reduceSub,Nat.reduceMul,Nat.reduceLT,Nat.reduceLeDiff,Nat.reduceEqDiff,Nat.reduceBEq,reduceCtorEq,reduceIte,Int.reduceLE,Int.reduceLT,Int.reduceNeg,Int.reduceToNat]
 refine callq (size_ok e m h0 h1 hok) ?_
 simp -implicitDefEqProofs only [push_cast,Nat.reduceAdd,Nat.reduceSub,Nat.reduceMul,Nat.reduceLT,Nat.reduceLeDiff,Nat.reduceEqDiff,Nat.reduceBEq,reduceCtorEq,reduceIte,Int.reduceLE,Int.reduceLT,Int.reduceNeg,Int.reduceToNat]
 (try simp -implicitDefEqProofs only [push_cast,Nat.reduceAdd,Nat.reduceSub,Nat.reduceMul,Nat.reduceLT,Nat.reduceLeDiff,Nat.reduceEqDiff,Nat.reduceBEq,reduceCtorEq,reduceIte,Int.reduceLE,Int.reduceLT,Int.reduceNeg,Int.reduceToNat])
def Ex.pair (e:Ex):Int × Int × Bool :=
 match e with
 | .mk op _ _ _ [a,b]=>if e.may && decide (op = 6) && decide (a.op = 1) && decide (b.op = 1) && !decide (a.col = b.col) then (a.col,b.col,true) else (0,0,false)
 | _=>(0,0,false)
theorem Pair_ok (e:Ex) (hok:e.Ok):Quiet Go.Proofs.Tryz.prog 114 [.agg (encE e)] (.tup [.int e.pair.1, .int e.pair.2.1, .bool e.pair.2.2]):=by
 obtain ⟨op,col,k,n,l⟩:=e
 refine quiet_of (rs:=#[.tmp 2, .tmp 3, .tmp 4]) Go.Proofs.Tryz.func114 rfl rfl rfl mixed rfl rfl fun H hs=>?_
 have hm:=mayE_ok _ hok
 simp only [encE_mk] at hm
 simp -implicitDefEqProofs only [push_cast,Nat.reduceAdd,Nat.reduceSub,Nat.reduceMul,Nat.reduceLT,Nat.reduceLeDiff,Nat.reduceEqDiff,Nat.reduceBEq,reduceCtorEq,reduceIte,Int.reduceLE,Int.reduceLT,Int.reduceNeg,Int.reduceToNat]
 refine callq hm ?_
 simp -implicitDefEqProofs only [push_cast,Nat.reduceAdd,Nat.reduceSub,Nat.reduceMul,Nat.reduceLT,Nat.reduceLeDiff,Nat.reduceEqDiff,Nat.reduceBEq,reduceCtorEq,reduceIte,Int.reduceLE,Int.reduceLT,Int.reduceNeg,Int.reduceToNat]
 refine ⟨fun h=>?_,fun h=>?_⟩
 ·have hz:(Ex.mk op col k n l).pair = (0,0,false):=by
   unfold Ex.pair
   split
   ·rename_i a b heq
    injection heq with e1 e2 e3 e4 e5
    subst e1 e2 e3 e4 e5
    rw [if_neg (by grind)]
   ·rfl
  rw [hz]
  (try simp -implicitDefEqProofs only [push_cast,Nat.reduceAdd,Nat.reduceSub,Nat.reduceMul,Nat.reduceLT,Nat.reduceLeDiff,Nat.reduceEqDiff,Nat.reduceBEq,reduceCtorEq,reduceIte,Int.reduceLE,Int.reduceLT,Int.reduceNeg,Int.reduceToNat])
 ·have hmay:(Ex.mk op col k n l).may = true:=by grind
  have hop:op = 6:=by grind
  have h2:l.length = 2:=by
   obtain ⟨hp,_⟩:=may_fine hmay
   simp only [Ex.part,Ex.op,Ex.l,Bool.and_eq_true,hop] at hp
   have h3:=of_decide_eq_true hp.1.1.2.1
   have h4:=of_decide_eq_true hp.1.1.2.2
   simp [wayLo,wayHi] at h3 h4
   omega
  obtain ⟨a,b,rfl⟩:∃ a b,l = [a,b]:=by
   match l,h2 with
   | [a,b],_=>exact ⟨a,b,rfl⟩
  refine areg_at 12 (by kernel_rfl) (by kernel_rfl) ?_
  obtain ⟨ao,ac,ak,an,al⟩:=a
  obtain ⟨bo,bc,bk,bn,bl⟩:=b
  simp -implicitDefEqProofs only [push_cast,Nat.reduceAdd,Nat.reduceSub,Nat.reduceMul,Nat.reduceLT,Nat.reduceLeDiff,Nat.reduceEqDiff,Nat.reduceBEq,reduceCtorEq,reduceIte,Int.reduceLE,Int.reduceLT,Int.reduceNeg,Int.reduceToNat]
  refine ⟨by simp,by simp,fun h1=>?_,fun h1=>?_⟩
  ·have hz:(Ex.mk op col k n [Ex.mk ao ac ak an al,Ex.mk bo bc bk bn bl]).pair = (0,0,false):=by
    simp only [Ex.pair,hmay,hop,Ex.op,Ex.col]
    rw [if_neg (by grind)]
   rw [hz]
   (try simp -implicitDefEqProofs only [push_cast,Nat.reduceAdd,Nat.reduceSub,Nat.reduceMul,Nat.reduceLT,Nat.reduceLeDiff,Nat.reduceEqDiff,Nat.reduceBEq,reduceCtorEq,reduceIte,Int.reduceLE,Int.reduceLT,Int.reduceNeg,Int.reduceToNat])
  ·have hz:(Ex.mk op col k n [Ex.mk ao ac ak an al,Ex.mk bo bc bk bn bl]).pair = (ac,bc,true):=by
    simp only [Ex.pair,hmay,hop,Ex.op,Ex.col]
    rw [if_pos (by grind)]
   rw [hz]
   refine areg_at 7 (by kernel_rfl) (by kernel_rfl) ?_
   simp -implicitDefEqProofs only [push_cast,Nat.reduceAdd,Nat.reduceSub,Nat.reduceMul,Nat.reduceLT,Nat.reduceLeDiff,Nat.reduceEqDiff,Nat.reduceBEq,reduceCtorEq,reduceIte,Int.reduceLE,Int.reduceLT,Int.reduceNeg,Int.reduceToNat]
   (try simp -implicitDefEqProofs only [push_cast,Nat.reduceAdd,Nat.reduceSub,Nat.reduceMul,Nat.reduceLT,Nat.reduceLeDiff,Nat.reduceEqDiff,Nat.reduceBEq,reduceCtorEq,reduceIte,Int.reduceLE,Int.reduceLT,Int.reduceNeg,Int.reduceToNat])
mutual
def hasE (c:Int):Ex → Bool
 | .mk op col _ _ l=>(decide (op = 1) && decide (col = c)) || hasL c l
def hasL (c:Int):List Ex → Bool
 | []=>false
 | x :: l=>hasE c x || hasL c l
end
theorem has_ok (e:Ex) (c:Int):e.Ok → Quiet Go.Proofs.Tryz.prog 168 [.agg (encE e), .int c] (.bool (hasE c e)):=by
 induction e using Ex.ind with
 | h op col k n l ih =>
 intro hok
 obtain ⟨hl,hlo⟩:=hok
 refine quiet_of (rs:=#[.tmp 4]) Go.Proofs.Tryz.func168 rfl rfl rfl mixed rfl rfl fun H hs=>?_
 simp -implicitDefEqProofs only [push_cast,Nat.reduceAdd,Nat.reduceSub,Nat.reduceMul,Nat.reduceLT,Nat.reduceLeDiff,Nat.reduceEqDiff,Nat.reduceBEq,reduceCtorEq,reduceIte,Int.reduceLE,Int.reduceLT,Int.reduceNeg,Int.reduceToNat]
 refine ⟨fun h=>?_,fun h=>?_⟩
 ·(try simp -implicitDefEqProofs only [push_cast,Nat.reduceAdd,Nat.reduceSub,Nat.reduceMul,Nat.reduceLT,Nat.reduceLeDiff,Nat.reduceEqDiff,Nat.reduceBEq,reduceCtorEq,reduceIte,Int.reduceLE,Int.reduceLT,Int.reduceNeg,Int.reduceToNat])
  rw [hasE,h]; rfl
 ·refine loop_rule hs (σ:=Nat) (fun i=>i ≤ l.length ∧ hasL c (l.drop i) = hasL c l) (fun i=>l.length - i)
   (fun i=>[(2, .ptr (H.nxt + 0) 5 0 0),(1, .int c),(5, .int i)]) (fun _=>[some (.cells 5 [encE (.mk op col k n l)] 0)]) 0 ⟨by omega,rfl⟩ ?_ ?_ ?_
  ·(try simp -implicitDefEqProofs only [push_cast,Nat.reduceAdd,Nat.reduceSub,Nat.reduceMul,Nat.reduceLT,Nat.reduceLeDiff,Nat.reduceEqDiff,Nat.reduceBEq,reduceCtorEq,reduceIte,Int.reduceLE,Int.reduceLT,Int.reduceNeg,Int.reduceToNat])
  ·(try simp -implicitDefEqProofs only [push_cast,Nat.reduceAdd,Nat.reduceSub,Nat.reduceMul,Nat.reduceLT,Nat.reduceLeDiff,Nat.reduceEqDiff,Nat.reduceBEq,reduceCtorEq,reduceIte,Int.reduceLE,Int.reduceLT,Int.reduceNeg,Int.reduceToNat])
  ·rintro i ⟨h2,h3⟩
   by_cases hi:i < l.length
   ·have hi':((i:Int) < (l.length:Int)) = True:=by simp; omega
    have hi0:(0 ≤ (i:Int)) = True:=by simp
    have hd:=List.drop_eq_getElem_cons hi
    simp -implicitDefEqProofs only [push_cast,Nat.reduceAdd,Nat.reduceSub,Nat.reduceMul,Nat.reduceLT,Nat.reduceLeDiff,Nat.reduceEqDiff,Nat.reduceBEq,reduceCtorEq,reduceIte,Int.reduceLE,Int.reduceLT,Int.reduceNeg,Int.reduceToNat,hi',hi0,encEs_get l i hi]
    refine callq (ih _ (List.getElem_mem hi) (hlo _ (List.getElem_mem hi))) ?_
    simp -implicitDefEqProofs only [push_cast,Nat.reduceAdd,Nat.reduceSub,Nat.reduceMul,Nat.reduceLT,Nat.reduceLeDiff,Nat.reduceEqDiff,Nat.reduceBEq,reduceCtorEq,reduceIte,Int.reduceLE,Int.reduceLT,Int.reduceNeg,Int.reduceToNat]
    refine ⟨fun hb=>?_,fun hb=>?_⟩
    ·(try simp -implicitDefEqProofs only [push_cast,Nat.reduceAdd,Nat.reduceSub,Nat.reduceMul,Nat.reduceLT,Nat.reduceLeDiff,Nat.reduceEqDiff,Nat.reduceBEq,reduceCtorEq,reduceIte,Int.reduceLE,Int.reduceLT,Int.reduceNeg,Int.reduceToNat])
     rw [hasE,← h3,hd,hasL,hb]
     simp
    ·rw [wrap64 (n:=(i:Int) + 1) (by omega) (by omega)]
     refine next_intro (i + 1) ⟨by omega, ?_⟩ (by omega) ?_ ?_
     ·rw [← h3,hd,hasL,hb]; rfl
     ·(try simp -implicitDefEqProofs only [push_cast,Nat.reduceAdd,Nat.reduceSub,Nat.reduceMul,Nat.reduceLT,Nat.reduceLeDiff,Nat.reduceEqDiff,Nat.reduceBEq,reduceCtorEq,reduceIte,Int.reduceLE,Int.reduceLT,Int.reduceNeg,Int.reduceToNat])
     ·(try simp -implicitDefEqProofs only [push_cast,Nat.reduceAdd,Nat.reduceSub,Nat.reduceMul,Nat.reduceLT,Nat.reduceLeDiff,Nat.reduceEqDiff,Nat.reduceBEq,reduceCtorEq,reduceIte,Int.reduceLE,Int.reduceLT,Int.reduceNeg,Int.reduceToNat])
   ·have hi':((i:Int) < (l.length:Int)) = False:=by simp; omega
    simp -implicitDefEqProofs only [push_cast,Nat.reduceAdd,Nat.reduceSub,Nat.reduceMul,Nat.reduceLT,Nat.reduceLeDiff,Nat.reduceEqDiff,Nat.reduceBEq,reduceCtorEq,reduceIte,Int.reduceLE,Int.reduceLT,Int.reduceNeg,Int.reduceToNat,hi']
    (try simp -implicitDefEqProofs only [push_cast,Nat.reduceAdd,Nat.reduceSub,Nat.reduceMul,Nat.reduceLT,Nat.reduceLeDiff,Nat.reduceEqDiff,Nat.reduceBEq,reduceCtorEq,reduceIte,Int.reduceLE,Int.reduceLT,Int.reduceNeg,Int.reduceToNat])
    rw [hasE,← h3,List.drop_eq_nil_of_le (by omega),hasL,h]; rfl
end
section
attribute [local push_cast] encE_mk encE_take encE_len encV encE_one encEs_pure encE_pure
mutual
def partsR:Ex → Int → Int
 | .mk _ _ _ _ l,d=>if 6 < d then 100 else partsL l (d + 1) 1
def partsL:List Ex → Int → Int → Int
 | [],_,n=>n
 | x :: l,d,n=>if n < 31 then partsL l d (IntKind.wrap .i64 (n + partsR x d)) else n
end
theorem partsR_ok (e:Ex):∀ (d:Int),0 ≤ d → e.Ok → Quiet Go.Proofs.Tryz.prog 178 [.agg (encE e), .int d] (.int (partsR e d)):=by
 induction e using Ex.ind with
 | h op col k n l ih =>
 intro d h0 hok
 refine quiet_of (rs:=#[.tmp 4]) Go.Proofs.Tryz.func178 rfl rfl rfl mixed rfl rfl fun H hs=>?_
 obtain ⟨hl,hlo⟩:=hok
 rw [partsR]
 by_cases hd:6 < d
 ·simp -implicitDefEqProofs only [push_cast,Nat.reduceAdd,Nat.reduceSub,Nat.reduceMul,Nat.reduceLT,Nat.reduceLeDiff,Nat.reduceEqDiff,Nat.reduceBEq,reduceCtorEq,reduceIte,Int.reduceLE,Int.reduceLT,Int.reduceNeg,Int.reduceToNat,hd]
  (try simp -implicitDefEqProofs only [push_cast,Nat.reduceAdd,Nat.reduceSub,Nat.reduceMul,Nat.reduceLT,Nat.reduceLeDiff,Nat.reduceEqDiff,Nat.reduceBEq,reduceCtorEq,reduceIte,Int.reduceLE,Int.reduceLT,Int.reduceNeg,Int.reduceToNat])
 ·simp -implicitDefEqProofs only [push_cast,Nat.reduceAdd,Nat.reduceSub,Nat.reduceMul,Nat.reduceLT,Nat.reduceLeDiff,Nat.reduceEqDiff,Nat.reduceBEq,reduceCtorEq,reduceIte,Int.reduceLE,Int.reduceLT,Int.reduceNeg,Int.reduceToNat,hd]
  refine loop_at hs (σ:=Nat × Int) (fun s=>s.1 ≤ l.length ∧ partsL (l.drop s.1) (d + 1) s.2 = partsL l (d + 1) 1) (fun s=>l.length - s.1)
   (fun s=>[(2, .ptr (H.nxt + 0) 5 0 0),(1, .int d),(5, .int s.2),(6, .int s.1)]) (fun _=>[some (.cells 5 [encE (.mk op col k n l)] 0)]) [some 0] (0,1) ⟨by simp,rfl⟩ rfl ?_ ?_ ?_
  ·(try simp -implicitDefEqProofs only [push_cast,Nat.reduceAdd,Nat.reduceSub,Nat.reduceMul,Nat.reduceLT,Nat.reduceLeDiff,Nat.reduceEqDiff,Nat.reduceBEq,reduceCtorEq,reduceIte,Int.reduceLE,Int.reduceLT,Int.reduceNeg,Int.reduceToNat])
  ·(try simp -implicitDefEqProofs only [push_cast,Nat.reduceAdd,Nat.reduceSub,Nat.reduceMul,Nat.reduceLT,Nat.reduceLeDiff,Nat.reduceEqDiff,Nat.reduceBEq,reduceCtorEq,reduceIte,Int.reduceLE,Int.reduceLT,Int.reduceNeg,Int.reduceToNat])
  ·rintro ⟨i,m⟩ ⟨h2,h5⟩
   dsimp only at h2 h5
   by_cases hi:i < l.length
   ·have hi':((i:Int) < (l.length:Int)) = True:=by simp; omega
    have hi0:(0 ≤ (i:Int)) = True:=by simp
    by_cases hm:m < 31
    ·simp -implicitDefEqProofs only [push_cast,Nat.reduceAdd,Nat.reduceSub,Nat.reduceMul,Nat.reduceLT,Nat.reduceLeDiff,Nat.reduceEqDiff,Nat.reduceBEq,reduceCtorEq,reduceIte,Int.reduceLE,Int.reduceLT,Int.reduceNeg,Int.reduceToNat,hi',hi0,hm,encEs_get l i hi]
     rw [wrap64 (n:=d + 1) (by omega) (by omega)]
     refine callq (ih _ (List.getElem_mem hi) _ (by omega) (hlo _ (List.getElem_mem hi))) ?_
     simp -implicitDefEqProofs only [push_cast,Nat.reduceAdd,Nat.reduceSub,Nat.reduceMul,Nat.reduceLT,Nat.reduceLeDiff,Nat.reduceEqDiff,Nat.reduceBEq,reduceCtorEq,reduceIte,Int.reduceLE,Int.reduceLT,Int.reduceNeg,Int.reduceToNat]
     rw [wrap64 (n:=(i:Int) + 1) (by omega) (by omega)]
     refine next_at [some 0] (i + 1,IntKind.wrap .i64 (m + partsR l[i] (d + 1))) ⟨by omega, ?_⟩ (by dsimp only; omega) rfl ?_ ?_
     ·rw [← h5,List.drop_eq_getElem_cons hi,partsL,if_pos hm]
     ·(try simp -implicitDefEqProofs only [push_cast,Nat.reduceAdd,Nat.reduceSub,Nat.reduceMul,Nat.reduceLT,Nat.reduceLeDiff,Nat.reduceEqDiff,Nat.reduceBEq,reduceCtorEq,reduceIte,Int.reduceLE,Int.reduceLT,Int.reduceNeg,Int.reduceToNat])
     ·(try simp -implicitDefEqProofs only [push_cast,Nat.reduceAdd,Nat.reduceSub,Nat.reduceMul,Nat.reduceLT,Nat.reduceLeDiff,Nat.reduceEqDiff,Nat.reduceBEq,reduceCtorEq,reduceIte,Int.reduceLE,Int.reduceLT,Int.reduceNeg,Int.reduceToNat])
    ·simp -implicitDefEqProofs only [push_cast,Nat.reduceAdd,Nat.reduceSub,Nat.reduceMul,Nat.reduceLT,Nat.reduceLeDiff,Nat.reduceEqDiff,Nat.reduceBEq,reduceCtorEq,reduceIte,Int.reduceLE,Int.reduceLT,Int.reduceNeg,Int.reduceToNat,hi',hi0,hm]; (try simp -implicitDefEqProofs only [push_cast,Nat.reduceAdd,Nat.reduceSub,Nat.reduceMul,Nat.reduceLT,Nat.reduceLeDiff,Nat.reduceEqDiff,Nat.reduceBEq,reduceCtorEq,reduceIte,Int.reduceLE,Int.reduceLT,Int.reduceNeg,Int.reduceToNat])
     rw [← h5,List.drop_eq_getElem_cons hi,partsL,if_neg hm]
   ·have hi':((i:Int) < (l.length:Int)) = False:=by simp; omega
    simp -implicitDefEqProofs only [push_cast,Nat.reduceAdd,Nat.reduceSub,Nat.reduceMul,Nat.reduceLT,Nat.reduceLeDiff,Nat.reduceEqDiff,Nat.reduceBEq,reduceCtorEq,reduceIte,Int.reduceLE,Int.reduceLT,Int.reduceNeg,Int.reduceToNat,hi']; (try simp -implicitDefEqProofs only [push_cast,Nat.reduceAdd,Nat.reduceSub,Nat.reduceMul,Nat.reduceLT,Nat.reduceLeDiff,Nat.reduceEqDiff,Nat.reduceBEq,reduceCtorEq,reduceIte,Int.reduceLE,Int.reduceLT,Int.reduceNeg,Int.reduceToNat])
    rw [← h5,List.drop_eq_nil_of_le (by omega),partsL]
def manyR (op n:Int):Bool:=if op = 0 ∨ op = 1 then decide (n = 0) else if op = 10 then decide (n = 1) else if op = 8 ∨ op = 9 then decide (n ≤ 4) else decide (n = 2)
theorem manyR_ok (op n:Int):Quiet Go.Proofs.Tryz.prog 192 [.int op, .int n] (.bool (manyR op n)):=by
 refine quiet_of (rs:=#[.tmp 4]) Go.Proofs.Tryz.func192 rfl rfl rfl mixed rfl rfl fun H hs=>?_
 by_cases h0:op = 0
 ·simp -implicitDefEqProofs only [push_cast,Nat.reduceAdd,Nat.reduceSub,Nat.reduceMul,Nat.reduceLT,Nat.reduceLeDiff,Nat.reduceEqDiff,Nat.reduceBEq,reduceCtorEq,reduceIte,Int.reduceLE,Int.reduceLT,Int.reduceNeg,Int.reduceToNat,h0]
  (try simp -implicitDefEqProofs only [push_cast,Nat.reduceAdd,Nat.reduceSub,Nat.reduceMul,Nat.reduceLT,Nat.reduceLeDiff,Nat.reduceEqDiff,Nat.reduceBEq,reduceCtorEq,reduceIte,Int.reduceLE,Int.reduceLT,Int.reduceNeg,Int.reduceToNat])
  simp [manyR,h0]
 by_cases h1:op = 1
 ·simp -implicitDefEqProofs only [push_cast,Nat.reduceAdd,Nat.reduceSub,Nat.reduceMul,Nat.reduceLT,Nat.reduceLeDiff,Nat.reduceEqDiff,Nat.reduceBEq,reduceCtorEq,reduceIte,Int.reduceLE,Int.reduceLT,Int.reduceNeg,Int.reduceToNat,h0,h1]
  (try simp -implicitDefEqProofs only [push_cast,Nat.reduceAdd,Nat.reduceSub,Nat.reduceMul,Nat.reduceLT,Nat.reduceLeDiff,Nat.reduceEqDiff,Nat.reduceBEq,reduceCtorEq,reduceIte,Int.reduceLE,Int.reduceLT,Int.reduceNeg,Int.reduceToNat])
  simp [manyR,h1]
 by_cases h10:op = 10
 ·simp -implicitDefEqProofs only [push_cast,Nat.reduceAdd,Nat.reduceSub,Nat.reduceMul,Nat.reduceLT,Nat.reduceLeDiff,Nat.reduceEqDiff,Nat.reduceBEq,reduceCtorEq,reduceIte,Int.reduceLE,Int.reduceLT,Int.reduceNeg,Int.reduceToNat,h0,h1,h10]
  (try simp -implicitDefEqProofs only [push_cast,Nat.reduceAdd,Nat.reduceSub,Nat.reduceMul,Nat.reduceLT,Nat.reduceLeDiff,Nat.reduceEqDiff,Nat.reduceBEq,reduceCtorEq,reduceIte,Int.reduceLE,Int.reduceLT,Int.reduceNeg,Int.reduceToNat])
  simp [manyR,h10]
 by_cases h8:op = 8
 ·simp -implicitDefEqProofs only [push_cast,Nat.reduceAdd,Nat.reduceSub,Nat.reduceMul,Nat.reduceLT,Nat.reduceLeDiff,Nat.reduceEqDiff,Nat.reduceBEq,reduceCtorEq,reduceIte,Int.reduceLE,Int.reduceLT,Int.reduceNeg,Int.reduceToNat,h0,h1,h10,h8]
  (try simp -implicitDefEqProofs only [push_cast,Nat.reduceAdd,Nat.reduceSub,Nat.reduceMul,Nat.reduceLT,Nat.reduceLeDiff,Nat.reduceEqDiff,Nat.reduceBEq,reduceCtorEq,reduceIte,Int.reduceLE,Int.reduceLT,Int.reduceNeg,Int.reduceToNat])
  simp [manyR,h8]
 by_cases h9:op = 9
 ·simp -implicitDefEqProofs only [push_cast,Nat.reduceAdd,Nat.reduceSub,Nat.reduceMul,Nat.reduceLT,Nat.reduceLeDiff,Nat.reduceEqDiff,Nat.reduceBEq,reduceCtorEq,reduceIte,Int.reduceLE,Int.reduceLT,Int.reduceNeg,Int.reduceToNat,h0,h1,h10,h8,h9]
  (try simp -implicitDefEqProofs only [push_cast,Nat.reduceAdd,Nat.reduceSub,Nat.reduceMul,Nat.reduceLT,Nat.reduceLeDiff,Nat.reduceEqDiff,Nat.reduceBEq,reduceCtorEq,reduceIte,Int.reduceLE,Int.reduceLT,Int.reduceNeg,Int.reduceToNat])
  simp [manyR,h9]
 simp -implicitDefEqProofs only [push_cast,Nat.reduceAdd,Nat.reduceSub,Nat.reduceMul,Nat.reduceLT,Nat.reduceLeDiff,Nat.reduceEqDiff,Nat.reduceBEq,reduceCtorEq,reduceIte,Int.reduceLE,Int.reduceLT,Int.reduceNeg,Int.reduceToNat,h0,h1,h10,h8,h9]
 (try simp -implicitDefEqProofs only [push_cast,Nat.reduceAdd,Nat.reduceSub,Nat.reduceMul,Nat.reduceLT,Nat.reduceLeDiff,Nat.reduceEqDiff,Nat.reduceBEq,reduceCtorEq,reduceIte,Int.reduceLE,Int.reduceLT,Int.reduceNeg,Int.reduceToNat])
 simp [manyR,h0,h1,h10,h8,h9]
def headR (op col k n:Int) (len:Nat):Bool :=
 decide (0 ≤ op) && decide (op ≤ 10) && manyR op len && (Vl.mk k n).may && decide (0 ≤ col) && decide (col ≤ 15) && (decide (op = 1) || decide (col = 0)) && (decide (op = 0) || (decide (k = 0) && decide (n = 0)))
mutual
def fineR:Ex → Bool
 | .mk op col k n l=>headR op col k n l.length && fineRL l
def fineRL:List Ex → Bool
 | []=>true
 | x :: l=>fineR x && fineRL l
end
theorem fineRL_all:∀ l,fineRL l = l.all fineR
 | []=>rfl
 | x :: l=>by rw [fineRL,List.all_cons,fineRL_all l]
theorem head_not (op col k n:Int) (mn mv:Bool):(decide (0 ≤ op) && decide (op ≤ 10) && mn && mv && decide (0 ≤ col) && decide (col ≤ 15) && (decide (op = 1) || decide (col = 0)) && (decide (op = 0) || (decide (k = 0) && decide (n = 0)))) =
  !(decide (op < 0) || decide (10 < op) || !mn || !mv || decide (col < 0) || decide (15 < col) || !decide (op = 1) && !decide (col = 0) || !decide (op = 0) && !(decide (k = 0) && decide (n = 0))):=by
 have h1:decide (op < 0) = !decide (0 ≤ op):=by by_cases h:0 ≤ op <;> simp [h] <;> omega
 have h2:decide (10 < op) = !decide (op ≤ 10):=by by_cases h:op ≤ 10 <;> simp [h] <;> omega
 have h3:decide (col < 0) = !decide (0 ≤ col):=by by_cases h:0 ≤ col <;> simp [h] <;> omega
 have h4:decide (15 < col) = !decide (col ≤ 15):=by by_cases h:col ≤ 15 <;> simp [h] <;> omega
 rw [h1,h2,h3,h4]
 simp only [Bool.not_or,Bool.not_not,Bool.not_and]
theorem fineE_ok (e:Ex):e.Ok → Quiet Go.Proofs.Tryz.prog 179 [.agg (encE e)] (.bool (fineR e)):=by
 induction e using Ex.ind with
 | h op col k n l ih =>
 intro hok
 refine quiet_of (rs:=#[.tmp 2]) Go.Proofs.Tryz.func179 rfl rfl rfl mixed rfl rfl fun H hs=>?_
 obtain ⟨hl,hlo⟩:=hok
 have hm:=manyR_ok op l.length
 have hv:=mayR_ok ⟨k,n⟩
 rw [fineR,headR]
 generalize manyR op l.length = mn at hm ⊢
 generalize Vl.may ⟨k,n⟩ = mv at hv ⊢
 simp -implicitDefEqProofs only [push_cast,Nat.reduceAdd,Nat.reduceSub,Nat.reduceMul,Nat.reduceLT,Nat.reduceLeDiff,Nat.reduceEqDiff,Nat.reduceBEq,reduceCtorEq,reduceIte,Int.reduceLE,Int.reduceLT,Int.reduceNeg,Int.reduceToNat]
 refine callq hm ?_
 simp -implicitDefEqProofs only [push_cast,Nat.reduceAdd,Nat.reduceSub,Nat.reduceMul,Nat.reduceLT,Nat.reduceLeDiff,Nat.reduceEqDiff,Nat.reduceBEq,reduceCtorEq,reduceIte,Int.reduceLE,Int.reduceLT,Int.reduceNeg,Int.reduceToNat]
 refine callq hv ?_
 simp -implicitDefEqProofs only [push_cast,Nat.reduceAdd,Nat.reduceSub,Nat.reduceMul,Nat.reduceLT,Nat.reduceLeDiff,Nat.reduceEqDiff,Nat.reduceBEq,reduceCtorEq,reduceIte,Int.reduceLE,Int.reduceLT,Int.reduceNeg,Int.reduceToNat,lits,cellsEq,cellEq,cmpV]
 refine ⟨fun h1 h2=>by simp [h1,h2],fun h1 h2=>by simp [h1,h2],fun h=>?_,fun h=>?_⟩
 ·rw [head_not,h]; rfl
 rw [head_not,h,Bool.not_false,Bool.true_and]
 refine loop_at hs (σ:=Nat) (fun i=>i ≤ l.length ∧ (l.take i).all fineR = true) (fun i=>l.length - i)
  (fun i=>[(1, .ptr (H.nxt + 0) 5 0 0),(5, .int i)]) (fun _=>[some (.cells 5 [encE (.mk op col k n l)] 0)]) [some 0] 0 ⟨by omega,by simp⟩ rfl ?_ ?_ ?_
 ·(try simp -implicitDefEqProofs only [push_cast,Nat.reduceAdd,Nat.reduceSub,Nat.reduceMul,Nat.reduceLT,Nat.reduceLeDiff,Nat.reduceEqDiff,Nat.reduceBEq,reduceCtorEq,reduceIte,Int.reduceLE,Int.reduceLT,Int.reduceNeg,Int.reduceToNat])
 ·(try simp -implicitDefEqProofs only [push_cast,Nat.reduceAdd,Nat.reduceSub,Nat.reduceMul,Nat.reduceLT,Nat.reduceLeDiff,Nat.reduceEqDiff,Nat.reduceBEq,reduceCtorEq,reduceIte,Int.reduceLE,Int.reduceLT,Int.reduceNeg,Int.reduceToNat])
 ·rintro i ⟨h2,h3⟩
  by_cases hi:i < l.length
  ·have hi':((i:Int) < (l.length:Int)) = True:=by simp; omega
   have hi0:(0 ≤ (i:Int)) = True:=by simp
   simp -implicitDefEqProofs only [push_cast,Nat.reduceAdd,Nat.reduceSub,Nat.reduceMul,Nat.reduceLT,Nat.reduceLeDiff,Nat.reduceEqDiff,Nat.reduceBEq,reduceCtorEq,reduceIte,Int.reduceLE,Int.reduceLT,Int.reduceNeg,Int.reduceToNat,hi',hi0,encEs_get l i hi]
   refine callq (ih _ (List.getElem_mem hi) (hlo _ (List.getElem_mem hi))) ?_
   simp -implicitDefEqProofs only [push_cast,Nat.reduceAdd,Nat.reduceSub,Nat.reduceMul,Nat.reduceLT,Nat.reduceLeDiff,Nat.reduceEqDiff,Nat.reduceBEq,reduceCtorEq,reduceIte,Int.reduceLE,Int.reduceLT,Int.reduceNeg,Int.reduceToNat]
   refine ⟨fun hb=>?_,fun hb=>?_⟩
   ·(try simp -implicitDefEqProofs only [push_cast,Nat.reduceAdd,Nat.reduceSub,Nat.reduceMul,Nat.reduceLT,Nat.reduceLeDiff,Nat.reduceEqDiff,Nat.reduceBEq,reduceCtorEq,reduceIte,Int.reduceLE,Int.reduceLT,Int.reduceNeg,Int.reduceToNat])
    rw [fineRL_all]
    symm
    rw [List.all_eq_false]
    exact ⟨l[i],List.getElem_mem hi,by simp [hb]⟩
   ·rw [wrap64 (n:=(i:Int) + 1) (by omega) (by omega)]
    refine next_at [some 0] (i + 1) ⟨by omega, ?_⟩ (by omega) rfl ?_ ?_
    ·rw [List.take_succ_eq_append_getElem hi,List.all_append,h3]
     simpa using hb
    ·(try simp -implicitDefEqProofs only [push_cast,Nat.reduceAdd,Nat.reduceSub,Nat.reduceMul,Nat.reduceLT,Nat.reduceLeDiff,Nat.reduceEqDiff,Nat.reduceBEq,reduceCtorEq,reduceIte,Int.reduceLE,Int.reduceLT,Int.reduceNeg,Int.reduceToNat])
    ·(try simp -implicitDefEqProofs only [push_cast,Nat.reduceAdd,Nat.reduceSub,Nat.reduceMul,Nat.reduceLT,Nat.reduceLeDiff,Nat.reduceEqDiff,Nat.reduceBEq,reduceCtorEq,reduceIte,Int.reduceLE,Int.reduceLT,Int.reduceNeg,Int.reduceToNat])
  ·have hi':((i:Int) < (l.length:Int)) = False:=by simp; omega
   rw [List.take_of_length_le (by omega)] at h3
   simp -implicitDefEqProofs only [push_cast,Nat.reduceAdd,Nat.reduceSub,Nat.reduceMul,Nat.reduceLT,Nat.reduceLeDiff,Nat.reduceEqDiff,Nat.reduceBEq,reduceCtorEq,reduceIte,Int.reduceLE,Int.reduceLT,Int.reduceNeg,Int.reduceToNat,hi']
   (try simp -implicitDefEqProofs only [push_cast,Nat.reduceAdd,Nat.reduceSub,Nat.reduceMul,Nat.reduceLT,Nat.reduceLeDiff,Nat.reduceEqDiff,Nat.reduceBEq,reduceCtorEq,reduceIte,Int.reduceLE,Int.reduceLT,Int.reduceNeg,Int.reduceToNat])
   rw [fineRL_all,h3]
def Ex.mayR (e:Ex):Bool:=decide (partsR e 1 ≤ 30) && fineR e
theorem MayR_ok (e:Ex) (hok:e.Ok):Quiet Go.Proofs.Tryz.prog 167 [.agg (encE e)] (.bool e.mayR):=by
 refine quiet_of (rs:=#[.tmp 2]) Go.Proofs.Tryz.func167 rfl rfl rfl mixed rfl rfl fun H hs=>?_
 simp -implicitDefEqProofs only [push_cast,Nat.reduceAdd,Nat.reduceSub,Nat.reduceMul,Nat.reduceLT,Nat.reduceLeDiff,Nat.reduceEqDiff,Nat.reduceBEq,reduceCtorEq,reduceIte,Int.reduceLE,Int.reduceLT,Int.reduceNeg,Int.reduceToNat]
 refine callq (partsR_ok e 1 (by decide) hok) ?_
 simp -implicitDefEqProofs only [push_cast,Nat.reduceAdd,Nat.reduceSub,Nat.reduceMul,Nat.reduceLT,Nat.reduceLeDiff,Nat.reduceEqDiff,Nat.reduceBEq,reduceCtorEq,reduceIte,Int.reduceLE,Int.reduceLT,Int.reduceNeg,Int.reduceToNat]
 refine ⟨fun h=>?_,fun h=>callq (fineE_ok e hok) ?_⟩
 ·(try simp -implicitDefEqProofs only [push_cast,Nat.reduceAdd,Nat.reduceSub,Nat.reduceMul,Nat.reduceLT,Nat.reduceLeDiff,Nat.reduceEqDiff,Nat.reduceBEq,reduceCtorEq,reduceIte,Int.reduceLE,Int.reduceLT,Int.reduceNeg,Int.reduceToNat])
  simp only [Ex.mayR,decide_eq_false (show ¬ partsR e 1 ≤ 30 by omega),Bool.false_and]
 ·simp -implicitDefEqProofs only [push_cast,Nat.reduceAdd,Nat.reduceSub,Nat.reduceMul,Nat.reduceLT,Nat.reduceLeDiff,Nat.reduceEqDiff,Nat.reduceBEq,reduceCtorEq,reduceIte,Int.reduceLE,Int.reduceLT,Int.reduceNeg,Int.reduceToNat]
  (try simp -implicitDefEqProofs only [push_cast,Nat.reduceAdd,Nat.reduceSub,Nat.reduceMul,Nat.reduceLT,Nat.reduceLeDiff,Nat.reduceEqDiff,Nat.reduceBEq,reduceCtorEq,reduceIte,Int.reduceLE,Int.reduceLT,Int.reduceNeg,Int.reduceToNat])
  simp only [Ex.mayR,decide_eq_true (show partsR e 1 ≤ 30 by omega),Bool.true_and]
end
end Go.Sim.Tryz
namespace Go.Proofs
def Tryz.laysSort_ren:Go.Shelf.Ren :=
{
 f:=fun x =>
  match x with
  | 189=>158
  | 125=>176
  | 257=>175
  | 128=>191
  | 129=>76
  | 294=>182
  | 295=>183
  | 296=>184
  | 297=>185
  | 298=>186
  | 299=>187
  | 216=>188
  | 300=>189
  | 301=>190
  | 328=>207
  | 329=>208
  | 330=>209
  | 331=>210
  | 332=>211
  | 215=>212
  | 343=>226
  | n=>n,
 t:=fun x =>
  match x with
  | 28=>25
  | 3=>3
  | 46=>135
  | 0=>0
  | 51=>179
  | 53=>95
  | 4=>4
  | 183=>173
  | 182=>172
  | 131=>87
  | 5=>5
  | 9=>9
  | 218=>184
  | 222=>188
  | 228=>198
  | 229=>143
  | n=>n,
 g:=fun x=>x }
theorem Tryz.laysSort:Go.Proofs.Lays.n189 Go.Proofs.Tryz.prog Go.Proofs.Tryz.laysSort_ren:={
 mixed:=(by kernel_rfl),
 f125:=Eq.trans Go.Proofs.Tryz.func176 ((by kernel_rfl)),
 f128:=Eq.trans Go.Proofs.Tryz.func191 ((by kernel_rfl)),
 f129:=Eq.trans Go.Proofs.Tryz.func76 ((by kernel_rfl)),
 f189:=Eq.trans Go.Proofs.Tryz.func158 ((by kernel_rfl)),
 f215:=Eq.trans Go.Proofs.Tryz.func212 ((by kernel_rfl)),
 f216:=Eq.trans Go.Proofs.Tryz.func188 ((by kernel_rfl)),
 f257:=Eq.trans Go.Proofs.Tryz.func175 ((by kernel_rfl)),
 f294:=Eq.trans Go.Proofs.Tryz.func182 ((by kernel_rfl)),
 f295:=Eq.trans Go.Proofs.Tryz.func183 ((by kernel_rfl)),
 f296:=Eq.trans Go.Proofs.Tryz.func184 ((by kernel_rfl)),
 f297:=Eq.trans Go.Proofs.Tryz.func185 ((by kernel_rfl)),
 f298:=Eq.trans Go.Proofs.Tryz.func186 ((by kernel_rfl)),
 f299:=Eq.trans Go.Proofs.Tryz.func187 ((by kernel_rfl)),
 f300:=Eq.trans Go.Proofs.Tryz.func189 ((by kernel_rfl)),
 f301:=Eq.trans Go.Proofs.Tryz.func190 ((by kernel_rfl)),
 f328:=Eq.trans Go.Proofs.Tryz.func207 ((by kernel_rfl)),
 f329:=Eq.trans Go.Proofs.Tryz.func208 ((by kernel_rfl)),
 f330:=Eq.trans Go.Proofs.Tryz.func209 ((by kernel_rfl)),
 f331:=Eq.trans Go.Proofs.Tryz.func210 ((by kernel_rfl)),
 f332:=Eq.trans Go.Proofs.Tryz.func211 ((by kernel_rfl)),
 f343:=Eq.trans Go.Proofs.Tryz.func226 ((by kernel_rfl)),
 t0:=Go.Proofs.Tryz.underlying0,
 a0:=Go.Proofs.Tryz.isAgg0,
 z0:=Go.Proofs.Tryz.sizeOf0,
 v0:=Go.Proofs.Tryz.zeroValue0,
 t3:=Go.Proofs.Tryz.underlying3,
 a3:=Go.Proofs.Tryz.isAgg3,
 z3:=Go.Proofs.Tryz.sizeOf3,
 v3:=Go.Proofs.Tryz.zeroValue3,
 t4:=Go.Proofs.Tryz.underlying4,
 a4:=Go.Proofs.Tryz.isAgg4,
 z4:=Go.Proofs.Tryz.sizeOf4,
 v4:=Go.Proofs.Tryz.zeroValue4,
 t5:=Go.Proofs.Tryz.underlying5,
 a5:=Go.Proofs.Tryz.isAgg5,
 z5:=Go.Proofs.Tryz.sizeOf5,
 v5:=Go.Proofs.Tryz.zeroValue5,
 t9:=Go.Proofs.Tryz.underlying9,
 a9:=Go.Proofs.Tryz.isAgg9,
 z9:=Go.Proofs.Tryz.sizeOf9,
 v9:=Go.Proofs.Tryz.zeroValue9,
 t28:=Go.Proofs.Tryz.underlying25,
 a28:=Go.Proofs.Tryz.isAgg25,
 z28:=Go.Proofs.Tryz.sizeOf25,
 v28:=Go.Proofs.Tryz.zeroValue25,
 t46:=Go.Proofs.Tryz.underlying135,
 a46:=Go.Proofs.Tryz.isAgg135,
 z46:=Go.Proofs.Tryz.sizeOf135,
 v46:=Go.Proofs.Tryz.zeroValue135,
 t51:=Go.Proofs.Tryz.underlying179,
 a51:=Go.Proofs.Tryz.isAgg179,
 z51:=Go.Proofs.Tryz.sizeOf179,
 v51:=Go.Proofs.Tryz.zeroValue179,
 t53:=Go.Proofs.Tryz.underlying95,
 a53:=Go.Proofs.Tryz.isAgg95,
 z53:=Go.Proofs.Tryz.sizeOf95,
 v53:=Go.Proofs.Tryz.zeroValue95,
 t131:=Go.Proofs.Tryz.underlying87,
 a131:=Go.Proofs.Tryz.isAgg87,
 z131:=Go.Proofs.Tryz.sizeOf87,
 v131:=Go.Proofs.Tryz.zeroValue87,
 t182:=Go.Proofs.Tryz.underlying172,
 a182:=Go.Proofs.Tryz.isAgg172,
 z182:=Go.Proofs.Tryz.sizeOf172,
 v182:=Go.Proofs.Tryz.zeroValue172,
 t183:=Go.Proofs.Tryz.underlying173,
 a183:=Go.Proofs.Tryz.isAgg173,
 z183:=Go.Proofs.Tryz.sizeOf173,
 v183:=Go.Proofs.Tryz.zeroValue173,
 t218:=Go.Proofs.Tryz.underlying184,
 a218:=Go.Proofs.Tryz.isAgg184,
 z218:=Go.Proofs.Tryz.sizeOf184,
 v218:=Go.Proofs.Tryz.zeroValue184,
 t222:=Go.Proofs.Tryz.underlying188,
 a222:=Go.Proofs.Tryz.isAgg188,
 z222:=Go.Proofs.Tryz.sizeOf188,
 v222:=Go.Proofs.Tryz.zeroValue188,
 t228:=Go.Proofs.Tryz.underlying198,
 a228:=Go.Proofs.Tryz.isAgg198,
 z228:=Go.Proofs.Tryz.sizeOf198,
 v228:=Go.Proofs.Tryz.zeroValue198,
 t229:=Go.Proofs.Tryz.underlying143,
 a229:=Go.Proofs.Tryz.isAgg143,
 z229:=Go.Proofs.Tryz.sizeOf143,
 v229:=Go.Proofs.Tryz.zeroValue143 }
def Tryz.laysCompact_ren:Go.Shelf.Ren :=
{
 f:=fun x =>
  match x with
  | 20=>159
  | n=>n,
 t:=fun x =>
  match x with
  | 22=>25
  | 3=>3
  | 4=>4
  | 0=>0
  | n=>n,
 g:=fun x=>x }
theorem Tryz.laysCompact:Go.Proofs.Lays2.n20 Go.Proofs.Tryz.prog Go.Proofs.Tryz.laysCompact_ren:={
 mixed:=(by kernel_rfl),
 f20:=Eq.trans Go.Proofs.Tryz.func159 ((by kernel_rfl)),
 t0:=Go.Proofs.Tryz.underlying0,
 a0:=Go.Proofs.Tryz.isAgg0,
 z0:=Go.Proofs.Tryz.sizeOf0,
 v0:=Go.Proofs.Tryz.zeroValue0,
 t3:=Go.Proofs.Tryz.underlying3,
 a3:=Go.Proofs.Tryz.isAgg3,
 z3:=Go.Proofs.Tryz.sizeOf3,
 v3:=Go.Proofs.Tryz.zeroValue3,
 t4:=Go.Proofs.Tryz.underlying4,
 a4:=Go.Proofs.Tryz.isAgg4,
 z4:=Go.Proofs.Tryz.sizeOf4,
 v4:=Go.Proofs.Tryz.zeroValue4,
 t22:=Go.Proofs.Tryz.underlying25,
 a22:=Go.Proofs.Tryz.isAgg25,
 z22:=Go.Proofs.Tryz.sizeOf25,
 v22:=Go.Proofs.Tryz.zeroValue25,
 i3:=(by kernel_rfl)}
end Go.Proofs
namespace Go.Sim.Tryz
open Go Go.Sim
attribute [local push_cast] aops_cons aops_nil aopG_none aopG_some aopP_eq aopE_eq aopC_eq aopE?_eq aopC?_eq aopB_eq aopB?_eq abr anilq gopP_eq gopL_eq ahead_cons ahead_nil ahdG_none ahdG_some ahdP_eq ahdN_eq ahdC_eq ahdN?_eq ahdS_eq ahdS?_eq astoreN ahdC?_eq ghdP_eq ghdC_eq ghdC?_eq ghdZ_f ghdZ_t ahdI_eq ahdI?_eq ghdN?_eq aim_nil aim_cons isIn_nil isIn_none isIn_cons aimm aheP_eq aheA_eq aheC_eq aheC?_eq aheI?_eq aheA?_eq gheP_eq gheC_eq gheC?_eq gheZ_eq aheG_none aheG_some aheff_cons aheff_nil aapp gro_rsl gro_lit gro_esl opt_some opt_none no_eq acondT_true acondT_false acondT_lit aw_skip aw_region aw_regionD aw_seq aw_cond aw_block aw_loop aw_exit aw_label aw_ret thn_normal thn_exit thn_ret inb_normal inb_exit inb_ret qret_ret qret_normal gcond apure aeff anew acallee ares aresT aresL aresC ares1 qfin_eq ev ofV evL gokL tget tput_some tput_none initT abin aint aun aload afaddr aiaddr afield aindex aextract apick pickv_lit Bool.or_false Bool.false_or Bool.or_true Bool.true_or imp_self aslice chunk roomB abound aconv abuild afill splice alen aminmax abuiltin anil apart Value.oneCell' astore aappend srcEs abuildSlice amakeSlice amapPut alookup aput afind mget keyV sameV_int Option.isSome_some Option.isSome_none cond_true cond_false asets isEq plus_obj plus_nxt plus_add plus_set plus_del IntKind.bits Option.map_some Option.map_none Option.bind_some Option.bind_none Option.join_some Option.getD_some Option.getD_none Option.toList List.getElem?_toArray List.getElem?_cons_zero List.getElem?_cons_succ List.getElem?_nil List.length_cons List.length_nil List.length_map List.head?_cons List.cons_append List.nil_append List.append_nil List.map_cons List.map_nil List.getD_cons_zero List.getD_cons_succ List.replicate_succ List.replicate_zero List.set_cons_zero List.set_cons_succ List.take_succ_cons List.take_zero List.drop_succ_cons List.drop_zero List.all_cons List.all_nil Nat.zero_add if_true if_false true_and and_true false_and and_false true_implies implies_true forall_const Bool.and_true Bool.true_and Bool.false_and Bool.and_false Bool.true_beq Bool.false_beq Bool.not_not beq_tt beq_ff Int.toNat_natCast decide_true decide_false Bool.not_true Bool.not_false Bool.true_eq_false Bool.false_eq_true false_implies exists_prop eq_self bne_self_eq_false beq_self_eq_true decide_eq_true_eq decide_eq_false_iff_not Bool.not_eq_true' Bool.not_eq_false' AV.int AV.bool AV.nilS ne_eq not_false_eq_true not_true_eq_false exists_eq_left exists_eq_left' Nat.lt_irrefl core_lit grd_lit acells_lit one_lit core_agg grd_agg acells_agg one_agg core_tup grd_tup acells_tup one_tup core_sl grd_sl acells_sl one_sl core_esl grd_esl acells_esl one_esl core_rsl grd_rsl acells_rsl one_rsl core_ptr grd_ptr acells_ptr one_ptr core_iptr grd_iptr acells_iptr one_iptr core_clo grd_clo acells_clo one_clo core_mp grd_mp acells_mp one_mp core_any grd_any acells_any one_any core_gv grd_gv fit_agg fit_lit fit_sl fit_esl fit_rsl fit_ptr fit_iptr fit_clo fit_mp retq_ret retq_normal set_nxt set_set plus_obj_set plus_set_set app_get0 app_get app_set0 app_set List.append_assoc List.length_append List.length_set Nat.lt_add_one Nat.add_lt_add_iff_right Nat.lt_add_right_iff_pos Nat.add_lt_add_iff_left List.mem_cons List.not_mem_nil or_false forall_eq forall_eq_or_imp lt_s0 lt_s1 lt_s2 lt_s3 lt_s4 lt_s5 lt_s6 lt_s7 lt_s8 pickv_t pickv_f or_nand or_nand2 imp_and_l SealT SealOs sealO_cells sl_lit sl_any sl_agg sl_tup sl_sl sl_rsl slO sl_esl sl_nil sl_eslesl sl_eslnil sl_rslrsl sl_eslrsl sl_nilrsl sl_ptr sl_iptr sl_ptri slP sl_clo sl_mp sl_gv sll_nil sll_cons slll_nil slll_cons shut_eq shutO Option.join_none Fn.func.injEq and_self sealL_self sealLL_self seal_self PureL PureLL Pure Nat.le_refl Nat.zero_le AV.lit.injEq Value.int.injEq Value.bool.injEq false_or or_true true_or Int.natCast_zero Int.ofNat_zero Int.cast_ofNat_Int Int.natCast_add Int.natCast_one Option.some.injEq piL_is sop_nil sop_cons sop_none sop_some sopO_some sop_new shut_pi shutL_nil shutL_cons exQ_exit exQ_ret exQ_normal Go.Sim.Tryz.ty_load1 Go.Sim.Tryz.ty_zero1 Go.Sim.Tryz.ty_load2 Go.Sim.Tryz.ty_zero2 Go.Sim.Tryz.ty_und2 Go.Sim.Tryz.ty_load3 Go.Sim.Tryz.ty_zero3 Go.Sim.Tryz.ty_und3 Go.Sim.Tryz.ty_load4 Go.Sim.Tryz.ty_zero4 Go.Sim.Tryz.ty_und4 Go.Sim.Tryz.ty_load5 Go.Sim.Tryz.ty_zero5 Go.Sim.Tryz.ty_und5 Go.Sim.Tryz.ty_load9 Go.Sim.Tryz.ty_zero9 Go.Sim.Tryz.ty_und9 Go.Sim.Tryz.ty_load21 Go.Sim.Tryz.ty_zero21 Go.Sim.Tryz.ty_und21 Go.Sim.Tryz.ty_load22 Go.Sim.Tryz.ty_zero22 Go.Sim.Tryz.ty_el22 Go.Sim.Tryz.ty_zeroE22 Go.Sim.Tryz.ty_load24 Go.Sim.Tryz.ty_zero24 Go.Sim.Tryz.ty_fld24_0 Go.Sim.Tryz.ty_part24_0 Go.Sim.Tryz.ty_struct24 Go.Sim.Tryz.ty_load25 Go.Sim.Tryz.ty_zero25 Go.Sim.Tryz.ty_el25 Go.Sim.Tryz.ty_zeroE25 Go.Sim.Tryz.ty_load26 Go.Sim.Tryz.ty_zero26 Go.Sim.Tryz.ty_el26 Go.Sim.Tryz.ty_zeroE26 Go.Sim.Tryz.ty_load28 Go.Sim.Tryz.ty_zero28 Go.Sim.Tryz.ty_fld28_0 Go.Sim.Tryz.ty_part28_0 Go.Sim.Tryz.ty_fld28_1 Go.Sim.Tryz.ty_part28_1 Go.Sim.Tryz.ty_fld28_2 Go.Sim.Tryz.ty_part28_2 Go.Sim.Tryz.ty_fld28_3 Go.Sim.Tryz.ty_part28_3 Go.Sim.Tryz.ty_fld28_4 Go.Sim.Tryz.ty_part28_4 Go.Sim.Tryz.ty_fld28_5 Go.Sim.Tryz.ty_part28_5 Go.Sim.Tryz.ty_struct28 Go.Sim.Tryz.ty_load29 Go.Sim.Tryz.ty_zero29 Go.Sim.Tryz.ty_arr29 Go.Sim.Tryz.ty_part29_0 Go.Sim.Tryz.ty_part29_1 Go.Sim.Tryz.ty_struct29 Go.Sim.Tryz.ty_load30 Go.Sim.Tryz.ty_zero30 Go.Sim.Tryz.ty_el30 Go.Sim.Tryz.ty_zeroE30 Go.Sim.Tryz.ty_load32 Go.Sim.Tryz.ty_zero32 Go.Sim.Tryz.ty_fld32_0 Go.Sim.Tryz.ty_part32_0 Go.Sim.Tryz.ty_fld32_1 Go.Sim.Tryz.ty_part32_1 Go.Sim.Tryz.ty_fld32_2 Go.Sim.Tryz.ty_part32_2 Go.Sim.Tryz.ty_fld32_3 Go.Sim.Tryz.ty_part32_3 Go.Sim.Tryz.ty_struct32 Go.Sim.Tryz.ty_load37 Go.Sim.Tryz.ty_zero37 Go.Sim.Tryz.ty_el37 Go.Sim.Tryz.ty_zeroE37 Go.Sim.Tryz.ty_load39 Go.Sim.Tryz.ty_zero39 Go.Sim.Tryz.ty_fld39_0 Go.Sim.Tryz.ty_part39_0 Go.Sim.Tryz.ty_fld39_1 Go.Sim.Tryz.ty_part39_1 Go.Sim.Tryz.ty_struct39 Go.Sim.Tryz.ty_load52 Go.Sim.Tryz.ty_zero52 Go.Sim.Tryz.ty_fld52_0 Go.Sim.Tryz.ty_part52_0 Go.Sim.Tryz.ty_fld52_1 Go.Sim.Tryz.ty_part52_1 Go.Sim.Tryz.ty_fld52_2 Go.Sim.Tryz.ty_part52_2 Go.Sim.Tryz.ty_struct52 Go.Sim.Tryz.ty_load55 Go.Sim.Tryz.ty_zero55 Go.Sim.Tryz.ty_load56 Go.Sim.Tryz.ty_zero56 Go.Sim.Tryz.ty_load70 Go.Sim.Tryz.ty_zero70 Go.Sim.Tryz.ty_el70 Go.Sim.Tryz.ty_zeroE70 Go.Sim.Tryz.ty_load76 Go.Sim.Tryz.ty_zero76 Go.Sim.Tryz.ty_el76 Go.Sim.Tryz.ty_zeroE76 Go.Sim.Tryz.ty_load78 Go.Sim.Tryz.ty_zero78 Go.Sim.Tryz.ty_fld78_0 Go.Sim.Tryz.ty_part78_0 Go.Sim.Tryz.ty_struct78 Go.Sim.Tryz.ty_load84 Go.Sim.Tryz.ty_zero84 Go.Sim.Tryz.ty_fld84_0 Go.Sim.Tryz.ty_part84_0 Go.Sim.Tryz.ty_struct84 Go.Sim.Tryz.ty_load85 Go.Sim.Tryz.ty_zero85 Go.Sim.Tryz.ty_load92 Go.Sim.Tryz.ty_zero92 Go.Sim.Tryz.ty_load93 Go.Sim.Tryz.ty_zero93 Go.Sim.Tryz.ty_und93 Go.Sim.Tryz.ty_load95 Go.Sim.Tryz.ty_zero95 Go.Sim.Tryz.ty_und95 Go.Sim.Tryz.ty_load104 Go.Sim.Tryz.ty_zero104 Go.Sim.Tryz.ty_fld104_0 Go.Sim.Tryz.ty_part104_0 Go.Sim.Tryz.ty_fld104_1 Go.Sim.Tryz.ty_part104_1 Go.Sim.Tryz.ty_struct104 Go.Sim.Tryz.ty_load110 Go.Sim.Tryz.ty_zero110 Go.Sim.Tryz.ty_fld110_0 Go.Sim.Tryz.ty_part110_0 Go.Sim.Tryz.ty_fld110_1 Go.Sim.Tryz.ty_part110_1 Go.Sim.Tryz.ty_struct110 Go.Sim.Tryz.ty_load112 Go.Sim.Tryz.ty_zero112 Go.Sim.Tryz.ty_fld112_0 Go.Sim.Tryz.ty_part112_0 Go.Sim.Tryz.ty_fld112_1 Go.Sim.Tryz.ty_part112_1 Go.Sim.Tryz.ty_fld112_2 Go.Sim.Tryz.ty_part112_2 Go.Sim.Tryz.ty_fld112_3 Go.Sim.Tryz.ty_part112_3 Go.Sim.Tryz.ty_struct112 Go.Sim.Tryz.ty_load119 Go.Sim.Tryz.ty_zero119 Go.Sim.Tryz.ty_load123 Go.Sim.Tryz.ty_zero123 Go.Sim.Tryz.ty_fld123_0 Go.Sim.Tryz.ty_part123_0 Go.Sim.Tryz.ty_fld123_1 Go.Sim.Tryz.ty_part123_1 Go.Sim.Tryz.ty_struct123 Go.Sim.Tryz.ty_load124 Go.Sim.Tryz.ty_zero124 Go.Sim.Tryz.ty_el124 Go.Sim.Tryz.ty_zeroE124 Go.Sim.Tryz.ty_load125 Go.Sim.Tryz.ty_zero125 Go.Sim.Tryz.ty_el125 Go.Sim.Tryz.ty_zeroE125 Go.Sim.Tryz.ty_load128 Go.Sim.Tryz.ty_zero128 Go.Sim.Tryz.ty_fld128_0 Go.Sim.Tryz.ty_part128_0 Go.Sim.Tryz.ty_struct128 Go.Sim.Tryz.ty_load135 Go.Sim.Tryz.ty_zero135 Go.Sim.Tryz.ty_und135 Go.Sim.Tryz.ty_load140 Go.Sim.Tryz.ty_zero140 Go.Sim.Tryz.ty_load141 Go.Sim.Tryz.ty_zero141 Go.Sim.Tryz.ty_el141 Go.Sim.Tryz.ty_zeroE141 Go.Sim.Tryz.ty_load148 Go.Sim.Tryz.ty_zero148 Go.Sim.Tryz.ty_load151 Go.Sim.Tryz.ty_zero151 Go.Sim.Tryz.ty_load159 Go.Sim.Tryz.ty_zero159 Go.Sim.Tryz.ty_und159 Go.Sim.Tryz.ty_vzero128 Go.Sim.Tryz.ty_load168 Go.Sim.Tryz.ty_zero168 Go.Sim.Tryz.ty_fld168_0 Go.Sim.Tryz.ty_part168_0 Go.Sim.Tryz.ty_fld168_1 Go.Sim.Tryz.ty_part168_1 Go.Sim.Tryz.ty_fld168_2 Go.Sim.Tryz.ty_part168_2 Go.Sim.Tryz.ty_struct168 Go.Sim.Tryz.ty_load170 Go.Sim.Tryz.ty_zero170 Go.Sim.Tryz.ty_load172 Go.Sim.Tryz.ty_zero172 Go.Sim.Tryz.ty_und172 Go.Sim.Tryz.ty_load179 Go.Sim.Tryz.ty_zero179 Go.Sim.Tryz.ty_und179 Go.Sim.Tryz.ty_load181 Go.Sim.Tryz.ty_zero181 Go.Sim.Tryz.ty_load184 Go.Sim.Tryz.ty_zero184 Go.Sim.Tryz.ty_und184 Go.Sim.Tryz.ty_load188 Go.Sim.Tryz.ty_zero188 Go.Sim.Tryz.ty_load191 Go.Sim.Tryz.ty_zero191
section
attribute [local push_cast] encE_mk encE_take encE_len encV encE_one encEs_pure encE_pure
def stRow (i:Nat):St (List Int) where
 inv s H B:=(s = [] ∧ i < H.nxt ∧ H.obj i = some (.cells 1 [[.nilS]] 0) ∧ B = fun q=>q = i) ∨
  ∃ j,j ≠ i ∧ i < H.nxt ∧ j < H.nxt ∧ H.obj i = some (.cells 1 [[.rsl j 1 0 s.length]] 0) ∧ H.obj j = some (.cells 1 (rowI s) 0) ∧ B = fun q=>q = i ∨ q = j
 stable:=by
  rintro s H H' B (⟨h1,h2,h3,rfl⟩ | ⟨j,h1,h2,h3,h4,h5,rfl⟩) k1 k2
  ·exact .inl ⟨h1,by omega,by rw [k1 i rfl]; exact h3,rfl⟩
  ·exact .inr ⟨j,h1,by omega,by omega,by rw [k1 i (.inl rfl)]; exact h4,by rw [k1 j (.inr rfl)]; exact h5,rfl⟩
 low:=by
  rintro s H B (⟨h1,h2,h3,rfl⟩ | ⟨j,h1,h2,h3,h4,h5,rfl⟩) q hq
  ·rw [hq]; exact h2
  ·rcases hq with rfl | rfl
   ·exact h2
   ·exact h3
theorem stRow_push {H H1:AH} {i:Nat} {B:Nat → Prop} {s:List Int} {l:List (Option AObj)} (hn:H1.nxt = H.nxt) (hB:B i) (hq:∀ q,q < H.nxt → ¬ B q → H1.obj q = H.obj q) (hi:i < H.nxt) (k:Nat) (hk:l[k]? = some (some (.cells 1 (rowI s) 0)))
  (hio:H1.obj i = some (.cells 1 [[.rsl (H.nxt + k) 1 0 s.length]] 0)):Moves (stRow i) s H B (H1.plus l):=by
 have hkl:=(List.getElem?_eq_some_iff.1 hk).1
 have e:(H1.plus l).nxt = H.nxt + l.length:=by rw [plus_nxt,hn]
 refine ⟨by omega,fun q h1 h2=>?_,fun q=>q = i ∨ q = H.nxt + k, .inr ⟨H.nxt + k,by omega,by omega,by omega, ?_, ?_,rfl⟩,fun q h=>?_⟩
 ·rw [plus_low H1 l (by omega)]; exact hq q h1 h2
 ·rw [plus_low H1 l (by omega)]; exact hio
 ·rw [← hn,plus_obj,hk]; rfl
 ·rcases h with rfl | rfl
  ·exact .inl hB
  ·right; omega
theorem Moves.new {σ:Type} {I:St σ} {s:σ} {H:AH} {B:Nat → Prop} (h:I.inv s H B) (l:List (Option AObj)):Moves I s H B (H.plus l) :=
 ⟨Nat.le_add_right _ _,fun q hq _=>plus_low H l hq,B,St.grow h l,fun q hq=>.inl hq⟩
def colStep (s:List Int) (e:Ex) (d:Int):List Int × Bool:=(if e.op = 1 then s ++ [e.col] else s,true)
theorem cols1_ok (i:Nat) (s:List Int) (e:Ex) (d:Int) (H:AH) (B:Nat → Prop) (hs1:s.length < 1000000) (hI:(stRow i).inv s H B) :
  ACalls Go.Proofs.Tryz.prog 157 [.agg (encE e), .int d, .ptr i 1 0 0] H (fun r H'=>r = .bool (colStep s e d).2 ∧ Moves (stRow i) (colStep s e d).1 H B H'):=by
 obtain ⟨op,col,k,n,l⟩:=e
 refine acalls_sc (rs:=#[.tmp 5]) Go.Proofs.Tryz.func157 rfl rfl rfl mixed rfl (Nat.le_of_ble_eq_true rfl) fun hs _=>?_
 have hIc:=hI
 rcases hI with ⟨rfl,h2,h3,rfl⟩ | ⟨j,h1,h2,h3,h4,h5,rfl⟩
 ·have hob:∀ l,(H.plus l).obj i = some (.cells 1 [[.nilS]] 0):=fun l=>by rw [plus_low H l h2]; exact h3
  have hset:∀ l o,(H.plus l).set i o = (H.set i o).plus l:=fun l o=>plus_setlow H l h2 o
  simp -implicitDefEqProofs only [push_cast,Nat.reduceAdd,Nat.reduceSub,Nat.reduceMul,Nat.reduceLT,Nat.reduceLeDiff,Nat.reduceEqDiff,Nat.reduceBEq,reduceCtorEq,reduceIte,Int.reduceLE,Int.reduceLT,Int.reduceNeg,Int.reduceToNat,hob,hset]
  refine ⟨fun h=>retk trivial ⟨rfl, ?_⟩,fun h=>retk trivial ⟨rfl, ?_⟩⟩
  ·simp only [colStep,Ex.op,Ex.col,h,if_true,List.nil_append]
   refine stRow_push rfl rfl (fun q hq hb=>?_) h2 2 rfl ?_
   ·show (if q = i then _ else H.obj q) = _
    rw [if_neg hb]
   ·show (if i = i then _ else H.obj i) = _
    rw [if_pos rfl]
    rfl
  ·simp only [colStep,Ex.op,h,if_false]
   exact Moves.new hIc _
 ·have hob:∀ l,(H.plus l).obj i = some (.cells 1 [[.rsl j 1 0 s.length]] 0):=fun l=>by rw [plus_low H l h2]; exact h4
  have hoj:∀ l,(H.plus l).obj j = some (.cells 1 (rowI s) 0):=fun l=>by rw [plus_low H l h3]; exact h5
  have hdel:∀ l,(H.plus l).del j = (H.del j).plus l:=fun l=>plus_dellow H l h3
  have hob2:∀ l,((H.del j).plus l).obj i = some (.cells 1 [[.rsl j 1 0 s.length]] 0):=fun l=>by
   rw [plus_low (H.del j) l h2]
   show (if i = j then none else H.obj i) = _
   rw [if_neg (Ne.symm h1),h4]
  have hset2:∀ l o,((H.del j).plus l).set i o = ((H.del j).set i o).plus l:=fun l o=>plus_setlow (H.del j) l h2 o
  simp -implicitDefEqProofs only [push_cast,Nat.reduceAdd,Nat.reduceSub,Nat.reduceMul,Nat.reduceLT,Nat.reduceLeDiff,Nat.reduceEqDiff,Nat.reduceBEq,reduceCtorEq,reduceIte,Int.reduceLE,Int.reduceLT,Int.reduceNeg,Int.reduceToNat,hob,hoj,hdel,hob2,hset2,del_nxt]
  refine ⟨fun h=>⟨by omega,retk trivial ⟨rfl, ?_⟩⟩,fun h=>retk trivial ⟨rfl, ?_⟩⟩
  ·simp only [colStep,Ex.op,Ex.col,h,if_true]
   refine stRow_push rfl (.inl rfl) (fun q hq hb=>?_) h2 2 ?_ ?_
   ·show (if q = i then _ else (if q = j then none else H.obj q)) = _
    rw [if_neg (fun e=>hb (.inl e)),if_neg (fun e=>hb (.inr e))]
   ·simp only [List.getElem?_cons_succ,List.getElem?_cons_zero]
    rw [List.take_of_length_le (by simp [rowI]),rowI,rowI,List.map_append]
    rfl
   ·show (if i = i then _ else _) = _
    rw [if_pos rfl,List.length_append]
    rfl
  ·simp only [colStep,Ex.op,h,if_false]
   exact Moves.new hIc _
theorem sort_ok {i:Nat} {zs:List Int} {H:AH} (hz:zs.length < 4611686018427387904) (ho:H.obj i = some (.cells 1 (rowI zs) 0)) :
  ACalls Go.Proofs.Tryz.prog 158 [.rsl i 1 0 zs.length] H fun r H'=>r = .tup [] ∧ H' = H.set i (.cells 1 (rowI (zs.mergeSort fun x y=>decide (x ≤ y))) 0) :=
 sort_row Go.Proofs.Tryz.laysSort (by kernel_rfl) hz ho
theorem sortN_ok {H:AH}:ACalls Go.Proofs.Tryz.prog 158 [.nilS] H fun r H'=>r = .tup [] ∧ H' = H:=sort_nil Go.Proofs.Tryz.laysSort (by kernel_rfl)
theorem compact_ok {i:Nat} {zs:List Int} {H:AH} (hz:zs.length ≤ 9223372036854775807) (ho:H.obj i = some (.cells 1 (rowI zs) 0)) :
  ACalls Go.Proofs.Tryz.prog 159 [.rsl i 1 0 zs.length] H fun r H'=>r = .rsl i 1 0 (Lib.compact zs).length ∧ H' = H.set i (.cells 1 (rowI (compactAll zs)) 0) :=
 compact_row Go.Proofs.Tryz.laysCompact (by kernel_rfl) hz ho
theorem compactN_ok {H:AH}:ACalls Go.Proofs.Tryz.prog 159 [.nilS] H fun r H'=>r = .nilS ∧ H' = H:=compact_nil Go.Proofs.Tryz.laysCompact (by kernel_rfl)
def Ex.colsAll (e:Ex):List Int:=(eachS colStep e 1 []).1
def Ex.cols (e:Ex):List Int:=if e.may then Lib.compact (e.colsAll.mergeSort fun x y=>decide (x ≤ y)) else []
theorem colsAll_len (e:Ex):e.colsAll.length ≤ cnt e:=by
 have:=eachS_wt colStep List.length (fun s e d=>by simp only [colStep]; split <;> simp) e 1 []
 simpa [Ex.colsAll] using this
theorem Cols_ok (e:Ex) (hok:e.Ok) (hc:cnt e ≤ 1000000):Quiet Go.Proofs.Tryz.prog 110 [.agg (encE e)] (.sl (e.cols.map encI)):=by
 refine quiet_of (rs:=#[.tmp 2]) Go.Proofs.Tryz.func110 rfl rfl rfl mixed rfl rfl fun H hs=>?_
 simp -implicitDefEqProofs only [push_cast,Nat.reduceAdd,Nat.reduceSub,Nat.reduceMul,Nat.reduceLT,Nat.reduceLeDiff,Nat.reduceEqDiff,Nat.reduceBEq,reduceCtorEq,reduceIte,Int.reduceLE,Int.reduceLT,Int.reduceNeg,Int.reduceToNat]
 refine callq (mayE_ok e hok) ?_
 simp -implicitDefEqProofs only [push_cast,Nat.reduceAdd,Nat.reduceSub,Nat.reduceMul,Nat.reduceLT,Nat.reduceLeDiff,Nat.reduceEqDiff,Nat.reduceBEq,reduceCtorEq,reduceIte,Int.reduceLE,Int.reduceLT,Int.reduceNeg,Int.reduceToNat]
 refine ⟨fun h=>?_,fun h=>?_⟩
 ·(try simp -implicitDefEqProofs only [push_cast,Nat.reduceAdd,Nat.reduceSub,Nat.reduceMul,Nat.reduceLT,Nat.reduceLeDiff,Nat.reduceEqDiff,Nat.reduceBEq,reduceCtorEq,reduceIte,Int.reduceLE,Int.reduceLT,Int.reduceNeg,Int.reduceToNat])
  simp [Ex.cols,h]
 ·have hcl:=(each_ok (stRow (H.nxt + 1)) colStep _ [.ptr (H.nxt + 1) 1 0 0] List.length (fun s e d=>by simp only [colStep]; split <;> simp) 1000000 (fun s e d H B _ hw hI=>cols1_ok _ s e d H B hw hI) e 1 []
   (H.plus [some (.cells 5 [encE e] 0),some (.cells 1 [[.nilS]] 0)]) (fun q=>q = H.nxt + 1) hok (by simpa using hc) (.inl ⟨rfl,by simp [plus_nxt],by rw [plus_obj]; rfl,rfl⟩)).hsc
  refine hcl.mono ?_
  rintro r H2 ⟨⟨rfl,hm⟩,hsc2,hle2,-⟩
  obtain ⟨l',rfl⟩:=hm.is_plus (fun q hq=>by omega) hsc2
  obtain ⟨hm1,hm2,B',hB',hBB⟩:=hm
  have hz:e.colsAll.length ≤ 1000000:=Nat.le_trans (colsAll_len e) hc
  have hec:e.cols = Lib.compact (e.colsAll.mergeSort fun x y=>decide (x ≤ y)):=by simp [Ex.cols,h]
  rcases hB' with ⟨hnil,_,hv,rfl⟩ | ⟨j,hj1,hj2,hj3,hv,hrow,rfl⟩
  ·rw [plus_obj] at hv
   simp -implicitDefEqProofs only [push_cast,Nat.reduceAdd,Nat.reduceSub,Nat.reduceMul,Nat.reduceLT,Nat.reduceLeDiff,Nat.reduceEqDiff,Nat.reduceBEq,reduceCtorEq,reduceIte,Int.reduceLE,Int.reduceLT,Int.reduceNeg,Int.reduceToNat,hv]
   refine (sortN_ok).mono ?_
   rintro r H3 ⟨rfl,rfl⟩
   simp -implicitDefEqProofs only [push_cast,Nat.reduceAdd,Nat.reduceSub,Nat.reduceMul,Nat.reduceLT,Nat.reduceLeDiff,Nat.reduceEqDiff,Nat.reduceBEq,reduceCtorEq,reduceIte,Int.reduceLE,Int.reduceLT,Int.reduceNeg,Int.reduceToNat,hv]
   refine (compactN_ok).mono ?_
   rintro r H3 ⟨rfl,rfl⟩
   simp -implicitDefEqProofs only [push_cast,Nat.reduceAdd,Nat.reduceSub,Nat.reduceMul,Nat.reduceLT,Nat.reduceLeDiff,Nat.reduceEqDiff,Nat.reduceBEq,reduceCtorEq,reduceIte,Int.reduceLE,Int.reduceLT,Int.reduceNeg,Int.reduceToNat,hv]
   (try simp -implicitDefEqProofs only [push_cast,Nat.reduceAdd,Nat.reduceSub,Nat.reduceMul,Nat.reduceLT,Nat.reduceLeDiff,Nat.reduceEqDiff,Nat.reduceBEq,reduceCtorEq,reduceIte,Int.reduceLE,Int.reduceLT,Int.reduceNeg,Int.reduceToNat])
   rw [hec,Ex.colsAll,hnil]
   simp [Lib.compact,Lib.compactUpTo]
  ·have hjn:H.nxt ≤ j:=by
    rcases hBB j (.inr rfl) with h1 | h1
    ·omega
    ·rw [plus_nxt] at h1; omega
   obtain ⟨k,rfl⟩:∃ k,j = H.nxt + k:=⟨j - H.nxt,by omega⟩
   have hkl:k < l'.length:=by rw [plus_nxt] at hj3; omega
   have hk1:k ≠ 1:=by omega
   have hrow':=hrow
   rw [plus_obj] at hv hrow
   have hs1:∀ x,(H.plus l').set (H.nxt + k) x = H.plus (l'.set k (some x)):=fun x=>plus_set H l' k x hkl
   have hv2:∀ x,((l'.set k x)[1]?).join = some (.cells 1 [[.rsl (H.nxt + k) 1 0 e.colsAll.length]] 0):=fun x=>by rw [List.getElem?_set_ne hk1]; exact hv
   have hr2:∀ x:AObj,((l'.set k (some x))[k]?).join = some x:=fun x=>by rw [List.getElem?_set_self hkl]; rfl
   have hs2:∀ x y,(H.plus (l'.set k (some x))).set (H.nxt + k) y = H.plus (l'.set k (some y)):=fun x y=>by
    rw [plus_set H _ k y (by rw [List.length_set]; exact hkl),List.set_set]
   simp -implicitDefEqProofs only [push_cast,Nat.reduceAdd,Nat.reduceSub,Nat.reduceMul,Nat.reduceLT,Nat.reduceLeDiff,Nat.reduceEqDiff,Nat.reduceBEq,reduceCtorEq,reduceIte,Int.reduceLE,Int.reduceLT,Int.reduceNeg,Int.reduceToNat,hv]
   refine (sort_ok (i:=H.nxt + k) (zs:=e.colsAll) (by omega) hrow').mono ?_
   rintro r H3 ⟨rfl,rfl⟩
   simp -implicitDefEqProofs only [push_cast,Nat.reduceAdd,Nat.reduceSub,Nat.reduceMul,Nat.reduceLT,Nat.reduceLeDiff,Nat.reduceEqDiff,Nat.reduceBEq,reduceCtorEq,reduceIte,Int.reduceLE,Int.reduceLT,Int.reduceNeg,Int.reduceToNat,hs1,hv2]
   have hcc:=compact_ok (i:=H.nxt + k) (zs:=e.colsAll.mergeSort fun x y=>decide (x ≤ y)) (H:=H.plus (l'.set k (some (.cells 1 (rowI (e.colsAll.mergeSort fun x y=>decide (x ≤ y))) 0)))) (by rw [List.length_mergeSort]; omega) (by rw [plus_obj]; exact hr2 _)
   rw [List.length_mergeSort] at hcc
   refine hcc.mono ?_
   rintro r H3 ⟨rfl,rfl⟩
   simp -implicitDefEqProofs only [push_cast,Nat.reduceAdd,Nat.reduceSub,Nat.reduceMul,Nat.reduceLT,Nat.reduceLeDiff,Nat.reduceEqDiff,Nat.reduceBEq,reduceCtorEq,reduceIte,Int.reduceLE,Int.reduceLT,Int.reduceNeg,Int.reduceToNat,hs1,hs2,hv2]
   rw [hr2]
   dsimp only
   have hcl:=Lib.compact_length_le (e.colsAll.mergeSort fun x y=>decide (x ≤ y))
   refine ⟨rfl, ?_, ?_⟩
   ·simp [rowI,compactAll]
   ·have hfun:rowI = fun l:List Int=>l.map encI:=rfl
    have he:(rowI (compactAll (e.colsAll.mergeSort fun x y=>decide (x ≤ y)))).take (Lib.compact (e.colsAll.mergeSort fun x y=>decide (x ≤ y))).length = e.cols.map encI:=by
     rw [hec,hfun]
     simp only [← List.map_take,compactAll,List.take_left]
    rw [he]
    exact sealLL_pure _ _ _ (encIs_pure _)
end
section
theorem bytesE:Program.bytesOf Go.Proofs.Tryz.prog 112 = 56:=by kernel_rfl
theorem bytesI:Program.bytesOf Go.Proofs.Tryz.prog 3 = 8:=by kernel_rfl
theorem asV_I (vs:List AV):asV Go.Proofs.Tryz.prog 3 vs = vs.headD .any:=by simp only [asV,Go.Proofs.Tryz.underlying3]
end
section
/- How deep. -/
mutual
def hgt:Ex → Int
 | .mk _ _ _ _ l=>1 + hgtL l
def hgtL:List Ex → Int
 | []=>0
 | x :: l=>max (hgt x) (hgtL l)
end
mutual
theorem hgt_pos:∀ e,1 ≤ hgt e
 | .mk _ _ _ _ l=>by rw [hgt]; have:=hgtL_pos l; omega
theorem hgtL_pos:∀ l,0 ≤ hgtL l
 | []=>by rw [hgtL]; omega
 | x :: l=>by rw [hgtL]; have:=hgtL_pos l; omega
end
theorem cnt_pos:∀ e,1 ≤ cnt e
 | .mk _ _ _ _ l=>by rw [cnt]; omega
mutual
def fineE:Ex → Bool
 | .mk op col k n l=>(Ex.mk op col k n l).part && fineL l
def fineL:List Ex → Bool
 | []=>true
 | x :: l=>fineE x && fineL l
end
mutual
theorem each_may:∀ (e:Ex) (d n:Int),0 ≤ n → n ≤ 30 → 0 ≤ d → d ≤ 7 →
  ((eachS mayStep e d n).2 = (fineE e && decide (n + cnt e ≤ 30) && decide (d + hgt e ≤ 7))) ∧ ((eachS mayStep e d n).2 = true → (eachS mayStep e d n).1 = n + cnt e)
 | .mk op col k nn l,d,n,h0,h1,h2,h3=>by
  have hw1:IntKind.wrap .i64 (n + 1) = n + 1:=wrap64 (by omega) (by omega)
  have hw2:IntKind.wrap .i64 (d + 1) = d + 1:=wrap64 (by omega) (by omega)
  rw [eachS,fineE,cnt,hgt]
  simp only [mayStep,hw1,hw2]
  have hh:=hgtL_pos l
  by_cases hc:n + 1 ≤ 30 ∧ d ≤ 6 ∧ (Ex.mk op col k nn l).part = true
  ·obtain ⟨c1,c2,c3⟩:=hc
   have hs:(decide (n + 1 ≤ 30) && decide (d ≤ 6) && (Ex.mk op col k nn l).part) = true:=by simp [c1,c2,c3]
   rw [if_pos hs]
   obtain ⟨q1,q2⟩:=eachL_may l (d + 1) (n + 1) (by omega) (by omega) (by omega) (by omega)
   refine ⟨?_,fun h=>by rw [q2 h]; push_cast; omega⟩
   rw [q1,c3,Bool.true_and]
   congr 2
   ·rw [decide_eq_decide]; push_cast; omega
   ·exact propext (by omega)
  ·have hs:(decide (n + 1 ≤ 30) && decide (d ≤ 6) && (Ex.mk op col k nn l).part) = false:=by
    rw [Bool.eq_false_iff]
    intro h
    simp only [Bool.and_eq_true,decide_eq_true_eq] at h
    exact hc ⟨h.1.1,h.1.2,h.2⟩
   rw [if_neg (by simp [hs])]
   refine ⟨?_,fun h=>by cases h⟩
   symm
   rw [Bool.eq_false_iff]
   intro h
   simp only [Bool.and_eq_true,decide_eq_true_eq] at h
   obtain ⟨⟨⟨a1,a2⟩,a3⟩,a4⟩:=h
   exact hc ⟨by push_cast at a3; omega,by omega,a1⟩
theorem eachL_may:∀ (l:List Ex) (d n:Int),0 ≤ n → n ≤ 30 → 0 ≤ d → d ≤ 7 →
  ((eachL mayStep l d n).2 = (fineL l && decide (n + cntL l ≤ 30) && decide (d + hgtL l ≤ 7))) ∧ ((eachL mayStep l d n).2 = true → (eachL mayStep l d n).1 = n + cntL l)
 | [],d,n,h0,h1,h2,h3=>by
  rw [eachL,fineL,cntL,hgtL]
  refine ⟨by simp; omega,fun _=>by simp⟩
 | x :: l,d,n,h0,h1,h2,h3=>by
  obtain ⟨p1,p2⟩:=each_may x d n h0 h1 h2 h3
  have hx:=hgt_pos x
  have hl:=hgtL_pos l
  have hcx:=cnt_pos x
  rw [eachL,fineL,cntL,hgtL]
  by_cases hc:(eachS mayStep x d n).2 = true
  ·rw [if_pos hc,p2 hc]
   have hc':=hc
   rw [p1] at hc'
   simp only [Bool.and_eq_true,decide_eq_true_eq] at hc'
   obtain ⟨⟨c1,c2⟩,c3⟩:=hc'
   obtain ⟨q1,q2⟩:=eachL_may l d (n + cnt x) (by omega) c2 h2 h3
   refine ⟨?_,fun h=>by rw [q2 h]; push_cast; omega⟩
   rw [q1,c1,Bool.true_and]
   congr 2
   ·rw [decide_eq_decide]; push_cast; omega
   ·exact propext (by omega)
  ·rw [if_neg hc]
   refine ⟨?_,fun h=>by cases h⟩
   symm
   rw [Bool.eq_false_iff]
   intro h
   simp only [Bool.and_eq_true,decide_eq_true_eq] at h
   obtain ⟨⟨⟨a1,a2⟩,a3⟩,a4⟩:=h
   apply hc
   rw [p1]
   simp only [Bool.and_eq_true,decide_eq_true_eq]
   exact ⟨⟨a1,by push_cast at a3; omega⟩,by omega⟩
end
theorem may_eq (e:Ex):e.may = (fineE e && decide (cnt e ≤ 30) && decide (hgt e ≤ 6)):=by
 rw [Ex.may,(each_may e 1 0 (by omega) (by omega) (by omega) (by omega)).1]
 congr 2
 ·rw [decide_eq_decide]; omega
 ·exact propext (by omega)
theorem fineL_mem:∀ {l:List Ex} {x:Ex},fineL l = true → x ∈ l → fineE x = true ∧ cnt x ≤ cntL l ∧ hgt x ≤ hgtL l
 | [],x,_,h=>by simp at h
 | y :: l,x,hf,h=>by
  rw [fineL,Bool.and_eq_true] at hf
  rw [cntL,hgtL]
  rcases List.mem_cons.1 h with rfl | h
  ·exact ⟨hf.1,by omega,by omega⟩
  ·obtain ⟨h1,h2,h3⟩:=fineL_mem hf.2 h
   exact ⟨h1,by omega,by omega⟩
theorem may_part {op col k n:Int} {l:List Ex} (h:(Ex.mk op col k n l).may = true) {x:Ex} (hx:x ∈ l):x.may = true:=by
 rw [may_eq,fineE,cnt,hgt] at h
 rw [may_eq]
 simp only [Bool.and_eq_true,decide_eq_true_eq] at h ⊢
 obtain ⟨⟨⟨h1,h2⟩,h3⟩,h4⟩:=h
 obtain ⟨q1,q2,q3⟩:=fineL_mem h2 hx
 exact ⟨⟨q1,by omega⟩,by omega⟩
/- Its columns. -/
mutual
def colsOf:Ex → List Int
 | .mk op col _ _ l=>(if op = 1 then [col] else []) ++ colsOfL l
def colsOfL:List Ex → List Int
 | []=>[]
 | x :: l=>colsOf x ++ colsOfL l
end
mutual
theorem each_cols:∀ (e:Ex) (d:Int) (s:List Int),eachS colStep e d s = (s ++ colsOf e,true)
 | .mk op col k n l,d,s=>by
  rw [eachS,colsOf]
  have h1:colStep s (Ex.mk op col k n l) d = (if op = 1 then s ++ [col] else s,true):=rfl
  rw [h1,if_pos rfl,eachL_cols l]
  split <;> simp
theorem eachL_cols:∀ (l:List Ex) (d:Int) (s:List Int),eachL colStep l d s = (s ++ colsOfL l,true)
 | [],d,s=>by rw [eachL,colsOfL]; simp
 | x :: l,d,s=>by
  rw [eachL,each_cols x,if_pos rfl,eachL_cols l,colsOfL]
  simp
end
theorem colsAll_eq (e:Ex):e.colsAll = colsOf e:=by rw [Ex.colsAll,each_cols]; simp
theorem cols_eq (e:Ex):e.cols = if e.may then Lib.compact ((colsOf e).mergeSort fun x y=>decide (x ≤ y)) else []:=by rw [Ex.cols,colsAll_eq]
theorem compact_len (l:List Int):(Lib.compact l).length ≤ l.length:=by
 have:=compactAll_length l
 rw [compactAll,List.length_append] at this
 omega
theorem cols_len (e:Ex):e.cols.length ≤ cnt e:=by
 rw [Ex.cols]
 split
 ·refine Nat.le_trans (compact_len _) ?_
  rw [List.length_mergeSort]
  exact colsAll_len e
 ·simp
end
section
attribute [local push_cast] encE_mk encE_take encE_len encV encE_one encEs_pure encE_pure
def hasUpto (e:Ex) (n:Nat):List Int:=(upto n).filter fun c=>hasE c e
theorem hasUpto_zero (e:Ex):hasUpto e 0 = []:=rfl
theorem hasUpto_yes (e:Ex) (n:Nat) (h:hasE (n:Int) e = true):hasUpto e (n + 1) = hasUpto e n ++ [(n:Int)]:=by
 have:upto (n + 1) = upto n ++ [(n:Int)]:=by simp [upto,List.range_succ]
 simp [hasUpto,this,List.filter_append,h]
theorem hasUpto_no (e:Ex) (n:Nat) (h:hasE (n:Int) e = false):hasUpto e (n + 1) = hasUpto e n:=by
 have:upto (n + 1) = upto n ++ [(n:Int)]:=by simp [upto,List.range_succ]
 simp [hasUpto,this,List.filter_append,h]
theorem hasUpto_len (e:Ex) (n:Nat):(hasUpto e n).length ≤ n:=Nat.le_trans (List.length_filter_le _ _) (by rw [upto_len]; omega)
theorem snocI (l:List Int) (x:Int):rowI l ++ [[.lit (.int .i64 x)]] = rowI (l ++ [x]):=by rw [rowI,rowI,List.map_append]; rfl
def Ex.colsR (e:Ex):List Int:=if e.mayR then hasUpto e 16 else []
theorem ColsR_ok (e:Ex) (hok:e.Ok):Quiet Go.Proofs.Tryz.prog 132 [.agg (encE e)] (.sl (e.colsR.map encI)):=by
 refine quiet_of (rs:=#[.tmp 2]) Go.Proofs.Tryz.func132 rfl rfl rfl mixed rfl rfl fun H hs=>?_
 simp -implicitDefEqProofs only [push_cast,Nat.reduceAdd,Nat.reduceSub,Nat.reduceMul,Nat.reduceLT,Nat.reduceLeDiff,Nat.reduceEqDiff,Nat.reduceBEq,reduceCtorEq,reduceIte,Int.reduceLE,Int.reduceLT,Int.reduceNeg,Int.reduceToNat]
 refine callq (MayR_ok e hok) ?_
 rw [Ex.colsR]
 generalize e.mayR = may
 cases may with
 | false =>
  simp -implicitDefEqProofs only [push_cast,Nat.reduceAdd,Nat.reduceSub,Nat.reduceMul,Nat.reduceLT,Nat.reduceLeDiff,Nat.reduceEqDiff,Nat.reduceBEq,reduceCtorEq,reduceIte,Int.reduceLE,Int.reduceLT,Int.reduceNeg,Int.reduceToNat]
  refine loop_at hs (σ:=Unit) (fun _=>True) (fun _=>0) (fun _=>[(1, .ptr (H.nxt + 0) 5 0 0),(5, .int 0),(4, .bool false),(3, .nilS)]) (fun _=>[some (.cells 5 [encE e] 0)]) [some 0] () trivial rfl ?_ ?_ ?_
  ·(try simp -implicitDefEqProofs only [push_cast,Nat.reduceAdd,Nat.reduceSub,Nat.reduceMul,Nat.reduceLT,Nat.reduceLeDiff,Nat.reduceEqDiff,Nat.reduceBEq,reduceCtorEq,reduceIte,Int.reduceLE,Int.reduceLT,Int.reduceNeg,Int.reduceToNat])
  ·(try simp -implicitDefEqProofs only [push_cast,Nat.reduceAdd,Nat.reduceSub,Nat.reduceMul,Nat.reduceLT,Nat.reduceLeDiff,Nat.reduceEqDiff,Nat.reduceBEq,reduceCtorEq,reduceIte,Int.reduceLE,Int.reduceLT,Int.reduceNeg,Int.reduceToNat])
  ·intro _ _
   simp -implicitDefEqProofs only [push_cast,Nat.reduceAdd,Nat.reduceSub,Nat.reduceMul,Nat.reduceLT,Nat.reduceLeDiff,Nat.reduceEqDiff,Nat.reduceBEq,reduceCtorEq,reduceIte,Int.reduceLE,Int.reduceLT,Int.reduceNeg,Int.reduceToNat]
   (try simp -implicitDefEqProofs only [push_cast,Nat.reduceAdd,Nat.reduceSub,Nat.reduceMul,Nat.reduceLT,Nat.reduceLeDiff,Nat.reduceEqDiff,Nat.reduceBEq,reduceCtorEq,reduceIte,Int.reduceLE,Int.reduceLT,Int.reduceNeg,Int.reduceToNat])
 | true =>
  simp -implicitDefEqProofs only [push_cast,Nat.reduceAdd,Nat.reduceSub,Nat.reduceMul,Nat.reduceLT,Nat.reduceLeDiff,Nat.reduceEqDiff,Nat.reduceBEq,reduceCtorEq,reduceIte,Int.reduceLE,Int.reduceLT,Int.reduceNeg,Int.reduceToNat]
  refine loop_at hs (σ:=Nat) (fun i=>i ≤ 16) (fun i=>16 - i)
   (fun i=>[(1, .ptr (H.nxt + 0) 5 0 0),(5, .int i),(4, .bool true),(3, .rsl (H.nxt + 1) 1 0 (hasUpto e i).length)]) (fun i=>[some (.cells 5 [encE e] 0),some (.cells 1 (rowI (hasUpto e i)) 0)]) [some 0,none] 0 (by omega) rfl ?_ ?_ ?_
  ·(try simp -implicitDefEqProofs only [push_cast,Nat.reduceAdd,Nat.reduceSub,Nat.reduceMul,Nat.reduceLT,Nat.reduceLeDiff,Nat.reduceEqDiff,Nat.reduceBEq,reduceCtorEq,reduceIte,Int.reduceLE,Int.reduceLT,Int.reduceNeg,Int.reduceToNat,hasUpto_zero,rowI_nil])
  ·(try simp -implicitDefEqProofs only [push_cast,Nat.reduceAdd,Nat.reduceSub,Nat.reduceMul,Nat.reduceLT,Nat.reduceLeDiff,Nat.reduceEqDiff,Nat.reduceBEq,reduceCtorEq,reduceIte,Int.reduceLE,Int.reduceLT,Int.reduceNeg,Int.reduceToNat,hasUpto_zero,rowI_nil])
  ·intro i hi2
   have hlen:=hasUpto_len e i
   by_cases hi:i < 16
   ·have hi':((i:Int) ≤ 15) = True:=by simp; omega
    simp -implicitDefEqProofs only [push_cast,Nat.reduceAdd,Nat.reduceSub,Nat.reduceMul,Nat.reduceLT,Nat.reduceLeDiff,Nat.reduceEqDiff,Nat.reduceBEq,reduceCtorEq,reduceIte,Int.reduceLE,Int.reduceLT,Int.reduceNeg,Int.reduceToNat,hi']
    refine callq (has_ok e i hok) ?_
    simp -implicitDefEqProofs only [push_cast,Nat.reduceAdd,Nat.reduceSub,Nat.reduceMul,Nat.reduceLT,Nat.reduceLeDiff,Nat.reduceEqDiff,Nat.reduceBEq,reduceCtorEq,reduceIte,Int.reduceLE,Int.reduceLT,Int.reduceNeg,Int.reduceToNat]
    refine ⟨fun h=>⟨by omega, ?_⟩,fun h=>?_⟩
    ·rw [wrap64 (n:=(i:Int) + 1) (by omega) (by omega)]
     refine next_at [some 0,some 3] (i + 1) (by omega) (by omega) rfl ?_ ?_
     ·(try simp -implicitDefEqProofs only [push_cast,Nat.reduceAdd,Nat.reduceSub,Nat.reduceMul,Nat.reduceLT,Nat.reduceLeDiff,Nat.reduceEqDiff,Nat.reduceBEq,reduceCtorEq,reduceIte,Int.reduceLE,Int.reduceLT,Int.reduceNeg,Int.reduceToNat,hasUpto_yes e i h])
     ·(try simp -implicitDefEqProofs only [push_cast,Nat.reduceAdd,Nat.reduceSub,Nat.reduceMul,Nat.reduceLT,Nat.reduceLeDiff,Nat.reduceEqDiff,Nat.reduceBEq,reduceCtorEq,reduceIte,Int.reduceLE,Int.reduceLT,Int.reduceNeg,Int.reduceToNat,hasUpto_yes e i h,take_rowI _ _ (Nat.le_refl _),snocI,rowI_pure,rowI_one])
    ·rw [wrap64 (n:=(i:Int) + 1) (by omega) (by omega)]
     refine next_at [some 0,some 1] (i + 1) (by omega) (by omega) rfl ?_ ?_
     ·(try simp -implicitDefEqProofs only [push_cast,Nat.reduceAdd,Nat.reduceSub,Nat.reduceMul,Nat.reduceLT,Nat.reduceLeDiff,Nat.reduceEqDiff,Nat.reduceBEq,reduceCtorEq,reduceIte,Int.reduceLE,Int.reduceLT,Int.reduceNeg,Int.reduceToNat,hasUpto_no e i h])
     ·(try simp -implicitDefEqProofs only [push_cast,Nat.reduceAdd,Nat.reduceSub,Nat.reduceMul,Nat.reduceLT,Nat.reduceLeDiff,Nat.reduceEqDiff,Nat.reduceBEq,reduceCtorEq,reduceIte,Int.reduceLE,Int.reduceLT,Int.reduceNeg,Int.reduceToNat,hasUpto_no e i h,rowI_pure,rowI_one])
   ·have hi':((i:Int) ≤ 15) = False:=by simp; omega
    simp -implicitDefEqProofs only [push_cast,Nat.reduceAdd,Nat.reduceSub,Nat.reduceMul,Nat.reduceLT,Nat.reduceLeDiff,Nat.reduceEqDiff,Nat.reduceBEq,reduceCtorEq,reduceIte,Int.reduceLE,Int.reduceLT,Int.reduceNeg,Int.reduceToNat,hi']
    (try simp -implicitDefEqProofs only [push_cast,Nat.reduceAdd,Nat.reduceSub,Nat.reduceMul,Nat.reduceLT,Nat.reduceLeDiff,Nat.reduceEqDiff,Nat.reduceBEq,reduceCtorEq,reduceIte,Int.reduceLE,Int.reduceLT,Int.reduceNeg,Int.reduceToNat])
    obtain rfl:i = 16:=by omega
    rw [take_rowI _ _ (Nat.le_refl _)]
    exact sealLL_pure _ _ _ (encIs_pure _)
end
end Go.Sim.Tryz
namespace Go.Sim.Tryz
open Go Go.Sim
attribute [local push_cast] aops_cons aops_nil aopG_none aopG_some aopP_eq aopE_eq aopC_eq aopE?_eq aopC?_eq aopB_eq aopB?_eq abr anilq gopP_eq gopL_eq ahead_cons ahead_nil ahdG_none ahdG_some ahdP_eq ahdN_eq ahdC_eq ahdN?_eq ahdS_eq ahdS?_eq astoreN ahdC?_eq ghdP_eq ghdC_eq ghdC?_eq ghdZ_f ghdZ_t ahdI_eq ahdI?_eq ghdN?_eq aim_nil aim_cons isIn_nil isIn_none isIn_cons aimm aheP_eq aheA_eq aheC_eq aheC?_eq aheI?_eq aheA?_eq gheP_eq gheC_eq gheC?_eq gheZ_eq aheG_none aheG_some aheff_cons aheff_nil aapp gro_rsl gro_lit gro_esl opt_some opt_none no_eq acondT_true acondT_false acondT_lit aw_skip aw_region aw_regionD aw_seq aw_cond aw_block aw_loop aw_exit aw_label aw_ret thn_normal thn_exit thn_ret inb_normal inb_exit inb_ret qret_ret qret_normal gcond apure aeff anew acallee ares aresT aresL aresC ares1 qfin_eq ev ofV evL gokL tget tput_some tput_none initT abin aint aun aload afaddr aiaddr afield aindex aextract apick pickv_lit Bool.or_false Bool.false_or Bool.or_true Bool.true_or imp_self aslice chunk roomB abound aconv abuild afill splice alen aminmax abuiltin anil apart Value.oneCell' astore aappend srcEs abuildSlice amakeSlice amapPut alookup aput afind mget keyV sameV_int Option.isSome_some Option.isSome_none cond_true cond_false asets isEq plus_obj plus_nxt plus_add plus_set plus_del IntKind.bits Option.map_some Option.map_none Option.bind_some Option.bind_none Option.join_some Option.getD_some Option.getD_none Option.toList List.getElem?_toArray List.getElem?_cons_zero List.getElem?_cons_succ List.getElem?_nil List.length_cons List.length_nil List.length_map List.head?_cons List.cons_append List.nil_append List.append_nil List.map_cons List.map_nil List.getD_cons_zero List.getD_cons_succ List.replicate_succ List.replicate_zero List.set_cons_zero List.set_cons_succ List.take_succ_cons List.take_zero List.drop_succ_cons List.drop_zero List.all_cons List.all_nil Nat.zero_add if_true if_false true_and and_true false_and and_false true_implies implies_true forall_const Bool.and_true Bool.true_and Bool.false_and Bool.and_false Bool.true_beq Bool.false_beq Bool.not_not beq_tt beq_ff Int.toNat_natCast decide_true decide_false Bool.not_true Bool.not_false Bool.true_eq_false Bool.false_eq_true false_implies exists_prop eq_self bne_self_eq_false beq_self_eq_true decide_eq_true_eq decide_eq_false_iff_not Bool.not_eq_true' Bool.not_eq_false' AV.int AV.bool AV.nilS ne_eq not_false_eq_true not_true_eq_false exists_eq_left exists_eq_left' Nat.lt_irrefl core_lit grd_lit acells_lit one_lit core_agg grd_agg acells_agg one_agg core_tup grd_tup acells_tup one_tup core_sl grd_sl acells_sl one_sl core_esl grd_esl acells_esl one_esl core_rsl grd_rsl acells_rsl one_rsl core_ptr grd_ptr acells_ptr one_ptr core_iptr grd_iptr acells_iptr one_iptr core_clo grd_clo acells_clo one_clo core_mp grd_mp acells_mp one_mp core_any grd_any acells_any one_any core_gv grd_gv fit_agg fit_lit fit_sl fit_esl fit_rsl fit_ptr fit_iptr fit_clo fit_mp retq_ret retq_normal set_nxt set_set plus_obj_set plus_set_set app_get0 app_get app_set0 app_set List.append_assoc List.length_append List.length_set Nat.lt_add_one Nat.add_lt_add_iff_right Nat.lt_add_right_iff_pos Nat.add_lt_add_iff_left List.mem_cons List.not_mem_nil or_false forall_eq forall_eq_or_imp lt_s0 lt_s1 lt_s2 lt_s3 lt_s4 lt_s5 lt_s6 lt_s7 lt_s8 pickv_t pickv_f or_nand or_nand2 imp_and_l SealT SealOs sealO_cells sl_lit sl_any sl_agg sl_tup sl_sl sl_rsl slO sl_esl sl_nil sl_eslesl sl_eslnil sl_rslrsl sl_eslrsl sl_nilrsl sl_ptr sl_iptr sl_ptri slP sl_clo sl_mp sl_gv sll_nil sll_cons slll_nil slll_cons shut_eq shutO Option.join_none Fn.func.injEq and_self sealL_self sealLL_self seal_self PureL PureLL Pure Nat.le_refl Nat.zero_le AV.lit.injEq Value.int.injEq Value.bool.injEq false_or or_true true_or Int.natCast_zero Int.ofNat_zero Int.cast_ofNat_Int Int.natCast_add Int.natCast_one Option.some.injEq piL_is sop_nil sop_cons sop_none sop_some sopO_some sop_new shut_pi shutL_nil shutL_cons exQ_exit exQ_ret exQ_normal Go.Sim.Tryz.ty_load1 Go.Sim.Tryz.ty_zero1 Go.Sim.Tryz.ty_load2 Go.Sim.Tryz.ty_zero2 Go.Sim.Tryz.ty_und2 Go.Sim.Tryz.ty_load3 Go.Sim.Tryz.ty_zero3 Go.Sim.Tryz.ty_und3 Go.Sim.Tryz.ty_load4 Go.Sim.Tryz.ty_zero4 Go.Sim.Tryz.ty_und4 Go.Sim.Tryz.ty_load5 Go.Sim.Tryz.ty_zero5 Go.Sim.Tryz.ty_und5 Go.Sim.Tryz.ty_load9 Go.Sim.Tryz.ty_zero9 Go.Sim.Tryz.ty_und9 Go.Sim.Tryz.ty_load21 Go.Sim.Tryz.ty_zero21 Go.Sim.Tryz.ty_und21 Go.Sim.Tryz.ty_load22 Go.Sim.Tryz.ty_zero22 Go.Sim.Tryz.ty_el22 Go.Sim.Tryz.ty_zeroE22 Go.Sim.Tryz.ty_load24 Go.Sim.Tryz.ty_zero24 Go.Sim.Tryz.ty_fld24_0 Go.Sim.Tryz.ty_part24_0 Go.Sim.Tryz.ty_struct24 Go.Sim.Tryz.ty_load25 Go.Sim.Tryz.ty_zero25 Go.Sim.Tryz.ty_el25 Go.Sim.Tryz.ty_zeroE25 Go.Sim.Tryz.ty_load26 Go.Sim.Tryz.ty_zero26 Go.Sim.Tryz.ty_el26 Go.Sim.Tryz.ty_zeroE26 Go.Sim.Tryz.ty_load28 Go.Sim.Tryz.ty_zero28 Go.Sim.Tryz.ty_fld28_0 Go.Sim.Tryz.ty_part28_0 Go.Sim.Tryz.ty_fld28_1 Go.Sim.Tryz.ty_part28_1 Go.Sim.Tryz.ty_fld28_2 Go.Sim.Tryz.ty_part28_2 Go.Sim.Tryz.ty_fld28_3 Go.Sim.Tryz.ty_part28_3 Go.Sim.Tryz.ty_fld28_4 Go.Sim.Tryz.ty_part28_4 Go.Sim.Tryz.ty_fld28_5 Go.Sim.Tryz.ty_part28_5 Go.Sim.Tryz.ty_struct28 Go.Sim.Tryz.ty_load29 Go.Sim.Tryz.ty_zero29 Go.Sim.Tryz.ty_arr29 Go.Sim.Tryz.ty_part29_0 Go.Sim.Tryz.ty_part29_1 Go.Sim.Tryz.ty_struct29 Go.Sim.Tryz.ty_load30 Go.Sim.Tryz.ty_zero30 Go.Sim.Tryz.ty_el30 Go.Sim.Tryz.ty_zeroE30 Go.Sim.Tryz.ty_load32 Go.Sim.Tryz.ty_zero32 Go.Sim.Tryz.ty_fld32_0 Go.Sim.Tryz.ty_part32_0 Go.Sim.Tryz.ty_fld32_1 Go.Sim.Tryz.ty_part32_1 Go.Sim.Tryz.ty_fld32_2 Go.Sim.Tryz.ty_part32_2 Go.Sim.Tryz.ty_fld32_3 Go.Sim.Tryz.ty_part32_3 Go.Sim.Tryz.ty_struct32 Go.Sim.Tryz.ty_load37 Go.Sim.Tryz.ty_zero37 Go.Sim.Tryz.ty_el37 Go.Sim.Tryz.ty_zeroE37 Go.Sim.Tryz.ty_load39 Go.Sim.Tryz.ty_zero39 Go.Sim.Tryz.ty_fld39_0 Go.Sim.Tryz.ty_part39_0 Go.Sim.Tryz.ty_fld39_1 Go.Sim.Tryz.ty_part39_1 Go.Sim.Tryz.ty_struct39 Go.Sim.Tryz.ty_load52 Go.Sim.Tryz.ty_zero52 Go.Sim.Tryz.ty_fld52_0 Go.Sim.Tryz.ty_part52_0 Go.Sim.Tryz.ty_fld52_1 Go.Sim.Tryz.ty_part52_1 Go.Sim.Tryz.ty_fld52_2 Go.Sim.Tryz.ty_part52_2 Go.Sim.Tryz.ty_struct52 Go.Sim.Tryz.ty_load55 Go.Sim.Tryz.ty_zero55 Go.Sim.Tryz.ty_load56 Go.Sim.Tryz.ty_zero56 Go.Sim.Tryz.ty_load70 Go.Sim.Tryz.ty_zero70 Go.Sim.Tryz.ty_el70 Go.Sim.Tryz.ty_zeroE70 Go.Sim.Tryz.ty_load76 Go.Sim.Tryz.ty_zero76 Go.Sim.Tryz.ty_el76 Go.Sim.Tryz.ty_zeroE76 Go.Sim.Tryz.ty_load78 Go.Sim.Tryz.ty_zero78 Go.Sim.Tryz.ty_fld78_0 Go.Sim.Tryz.ty_part78_0 Go.Sim.Tryz.ty_struct78 Go.Sim.Tryz.ty_load84 Go.Sim.Tryz.ty_zero84 Go.Sim.Tryz.ty_fld84_0 Go.Sim.Tryz.ty_part84_0 Go.Sim.Tryz.ty_struct84 Go.Sim.Tryz.ty_load85 Go.Sim.Tryz.ty_zero85 Go.Sim.Tryz.ty_load92 Go.Sim.Tryz.ty_zero92 Go.Sim.Tryz.ty_load93 Go.Sim.Tryz.ty_zero93 Go.Sim.Tryz.ty_und93 Go.Sim.Tryz.ty_load95 Go.Sim.Tryz.ty_zero95 Go.Sim.Tryz.ty_und95 Go.Sim.Tryz.ty_load104 Go.Sim.Tryz.ty_zero104 Go.Sim.Tryz.ty_fld104_0 Go.Sim.Tryz.ty_part104_0 Go.Sim.Tryz.ty_fld104_1 Go.Sim.Tryz.ty_part104_1 Go.Sim.Tryz.ty_struct104 Go.Sim.Tryz.ty_load110 Go.Sim.Tryz.ty_zero110 Go.Sim.Tryz.ty_fld110_0 Go.Sim.Tryz.ty_part110_0 Go.Sim.Tryz.ty_fld110_1 Go.Sim.Tryz.ty_part110_1 Go.Sim.Tryz.ty_struct110 Go.Sim.Tryz.ty_load112 Go.Sim.Tryz.ty_zero112 Go.Sim.Tryz.ty_fld112_0 Go.Sim.Tryz.ty_part112_0 Go.Sim.Tryz.ty_fld112_1 Go.Sim.Tryz.ty_part112_1 Go.Sim.Tryz.ty_fld112_2 Go.Sim.Tryz.ty_part112_2 Go.Sim.Tryz.ty_fld112_3 Go.Sim.Tryz.ty_part112_3 Go.Sim.Tryz.ty_struct112 Go.Sim.Tryz.ty_load119 Go.Sim.Tryz.ty_zero119 Go.Sim.Tryz.ty_load123 Go.Sim.Tryz.ty_zero123 Go.Sim.Tryz.ty_fld123_0 Go.Sim.Tryz.ty_part123_0 Go.Sim.Tryz.ty_fld123_1 Go.Sim.Tryz.ty_part123_1 Go.Sim.Tryz.ty_struct123 Go.Sim.Tryz.ty_load124 Go.Sim.Tryz.ty_zero124 Go.Sim.Tryz.ty_el124 Go.Sim.Tryz.ty_zeroE124 Go.Sim.Tryz.ty_load125 Go.Sim.Tryz.ty_zero125 Go.Sim.Tryz.ty_el125 Go.Sim.Tryz.ty_zeroE125 Go.Sim.Tryz.ty_load128 Go.Sim.Tryz.ty_zero128 Go.Sim.Tryz.ty_fld128_0 Go.Sim.Tryz.ty_part128_0 Go.Sim.Tryz.ty_struct128 Go.Sim.Tryz.ty_load135 Go.Sim.Tryz.ty_zero135 Go.Sim.Tryz.ty_und135 Go.Sim.Tryz.ty_load140 Go.Sim.Tryz.ty_zero140 Go.Sim.Tryz.ty_load141 Go.Sim.Tryz.ty_zero141 Go.Sim.Tryz.ty_el141 Go.Sim.Tryz.ty_zeroE141 Go.Sim.Tryz.ty_load148 Go.Sim.Tryz.ty_zero148 Go.Sim.Tryz.ty_load151 Go.Sim.Tryz.ty_zero151 Go.Sim.Tryz.ty_load159 Go.Sim.Tryz.ty_zero159 Go.Sim.Tryz.ty_und159 Go.Sim.Tryz.ty_vzero128 Go.Sim.Tryz.ty_load168 Go.Sim.Tryz.ty_zero168 Go.Sim.Tryz.ty_fld168_0 Go.Sim.Tryz.ty_part168_0 Go.Sim.Tryz.ty_fld168_1 Go.Sim.Tryz.ty_part168_1 Go.Sim.Tryz.ty_fld168_2 Go.Sim.Tryz.ty_part168_2 Go.Sim.Tryz.ty_struct168 Go.Sim.Tryz.ty_load170 Go.Sim.Tryz.ty_zero170 Go.Sim.Tryz.ty_load172 Go.Sim.Tryz.ty_zero172 Go.Sim.Tryz.ty_und172 Go.Sim.Tryz.ty_load179 Go.Sim.Tryz.ty_zero179 Go.Sim.Tryz.ty_und179 Go.Sim.Tryz.ty_load181 Go.Sim.Tryz.ty_zero181 Go.Sim.Tryz.ty_load184 Go.Sim.Tryz.ty_zero184 Go.Sim.Tryz.ty_und184 Go.Sim.Tryz.ty_load188 Go.Sim.Tryz.ty_zero188 Go.Sim.Tryz.ty_load191 Go.Sim.Tryz.ty_zero191 encE_mk encE_take encE_len encV encE_one encEs_pure encE_pure
mutual
theorem partsR_spec:∀ (e:Ex) (d:Int),1 ≤ d → d ≤ 7 → (1 ≤ partsR e d ∧ partsR e d ≤ 1000 - 100 * d) ∧ ((partsR e d ≤ 30) ↔ ((cnt e:Int) ≤ 30 ∧ d + hgt e ≤ 7)) ∧ (partsR e d ≤ 30 → partsR e d = cnt e)
 | .mk op col k n l,d,h1,h2=>by
  rw [partsR,cnt,hgt]
  have hh:=hgtL_pos l
  by_cases hd:6 < d
  ·rw [if_pos hd]
   exact ⟨by omega,⟨fun h=>by omega,fun h=>by omega⟩,fun h=>by omega⟩
  ·rw [if_neg hd]
   have:=partsL_spec l (d + 1) 1 (by omega) (by omega) (by omega) (by omega)
   push_cast
   omega
theorem partsL_spec:∀ (l:List Ex) (d n:Int),2 ≤ d → d ≤ 7 → 1 ≤ n → n ≤ 1100 - 100 * d → (n ≤ partsL l d n ∧ partsL l d n ≤ 1100 - 100 * d) ∧ ((partsL l d n ≤ 30) ↔ (n + cntL l ≤ 30 ∧ d + hgtL l ≤ 7)) ∧ (partsL l d n ≤ 30 → partsL l d n = n + cntL l)
 | [],d,n,h1,h2,h3,h4=>by
  rw [partsL,cntL,hgtL]
  push_cast
  omega
 | x :: l,d,n,h1,h2,h3,h4=>by
  rw [partsL,cntL,hgtL]
  have hx:=partsR_spec x d (by omega) h2
  have hp:=cnt_pos x
  have hh:=hgt_pos x
  by_cases hn:n < 31
  ·rw [if_pos hn,wrap64 (by omega) (by omega)]
   have:=partsL_spec l d (n + partsR x d) h1 h2 (by omega) (by omega)
   push_cast
   omega
  ·rw [if_neg hn]
   push_cast
   omega
end
theorem part_iff (op col k n:Int) (l:List Ex):(Ex.mk op col k n l).part = true ↔
  (0 ≤ op ∧ op < 11 ∧ (wayLo op ≤ l.length ∧ (l.length:Int) ≤ wayHi op) ∧ (col = 0 ∨ (op = 1 ∧ 0 < col ∧ col ≤ 15)) ∧ ((k = 0 ∧ n = 0) ∨ (op = 0 ∧ 0 ≤ k ∧ k < 3 ∧ (k = 0 ∨ n = 0)))):=by
 show ((decide (0 ≤ op) && decide (op < 11) && (decide (wayLo op ≤ l.length) && decide ((l.length:Int) ≤ wayHi op)) && (decide (col = 0) || (decide (op = 1) && decide (0 < col) && decide (col ≤ 15)))
  && ((decide (k = 0) && decide (n = 0)) || (decide (op = 0) && (decide (0 ≤ k) && decide (k < 3) && (decide (k = 0) || decide (n = 0)))))) = true) ↔ _
 simp only [Bool.and_eq_true,Bool.or_eq_true,decide_eq_true_eq,and_assoc]
theorem head_iff (op col k n:Int) (m:Nat):headR op col k n m = true ↔ (0 ≤ op ∧ op ≤ 10 ∧ manyR op m = true ∧ (0 ≤ k ∧ k < 3 ∧ (k = 0 ∨ n = 0)) ∧ 0 ≤ col ∧ col ≤ 15 ∧ (op = 1 ∨ col = 0) ∧ (op = 0 ∨ (k = 0 ∧ n = 0))):=by
 show ((decide (0 ≤ op) && decide (op ≤ 10) && manyR op m && (decide (0 ≤ k) && decide (k < 3) && (decide (k = 0) || decide (n = 0))) && decide (0 ≤ col) && decide (col ≤ 15) && (decide (op = 1) || decide (col = 0)) && (decide (op = 0) || (decide (k = 0) && decide (n = 0)))) = true) ↔ _
 simp only [Bool.and_eq_true,Bool.or_eq_true,decide_eq_true_eq,and_assoc]
theorem part_head (op col k n:Int) (l:List Ex):(Ex.mk op col k n l).part = headR op col k n l.length:=by
 rw [Bool.eq_iff_iff,part_iff,head_iff]
 by_cases hop:op < 0 ∨ 10 < op
 ·constructor
  ·intro h; omega
  ·intro h; omega
 ·have hc:op = 0 ∨ op = 1 ∨ op = 2 ∨ op = 3 ∨ op = 4 ∨ op = 5 ∨ op = 6 ∨ op = 7 ∨ op = 8 ∨ op = 9 ∨ op = 10:=by omega
  have key:(wayLo op ≤ l.length ∧ (l.length:Int) ≤ wayHi op) ↔ manyR op l.length = true:=by
   rcases hc with rfl | rfl | rfl | rfl | rfl | rfl | rfl | rfl | rfl | rfl | rfl <;> simp [wayLo,wayHi,manyR] <;> omega
  rw [key]
  constructor
  ·rintro ⟨h1,h2,h3,h4,h5⟩
   exact ⟨h1,by omega,h3,by omega,by omega,by omega,by omega,by omega⟩
  ·rintro ⟨h1,h2,h3,h4,h5,h6,h7,h8⟩
   exact ⟨h1,by omega,h3,by omega,by omega⟩
mutual
theorem fine_R:∀ e:Ex,fineR e = fineE e
 | .mk op col k n l=>by rw [fineR,fineE,part_head,fine_RL l]
theorem fine_RL:∀ l:List Ex,fineRL l = fineL l
 | []=>rfl
 | x :: l=>by rw [fineRL,fineL,fine_R x,fine_RL l]
end
theorem mayR_eq (e:Ex):e.mayR = e.may:=by
 rw [Ex.mayR,may_eq,fine_R]
 have:=(partsR_spec e 1 (by omega) (by omega)).2.1
 have h:decide (partsR e 1 ≤ 30) = (decide (cnt e ≤ 30) && decide (hgt e ≤ 6)):=by
  rw [Bool.eq_iff_iff,Bool.and_eq_true,decide_eq_true_eq,decide_eq_true_eq,decide_eq_true_eq,this]
  omega
 rw [h]
 cases fineE e <;> cases decide (cnt e ≤ 30) <;> cases decide (hgt e ≤ 6) <;> rfl
mutual
theorem has_cols (c:Int):∀ e:Ex,hasE c e = (colsOf e).contains c
 | .mk op col k n l=>by
  rw [hasE,colsOf,List.contains_append,has_colsL c l]
  by_cases h:op = 1
  ·subst h
   simp only [if_true,decide_true,Bool.true_and,List.contains_cons,List.contains_nil,Bool.or_false]
   by_cases h2:col = c
   ·simp [h2]
   ·have:(c == col) = false:=by simp; omega
    simp [h2,this]
  ·simp [h]
theorem has_colsL (c:Int):∀ l:List Ex,hasL c l = (colsOfL l).contains c
 | []=>by simp [hasL,colsOfL]
 | x :: l=>by rw [hasL,colsOfL,List.contains_append,has_cols c x,has_colsL c l]
end
mutual
theorem cols_range:∀ e:Ex,fineE e = true → ∀ c ∈ colsOf e,0 ≤ c ∧ c ≤ 15
 | .mk op col k n l,hf,c,hc=>by
  rw [fineE,Bool.and_eq_true,part_head,headR] at hf
  rw [colsOf,List.mem_append] at hc
  rcases hc with hc | hc
  ·simp only [Bool.and_eq_true,decide_eq_true_eq] at hf
   split at hc
   ·rw [List.mem_singleton] at hc
    subst hc
    exact ⟨hf.1.1.1.1.2,hf.1.1.1.2⟩
   ·simp at hc
  ·exact cols_rangeL l hf.2 c hc
theorem cols_rangeL:∀ l:List Ex,fineL l = true → ∀ c ∈ colsOfL l,0 ≤ c ∧ c ≤ 15
 | [],_,c,hc=>by simp [colsOfL] at hc
 | x :: l,hf,c,hc=>by
  rw [fineL,Bool.and_eq_true] at hf
  rw [colsOfL,List.mem_append] at hc
  rcases hc with hc | hc
  ·exact cols_range x hf.1 c hc
  ·exact cols_rangeL l hf.2 c hc
end
theorem upto_mem (n:Nat) (c:Int):c ∈ upto n ↔ 0 ≤ c ∧ c < n:=by
 simp only [upto,List.mem_map,List.mem_range]
 constructor
 ·rintro ⟨i,hi,rfl⟩
  exact ⟨by simp,by simpa using hi⟩
 ·rintro ⟨h1,h2⟩
  exact ⟨c.toNat,by omega,by simp; omega⟩
theorem upto_pw (n:Nat):(upto n).Pairwise (· < ·):=by
 rw [upto,List.pairwise_map]
 exact List.pairwise_lt_range.imp fun h=>by simpa using h
theorem colsR_eq (e:Ex):e.colsR = e.cols:=by
 rw [Ex.colsR,mayR_eq,cols_eq]
 by_cases h:e.may = true
 ·rw [if_pos h,if_pos h]
  have hf:fineE e = true:=by
   rw [may_eq] at h
   simp only [Bool.and_eq_true] at h
   exact h.1.1
  refine pw_ext ((upto_pw 16).filter _) (uniq_pw (colsOf e)) fun c=>?_
  show c ∈ hasUpto e 16 ↔ c ∈ uniq (colsOf e)
  rw [uniq_mem,hasUpto,List.mem_filter,upto_mem,has_cols,List.contains_iff_mem]
  constructor
  ·exact fun h=>h.2
  ·intro hc
   have:=cols_range e hf c hc
   exact ⟨by omega,hc⟩
 ·rw [if_neg h,if_neg h]
end Go.Sim.Tryz
namespace Go.Sim.Tryz
open Go Go.Sim
section
structure Df where
 cols:Int
 rows:Int
structure Qy where
 occ:List Int
 p:List Ex
 by_:Int
 sums:List Int
 out:List Int
 ord:Int
def Df.may (d:Df):Bool:=decide (1 ≤ d.cols) && decide (d.cols ≤ 4) && (decide (1 ≤ d.rows) && decide (d.rows ≤ 1000000))
def catMay (c:List Df):Bool:=decide (1 ≤ c.length) && decide (c.length ≤ 4) && c.all Df.may
def dfO:Df:=⟨0,0⟩
def tabCols (c:List Df) (t:Int):Int:=if 0 ≤ t ∧ t < c.length then (c.getD t.toNat dfO).cols else 0
def isCol (c:List Df) (q:Qy) (id:Int):Bool:=decide (0 ≤ id) && decide (id ≤ 15) && decide (id / 4 < q.occ.length) && decide (id % 4 < tabCols c (q.occ.getD (id / 4).toNat (-1)))
def colsIn (c:List Df) (q:Qy) (is:Nat → Bool):List Int:=(upto 16).filter fun id=>isCol c q id && is (id / 4).toNat
def tabOk (c:List Df) (t:Int):Bool:=decide (0 ≤ t) && decide (t < c.length)
def within (l of:List Int):Bool:=l.all fun n=>of.contains n
def endMay (q:Qy) (cols:List Int):Bool :=
 if q.by_ = -1 then decide (1 ≤ q.out.length) && decide (q.out.length ≤ 8) && decide q.out.Nodup && within q.out cols && decide (q.sums.length = 0) && (decide (q.ord = -1) || q.out.contains q.ord)
 else within [q.by_] cols && decide (q.sums.length ≤ 4) && within q.sums cols && decide (q.out.length = 0) && (decide (q.ord = -1) || decide (q.ord = q.by_))
def exIn (cols:List Int) (e:Ex):Bool:=!decide (e.cols.length = 0) && within e.cols cols
def Qy.may (c:List Df) (q:Qy):Bool :=
 catMay c && decide (1 ≤ q.occ.length) && decide (q.occ.length ≤ 4) && q.occ.all (tabOk c) && decide (q.p.length ≤ 6) && q.p.all (exIn (colsIn c q fun _=>true)) && endMay q (colsIn c q fun _=>true)
def hasOcc (e:Ex) (i:Nat):Bool:=e.cols.any fun c=>decide (c / 4 = i)
def setE (e:Ex):Int:=ofBits (hasOcc e)
def exO:Ex:=.mk 0 0 0 0 []
def idxF (p:Ex → Bool) (P:List Ex):List Int:=(upto P.length).filter fun i=>p (P.getD i.toNat exO)
def ownT (s:Int) (e:Ex):Bool:=holdsI s (setE e)
def newT (a b:Int) (e:Ex):Bool:=ownT (bor .i64 a b) e && !ownT a e && !ownT b e
def Qy.own (q:Qy) (s:Int):List Int:=idxF (ownT s) q.p
def Qy.new (q:Qy) (a b:Int):List Int:=idxF (newT a b) q.p
theorem setE_range (e:Ex):0 ≤ setE e ∧ setE e ≤ 15:=ofBits_range _
theorem setE_bit (e:Ex) (i:Nat) (hi:i < 4):bitI (setE e) i = hasOcc e i:=ofBits_bit _ i hi
theorem getD_left {α:Type} (l m:List α) (i:Nat) (d:α) (h:i < l.length):(l ++ m).getD i d = l.getD i d:=by
 rw [List.getD_eq_getElem?_getD,List.getD_eq_getElem?_getD,List.getElem?_append_left h]
theorem upto_snoc (n:Nat):upto (n + 1) = upto n ++ [(n:Int)]:=by simp [upto,List.range_succ]
theorem idxF_snoc (p:Ex → Bool) (P:List Ex) (e:Ex):idxF p (P ++ [e]) = idxF p P ++ (if p e then [(P.length:Int)] else []):=by
 unfold idxF
 rw [List.length_append,List.length_singleton,upto_snoc,List.filter_append]
 have h1:(upto P.length).filter (fun i=>p ((P ++ [e]).getD i.toNat exO)) = (upto P.length).filter fun i=>p (P.getD i.toNat exO):=by
  refine List.filter_congr fun i hi=>?_
  rw [upto_mem] at hi
  have:i.toNat < P.length:=by omega
  rw [getD_left _ _ _ _ this]
 rw [h1]
 congr 1
 have h2:(P ++ [e]).getD ((P.length:Int)).toNat exO = e:=by simp
 rw [List.filter_cons,h2]
 split <;> simp_all
theorem snoc_ind {α:Type} {M:List α → Prop} (h0:M []) (h1:∀ l x,M l → M (l ++ [x])) (l:List α):M l:=by
 rw [← List.reverse_reverse l]
 induction l.reverse with
 | nil=>exact h0
 | cons x l ih=>rw [List.reverse_cons]; exact h1 _ _ ih
theorem idxF_mem (p:Ex → Bool) (P:List Ex) (i:Int):i ∈ idxF p P ↔ 0 ≤ i ∧ i < P.length ∧ p (P.getD i.toNat exO) = true:=by
 rw [idxF,List.mem_filter,upto_mem,and_assoc]
theorem holdsI_iff (s t:Int):holdsI s t = true ↔ ∀ i,i < 4 → bitI t i = true → bitI s i = true:=by
 rw [holdsI,List.all_eq_true]
 constructor
 ·intro h i hi ht
  have:=h i (List.mem_range.2 hi)
  simpa [ht] using this
 ·intro h i hi
  have:=h i (List.mem_range.1 hi)
  cases ht:bitI t i
  ·rfl
  ·simp [this ht]
theorem ownT_iff (s:Int) (e:Ex):ownT s e = true ↔ ∀ i,i < 4 → hasOcc e i = true → bitI s i = true:=by
 rw [ownT,holdsI_iff]
 constructor
 ·intro h i hi ht
  exact h i hi (by rw [setE_bit e i hi]; exact ht)
 ·intro h i hi ht
  exact h i hi (by rw [← setE_bit e i hi]; exact ht)
def disjS (a b:Int):Prop:=∀ i,i < 4 → ¬ (bitI a i = true ∧ bitI b i = true)
theorem apart_band {a b:Int} (h:band .i64 a b = 0):disjS a b:=by
 intro i hi ⟨h1,h2⟩
 have:=band_bit a b i hi
 rw [h,h1,h2] at this
 have hz:bitI 0 i = false:=by simp [bitI]
 rw [hz] at this
 cases this
def ind (b:Bool):Nat:=if b then 1 else 0
theorem may_split {c:List Df} {q:Qy} (h:q.may c = true):catMay c = true ∧ 1 ≤ q.occ.length ∧ q.occ.length ≤ 4 ∧ (∀ t ∈ q.occ,0 ≤ t ∧ t < c.length) ∧ q.p.length ≤ 6 ∧ (∀ e ∈ q.p,e.cols ≠ [] ∧ ∀ x ∈ e.cols,isCol c q x = true) ∧ endMay q (colsIn c q fun _=>true) = true:=by
 simp only [Qy.may,Bool.and_eq_true,decide_eq_true_eq,List.all_eq_true] at h
 obtain ⟨⟨⟨⟨⟨⟨h1,h2⟩,h3⟩,h4⟩,h5⟩,h6⟩,h7⟩:=h
 refine ⟨h1,h2,h3,fun t ht=>?_,h5,fun e he=>?_,h7⟩
 ·have:=h4 t ht
  simpa [tabOk] using this
 ·have:=h6 e he
  simp only [exIn,Bool.and_eq_true,Bool.not_eq_true',decide_eq_false_iff_not,within,List.all_eq_true,List.contains_iff_mem] at this
  refine ⟨fun e0=>this.1 (by rw [e0]; rfl),fun x hx=>?_⟩
  have hx:=this.2 x hx
  simp only [colsIn,List.mem_filter,Bool.and_true] at hx
  exact hx.2
theorem isCol_range {c:List Df} {q:Qy} {id:Int} (h:isCol c q id = true):0 ≤ id ∧ id ≤ 15 ∧ id / 4 < q.occ.length:=by
 simp only [isCol,Bool.and_eq_true,decide_eq_true_eq] at h
 exact ⟨h.1.1.1,h.1.1.2,h.1.2⟩
end
section
theorem fine_of_may {e:Ex} (h:e.may = true):fineE e = true:=by
 rw [may_eq,Bool.and_eq_true,Bool.and_eq_true] at h
 exact h.1.1
theorem fine_col {c k n:Int} {l:List Ex} (h:fineE (Ex.mk 1 c k n l) = true):l = [] ∧ 0 ≤ c ∧ c ≤ 15:=by
 rw [fineE,Bool.and_eq_true] at h
 obtain ⟨_,_,h3,h4,_⟩:=(part_iff _ _ _ _ _).1 h.1
 have h5:wayHi 1 = 0:=by decide
 rw [h5] at h3
 refine ⟨List.length_eq_zero_iff.1 (by omega),by omega,by omega⟩
theorem cols_mem {e:Ex} (h:e.may = true) (c:Int):c ∈ e.cols ↔ c ∈ colsOf e:=by
 rw [cols_eq,if_pos h]
 exact uniq_mem _ c
theorem pair_spec {e:Ex} (his:e.pair.2.2 = true):e.may = true ∧ e.pair.1 ≠ e.pair.2.1 ∧ (0 ≤ e.pair.1 ∧ e.pair.1 ≤ 15) ∧ (0 ≤ e.pair.2.1 ∧ e.pair.2.1 ≤ 15) ∧ ∀ c,c ∈ e.cols ↔ c = e.pair.1 ∨ c = e.pair.2.1:=by
 obtain ⟨op,col,k,n,l⟩:=e
 unfold Ex.pair at his
 split at his
 ·rename_i op' col' k' n' x y heq
  injection heq with e1 e2 e3 e4 e5
  subst e1 e2 e3 e4 e5
  split at his
  ·rename_i hc
   have hp:(Ex.mk op col k n [x,y]).pair = (x.col,y.col,true):=by rw [Ex.pair,if_pos hc]
   simp only [Bool.and_eq_true,decide_eq_true_eq,Bool.not_eq_true',decide_eq_false_iff_not] at hc
   obtain ⟨⟨⟨⟨hmay,c1⟩,c2⟩,c3⟩,c4⟩:=hc
   have hx:=fine_of_may (may_part hmay (x:=x) (by simp))
   have hy:=fine_of_may (may_part hmay (x:=y) (by simp))
   obtain ⟨xo,xc,xk,xn,xl⟩:=x
   obtain ⟨yo,yc,yk,yn,yl⟩:=y
   simp only [Ex.op] at c2 c3
   subst c1 c2 c3
   obtain ⟨rfl,x1,x2⟩:=fine_col hx
   obtain ⟨rfl,y1,y2⟩:=fine_col hy
   rw [hp]
   dsimp only [Ex.col] at c4 ⊢
   refine ⟨hmay,c4,⟨x1,x2⟩,⟨y1,y2⟩,fun c=>?_⟩
   rw [cols_mem hmay]
   simp [colsOf,colsOfL]
  ·cases his
 ·cases his
theorem pair_occ {e:Ex} (his:e.pair.2.2 = true) (i:Nat):hasOcc e i = (decide (e.pair.1 / 4 = i) || decide (e.pair.2.1 / 4 = i)):=by
 obtain ⟨_,_,_,_,h⟩:=pair_spec his
 rw [Bool.eq_iff_iff,hasOcc,List.any_eq_true,Bool.or_eq_true,decide_eq_true_eq,decide_eq_true_eq]
 constructor
 ·rintro ⟨c,hc,hd⟩
  rw [decide_eq_true_eq] at hd
  rcases (h c).1 hc with rfl | rfl
  ·exact .inl hd
  ·exact .inr hd
 ·rintro (h1 | h1)
  ·exact ⟨_,(h _).2 (.inl rfl),decide_eq_true h1⟩
  ·exact ⟨_,(h _).2 (.inr rfl),decide_eq_true h1⟩
def bitC (s c:Int):Bool:=bitI s (c / 4).toNat
def pairOf (a b:Int) (e:Ex):List (Int × Int) :=
 if e.pair.2.2 then
  if bitC a e.pair.1 && bitC b e.pair.2.1 then [(e.pair.1,e.pair.2.1)] else if bitC a e.pair.2.1 && bitC b e.pair.1 then [(e.pair.2.1,e.pair.1)] else []
 else []
def pairsF (a b:Int) (P:List Ex) (l:List Int):List (Int × Int):=l.flatMap fun i=>pairOf a b (P.getD i.toNat exO)
def Qy.pairs (q:Qy) (a b:Int):List (Int × Int):=pairsF a b q.p (q.new a b)
def ordOne (e:Ex):List Int:=if e.pair.2.2 then [e.pair.1,e.pair.2.1] else []
def ordEnd (id:Int):List Int:=if 0 ≤ id ∧ id ≤ 15 then [id] else []
def Qy.ordAll (q:Qy):List Int:=[-1] ++ q.p.flatMap ordOne ++ ordEnd q.by_ ++ ordEnd q.ord
def Qy.orders (q:Qy):List Int:=uniq q.ordAll
theorem own_pair {s:Int} {e:Ex} (his:e.pair.2.2 = true):ownT s e = (bitC s e.pair.1 && bitC s e.pair.2.1):=by
 obtain ⟨_,_,h1,h2,_⟩:=pair_spec his
 rw [Bool.eq_iff_iff,ownT_iff,Bool.and_eq_true]
 constructor
 ·intro h
  refine ⟨h (e.pair.1 / 4).toNat (by omega) ?_,h (e.pair.2.1 / 4).toNat (by omega) ?_⟩
  ·rw [pair_occ his,decide_eq_true (by omega),Bool.true_or]
  ·rw [pair_occ his,decide_eq_true (p:=e.pair.2.1 / 4 = _) (by omega),Bool.or_true]
 ·rintro ⟨h3,h4⟩ i hi h
  rw [pair_occ his,Bool.or_eq_true,decide_eq_true_eq,decide_eq_true_eq] at h
  rcases h with h | h
  ·have:i = (e.pair.1 / 4).toNat:=by omega
   subst this; exact h3
  ·have:i = (e.pair.2.1 / 4).toNat:=by omega
   subst this; exact h4
theorem apart_c {a b:Int} (h:disjS a b) {c:Int} (h0:0 ≤ c) (h1:c ≤ 15):¬ (bitC a c = true ∧ bitC b c = true):=h _ (by omega)
theorem bor_c (a b c:Int) (h0:0 ≤ c) (h1:c ≤ 15):bitC (bor .i64 a b) c = (bitC a c || bitC b c):=bor_bit a b _ (by omega)
theorem pairOf_new {a b:Int} (h:disjS a b) {e:Ex} (hn:newT a b e = true):pairOf b a e = (pairOf a b e).map Prod.swap ∧
  ((e.pair.2.2 = false ∧ pairOf a b e = []) ∨ e.pair.2.2 = true ∧ ∃ x y,pairOf a b e = [(x,y)] ∧ (0 ≤ x ∧ x ≤ 15) ∧ (0 ≤ y ∧ y ≤ 15) ∧ bitC a x = true ∧ bitC b y = true ∧ x ≠ y ∧ ((x = e.pair.1 ∧ y = e.pair.2.1) ∨ (x = e.pair.2.1 ∧ y = e.pair.1))):=by
 by_cases his:e.pair.2.2 = true
 ·obtain ⟨_,hne,h1,h2,_⟩:=pair_spec his
  simp only [newT,own_pair his,bor_c _ _ _ h1.1 h1.2,bor_c _ _ _ h2.1 h2.2,Bool.and_eq_true,Bool.or_eq_true,Bool.not_eq_true'] at hn
  have hx:=apart_c h h1.1 h1.2
  have hy:=apart_c h h2.1 h2.2
  unfold pairOf
  rw [if_pos his,if_pos his]
  obtain ⟨⟨hn1,hn2⟩,hn3⟩:=hn
  cases ha1:bitC a e.pair.1 <;> cases ha2:bitC a e.pair.2.1 <;> cases hb1:bitC b e.pair.1 <;> cases hb2:bitC b e.pair.2.1 <;> simp_all
  ·exact ⟨_,_,⟨rfl,rfl⟩,h2,h1,ha2,hb1,fun h=>hne h.symm, .inr ⟨rfl,rfl⟩⟩
  ·exact ⟨_,_,⟨rfl,rfl⟩,h1,h2,ha1,hb2,hne, .inl ⟨rfl,rfl⟩⟩
 ·have h0:e.pair.2.2 = false:=Bool.eq_false_iff.2 his
  unfold pairOf
  rw [if_neg his,if_neg his]
  exact ⟨rfl, .inl ⟨h0,rfl⟩⟩
theorem flat_len {α β:Type} (f:α → List β):∀ l:List α,(∀ x ∈ l,(f x).length ≤ 1) → (l.flatMap f).length ≤ l.length
 | [],_=>Nat.le_refl _
 | x :: l,h=>by
  rw [List.flatMap_cons,List.length_append,List.length_cons]
  have:=flat_len f l fun y hy=>h y (by simp [hy])
  have:=h x (by simp)
  omega
theorem pairOf_len (a b:Int) (e:Ex):(pairOf a b e).length ≤ 1:=by unfold pairOf; split <;> (try split) <;> (try split) <;> simp
theorem pairs_len (q:Qy) (a b:Int):(q.pairs a b).length ≤ (q.new a b).length:=flat_len _ _ fun i _=>pairOf_len _ _ _
theorem new_mem {q:Qy} {a b i:Int} (h:i ∈ q.new a b):newT a b (q.p.getD i.toNat exO) = true ∧ q.p.getD i.toNat exO ∈ q.p:=by
 rw [Qy.new,idxF_mem] at h
 refine ⟨h.2.2, ?_⟩
 have hlt:i.toNat < q.p.length:=by omega
 rw [List.getD_eq_getElem?_getD,List.getElem?_eq_getElem hlt]
 exact List.getElem_mem hlt
theorem ord_mem (q:Qy) (x:Int):x ∈ q.orders ↔ x = -1 ∨ (∃ e ∈ q.p,e.pair.2.2 = true ∧ (x = e.pair.1 ∨ x = e.pair.2.1)) ∨ (0 ≤ x ∧ x ≤ 15 ∧ (x = q.by_ ∨ x = q.ord)):=by
 rw [Qy.orders,uniq_mem,Qy.ordAll]
 simp only [List.mem_append,List.mem_singleton,List.mem_flatMap,or_assoc]
 have h1:∀ e:Ex,x ∈ ordOne e ↔ e.pair.2.2 = true ∧ (x = e.pair.1 ∨ x = e.pair.2.1):=by
  intro e
  unfold ordOne
  split <;> simp_all
 have h2:∀ id:Int,x ∈ ordEnd id ↔ 0 ≤ x ∧ x ≤ 15 ∧ x = id:=by
  intro id
  unfold ordEnd
  split
  ·rw [List.mem_singleton]; omega
  ·simp only [List.not_mem_nil,false_iff]; omega
 simp only [h1,h2]
 refine or_congr Iff.rfl (or_congr Iff.rfl ?_)
 omega
theorem pairs_mem {q:Qy} {a b:Int} (h:disjS a b) {p:Int × Int} (hp:p ∈ q.pairs a b) :
  (0 ≤ p.1 ∧ p.1 ≤ 15) ∧ (0 ≤ p.2 ∧ p.2 ≤ 15) ∧ bitC a p.1 = true ∧ bitC b p.2 = true ∧ p.1 ≠ p.2 ∧ p.1 ∈ q.orders ∧ p.2 ∈ q.orders:=by
 unfold Qy.pairs pairsF at hp
 rw [List.mem_flatMap] at hp
 obtain ⟨i,hi,hp⟩:=hp
 obtain ⟨hn,hm⟩:=new_mem hi
 rcases (pairOf_new h hn).2 with ⟨_,h0⟩ | ⟨his,x,y,h0,h1,h2,h3,h4,h5,h6⟩
 ·rw [h0] at hp; cases hp
 ·rw [h0,List.mem_singleton] at hp
  subst hp
  refine ⟨h1,h2,h3,h4,h5, ?_, ?_⟩
  ·rw [ord_mem]
   exact .inr (.inl ⟨_,hm,his,h6.elim (fun h=>.inl h.1) fun h=>.inr h.1⟩)
  ·rw [ord_mem]
   exact .inr (.inl ⟨_,hm,his,h6.elim (fun h=>.inr h.2) fun h=>.inl h.2⟩)
end
section
def tabOf (c:List Df) (q:Qy) (o:Nat):Int:=tabCols c (q.occ.getD o (-1))
def colsFrom (o:Nat) (n:Nat):List Int:=(upto n).map fun i=>4 * (o:Int) + i
def colsTo (c:List Df) (q:Qy) (is:Nat → Bool):Nat → List Int
 | 0=>[]
 | k + 1=>colsTo c q is k ++ (if is k then colsFrom k (tabOf c q k).toNat else [])
theorem colsFrom_snoc (o n:Nat):colsFrom o (n + 1) = colsFrom o n ++ [4 * (o:Int) + n]:=by rw [colsFrom,upto_snoc,List.map_append]; rfl
theorem colsFrom_mem (o n:Nat) (x:Int):x ∈ colsFrom o n ↔ 4 * (o:Int) ≤ x ∧ x < 4 * o + n:=by
 rw [colsFrom,List.mem_map]
 constructor
 ·rintro ⟨i,hi,rfl⟩
  rw [upto_mem] at hi
  omega
 ·intro h
  exact ⟨x - 4 * o,(upto_mem _ _).2 (by omega),by omega⟩
theorem colsFrom_pw (o n:Nat):(colsFrom o n).Pairwise (· < ·):=by
 rw [colsFrom,List.pairwise_map]
 exact (upto_pw n).imp fun h=>by omega
theorem tab_range {c:List Df} (h:catMay c = true) (t:Int):0 ≤ tabCols c t ∧ tabCols c t ≤ 4:=by
 unfold tabCols
 split
 ·rename_i h1
  have hlt:t.toNat < c.length:=by omega
  rw [List.getD_eq_getElem?_getD,List.getElem?_eq_getElem hlt,Option.getD_some]
  simp only [catMay,Bool.and_eq_true,List.all_eq_true] at h
  have h3:=h.2 _ (List.getElem_mem hlt)
  simp only [Df.may,Bool.and_eq_true,decide_eq_true_eq] at h3
  omega
 ·omega
theorem colsTo_mem {c:List Df} (h:catMay c = true) (q:Qy) (is:Nat → Bool):∀ k (x:Int),x ∈ colsTo c q is k ↔ 0 ≤ x ∧ x < 4 * (k:Int) ∧ is (x / 4).toNat = true ∧ x % 4 < tabOf c q (x / 4).toNat
 | 0,x=>by
  rw [colsTo]
  simp only [List.not_mem_nil,false_iff]
  omega
 | k + 1,x=>by
  rw [colsTo,List.mem_append,colsTo_mem h q is k]
  have hr:=tab_range h (q.occ.getD k (-1))
  have hin:(x ∈ if is k = true then colsFrom k (tabOf c q k).toNat else []) ↔ is k = true ∧ 4 * (k:Int) ≤ x ∧ x < 4 * k + tabOf c q k:=by
   have ht:((tabOf c q k).toNat:Int) = tabOf c q k:=Int.toNat_of_nonneg hr.1
   split
   ·rename_i hk
    rw [colsFrom_mem,ht]
    simp [hk]
   ·rename_i hk
    simp [hk]
  rw [hin]
  have ht4:tabOf c q k ≤ 4:=hr.2
  constructor
  ·rintro (⟨h1,h2,h3⟩ | ⟨h1,h2,h3⟩)
   ·exact ⟨h1,by omega,h3⟩
   ·have e:(x / 4).toNat = k:=by omega
    rw [e]
    exact ⟨by omega,by omega,h1,by omega⟩
  ·rintro ⟨h1,h2,h3,h4⟩
   by_cases hx:x < 4 * (k:Int)
   ·exact .inl ⟨h1,hx,h3,h4⟩
   ·have e:(x / 4).toNat = k:=by omega
    rw [e] at h3 h4
    exact .inr ⟨h3,by omega,by omega⟩
theorem colsTo_pw {c:List Df} (h:catMay c = true) (q:Qy) (is:Nat → Bool):∀ k,(colsTo c q is k).Pairwise (· < ·)
 | 0=>List.Pairwise.nil
 | k + 1=>by
  rw [colsTo,List.pairwise_append]
  refine ⟨colsTo_pw h q is k, ?_,fun x hx y hy=>?_⟩
  ·split
   ·exact colsFrom_pw _ _
   ·exact List.Pairwise.nil
  ·have h1:=((colsTo_mem h q is k x).1 hx).2.1
   split at hy
   ·have:=(colsFrom_mem _ _ _).1 hy
    omega
   ·cases hy
theorem colsTo_eq {c:List Df} (h:catMay c = true) (q:Qy) (is:Nat → Bool):colsTo c q is (min q.occ.length 4) = colsIn c q is:=by
 refine pw_ext (colsTo_pw h q is _) ((upto_pw 16).filter _) fun x=>?_
 change _ ↔ x ∈ colsIn c q is
 rw [colsTo_mem h,colsIn,List.mem_filter,upto_mem,isCol]
 simp only [Bool.and_eq_true,decide_eq_true_eq]
 constructor
 ·rintro ⟨h1,h2,h3,h4⟩
  exact ⟨by omega,⟨⟨⟨h1,by omega⟩,by omega⟩,h4⟩,h3⟩
 ·rintro ⟨h1,⟨⟨⟨h2,h3⟩,h4⟩,h5⟩,h6⟩
  exact ⟨h2,by omega,h6,h5⟩
end
section
def setTo (p:Nat → Bool):Nat → Int
 | 0=>0
 | k + 1=>setTo p k + (if p k then 2 ^ k else 0)
theorem setTo_four (p:Nat → Bool):setTo p 4 = ofBits p:=by
 simp only [setTo,ofBits,Int.zero_add]
 rfl
theorem new_R (q:Qy) (a b:Int):(q.own (bor .i64 a b)).filter (fun i=>!(q.own a).contains i && !(q.own b).contains i) = q.new a b:=by
 have hc:∀ s i,i ∈ q.own (bor .i64 a b) → (q.own s).contains i = ownT s (q.p.getD i.toNat exO):=by
  intro s i hi
  rw [Qy.own,idxF_mem] at hi
  rw [Bool.eq_iff_iff,List.contains_iff_mem,Qy.own,idxF_mem]
  exact ⟨fun h=>h.2.2,fun h=>⟨hi.1,hi.2.1,h⟩⟩
 rw [List.filter_congr (q:=fun i=>!ownT a (q.p.getD i.toNat exO) && !ownT b (q.p.getD i.toNat exO)) fun i hi=>by rw [hc a i hi,hc b i hi]]
 rw [Qy.own,Qy.new,idxF,idxF,List.filter_filter]
 refine List.filter_congr fun i _=>?_
 unfold newT
 cases ownT (bor .i64 a b) (q.p.getD i.toNat exO) <;> cases ownT a (q.p.getD i.toNat exO) <;> cases ownT b (q.p.getD i.toNat exO) <;> rfl
theorem long_nodup:∀ {l m:List Int},m.Nodup → (∀ x ∈ m,x ∈ l) → l.length ≤ m.length → l.Nodup
 | [],_,_,_,_=>List.nodup_nil
 | x :: l,m,hm,hs,hl=>by
  rw [List.length_cons] at hl
  by_cases hx:x ∈ l
  ·have:=nodup_len hm (m:=l) fun y hy=>by
    rcases List.mem_cons.1 (hs y hy) with rfl | h
    ·exact hx
    ·exact h
   omega
  ·rw [List.nodup_cons]
   refine ⟨hx,long_nodup (m:=m.erase x) (hm.erase x) (fun y hy=>?_) ?_⟩
   ·have hym:=List.mem_of_mem_erase hy
    rcases List.mem_cons.1 (hs y hym) with rfl | h
    ·exact absurd hy (List.Nodup.not_mem_erase hm)
    ·exact h
   ·by_cases hxm:x ∈ m
    ·rw [List.length_erase_of_mem hxm]; omega
    ·rw [List.erase_of_not_mem hxm]; omega
theorem once_iff (l:List Int):decide ((uniq l).length = l.length) = decide l.Nodup:=by
 rw [decide_eq_decide]
 constructor
 ·intro h
  exact long_nodup (pw_nodup (uniq_pw l)) (fun x hx=>(uniq_mem l x).1 hx) (by omega)
 ·intro h
  exact Nat.le_antisymm (uniq_len l) (nodup_len h fun x hx=>(uniq_mem l x).2 hx)
theorem colsIn_mem (c:List Df) (q:Qy) (x:Int):(colsIn c q fun _=>true).contains x = isCol c q x:=by
 rw [Bool.eq_iff_iff,List.contains_iff_mem,colsIn,List.mem_filter,upto_mem,Bool.and_true]
 constructor
 ·exact fun h=>h.2
 ·intro h
  have:=isCol_range h
  exact ⟨by omega,h⟩
theorem within_isCol (c:List Df) (q:Qy) (l:List Int):within l (colsIn c q fun _=>true) = l.all (isCol c q):=by
 unfold within
 exact congrArg _ (funext fun x=>colsIn_mem c q x)
theorem place_iff (l:List Int):(∀ (i:Nat) (h:i < l.length),idx (fun x=>decide (l[i] = x)) l = i) ↔ l.Nodup:=by
 rw [List.nodup_iff_pairwise_ne,List.pairwise_iff_getElem]
 constructor
 ·intro h i j hi hj hij he
  have h1:=h i hi
  have h2:=h j hj
  rw [← he,h1] at h2
  omega
 ·intro h i hi
  refine idx_hit (p:=fun x=>decide (l[i] = x)) hi (fun j hj hji=>?_) (by simp)
  rw [decide_eq_false_iff_not]
  exact fun e=>h j i hj hi hji e.symm
end
attribute [local push_cast] aops_cons aops_nil aopG_none aopG_some aopP_eq aopE_eq aopC_eq aopE?_eq aopC?_eq aopB_eq aopB?_eq abr anilq gopP_eq gopL_eq ahead_cons ahead_nil ahdG_none ahdG_some ahdP_eq ahdN_eq ahdC_eq ahdN?_eq ahdS_eq ahdS?_eq astoreN ahdC?_eq ghdP_eq ghdC_eq ghdC?_eq ghdZ_f ghdZ_t ahdI_eq ahdI?_eq ghdN?_eq aim_nil aim_cons isIn_nil isIn_none isIn_cons aimm aheP_eq aheA_eq aheC_eq aheC?_eq aheI?_eq aheA?_eq gheP_eq gheC_eq gheC?_eq gheZ_eq aheG_none aheG_some aheff_cons aheff_nil aapp gro_rsl gro_lit gro_esl opt_some opt_none no_eq acondT_true acondT_false acondT_lit aw_skip aw_region aw_regionD aw_seq aw_cond aw_block aw_loop aw_exit aw_label aw_ret thn_normal thn_exit thn_ret inb_normal inb_exit inb_ret qret_ret qret_normal gcond apure aeff anew acallee ares aresT aresL aresC ares1 qfin_eq ev ofV evL gokL tget tput_some tput_none initT abin aint aun aload afaddr aiaddr afield aindex aextract apick pickv_lit Bool.or_false Bool.false_or Bool.or_true Bool.true_or imp_self aslice chunk roomB abound aconv abuild afill splice alen aminmax abuiltin anil apart Value.oneCell' astore aappend srcEs abuildSlice amakeSlice amapPut alookup aput afind mget keyV sameV_int Option.isSome_some Option.isSome_none cond_true cond_false asets isEq plus_obj plus_nxt plus_add plus_set plus_del IntKind.bits Option.map_some Option.map_none Option.bind_some Option.bind_none Option.join_some Option.getD_some Option.getD_none Option.toList List.getElem?_toArray List.getElem?_cons_zero List.getElem?_cons_succ List.getElem?_nil List.length_cons List.length_nil List.length_map List.head?_cons List.cons_append List.nil_append List.append_nil List.map_cons List.map_nil List.getD_cons_zero List.getD_cons_succ List.replicate_succ List.replicate_zero List.set_cons_zero List.set_cons_succ List.take_succ_cons List.take_zero List.drop_succ_cons List.drop_zero List.all_cons List.all_nil Nat.zero_add if_true if_false true_and and_true false_and and_false true_implies implies_true forall_const Bool.and_true Bool.true_and Bool.false_and Bool.and_false Bool.true_beq Bool.false_beq Bool.not_not beq_tt beq_ff Int.toNat_natCast decide_true decide_false Bool.not_true Bool.not_false Bool.true_eq_false Bool.false_eq_true false_implies exists_prop eq_self bne_self_eq_false beq_self_eq_true decide_eq_true_eq decide_eq_false_iff_not Bool.not_eq_true' Bool.not_eq_false' AV.int AV.bool AV.nilS ne_eq not_false_eq_true not_true_eq_false exists_eq_left exists_eq_left' Nat.lt_irrefl core_lit grd_lit acells_lit one_lit core_agg grd_agg acells_agg one_agg core_tup grd_tup acells_tup one_tup core_sl grd_sl acells_sl one_sl core_esl grd_esl acells_esl one_esl core_rsl grd_rsl acells_rsl one_rsl core_ptr grd_ptr acells_ptr one_ptr core_iptr grd_iptr acells_iptr one_iptr core_clo grd_clo acells_clo one_clo core_mp grd_mp acells_mp one_mp core_any grd_any acells_any one_any core_gv grd_gv fit_agg fit_lit fit_sl fit_esl fit_rsl fit_ptr fit_iptr fit_clo fit_mp retq_ret retq_normal set_nxt set_set plus_obj_set plus_set_set app_get0 app_get app_set0 app_set List.append_assoc List.length_append List.length_set Nat.lt_add_one Nat.add_lt_add_iff_right Nat.lt_add_right_iff_pos Nat.add_lt_add_iff_left List.mem_cons List.not_mem_nil or_false forall_eq forall_eq_or_imp lt_s0 lt_s1 lt_s2 lt_s3 lt_s4 lt_s5 lt_s6 lt_s7 lt_s8 pickv_t pickv_f or_nand or_nand2 imp_and_l SealT SealOs sealO_cells sl_lit sl_any sl_agg sl_tup sl_sl sl_rsl slO sl_esl sl_nil sl_eslesl sl_eslnil sl_rslrsl sl_eslrsl sl_nilrsl sl_ptr sl_iptr sl_ptri slP sl_clo sl_mp sl_gv sll_nil sll_cons slll_nil slll_cons shut_eq shutO Option.join_none Fn.func.injEq and_self sealL_self sealLL_self seal_self PureL PureLL Pure Nat.le_refl Nat.zero_le AV.lit.injEq Value.int.injEq Value.bool.injEq false_or or_true true_or Int.natCast_zero Int.ofNat_zero Int.cast_ofNat_Int Int.natCast_add Int.natCast_one Option.some.injEq piL_is sop_nil sop_cons sop_none sop_some sopO_some sop_new shut_pi shutL_nil shutL_cons exQ_exit exQ_ret exQ_normal Go.Sim.Tryz.ty_load1 Go.Sim.Tryz.ty_zero1 Go.Sim.Tryz.ty_load2 Go.Sim.Tryz.ty_zero2 Go.Sim.Tryz.ty_und2 Go.Sim.Tryz.ty_load3 Go.Sim.Tryz.ty_zero3 Go.Sim.Tryz.ty_und3 Go.Sim.Tryz.ty_load4 Go.Sim.Tryz.ty_zero4 Go.Sim.Tryz.ty_und4 Go.Sim.Tryz.ty_load5 Go.Sim.Tryz.ty_zero5 Go.Sim.Tryz.ty_und5 Go.Sim.Tryz.ty_load9 Go.Sim.Tryz.ty_zero9 Go.Sim.Tryz.ty_und9 Go.Sim.Tryz.ty_load21 Go.Sim.Tryz.ty_zero21 Go.Sim.Tryz.ty_und21 Go.Sim.Tryz.ty_load22 Go.Sim.Tryz.ty_zero22 Go.Sim.Tryz.ty_el22 Go.Sim.Tryz.ty_zeroE22 Go.Sim.Tryz.ty_load24 Go.Sim.Tryz.ty_zero24 Go.Sim.Tryz.ty_fld24_0 Go.Sim.Tryz.ty_part24_0 Go.Sim.Tryz.ty_struct24 Go.Sim.Tryz.ty_load25 Go.Sim.Tryz.ty_zero25 Go.Sim.Tryz.ty_el25 Go.Sim.Tryz.ty_zeroE25 Go.Sim.Tryz.ty_load26 Go.Sim.Tryz.ty_zero26 Go.Sim.Tryz.ty_el26 Go.Sim.Tryz.ty_zeroE26 Go.Sim.Tryz.ty_load28 Go.Sim.Tryz.ty_zero28 Go.Sim.Tryz.ty_fld28_0 Go.Sim.Tryz.ty_part28_0 Go.Sim.Tryz.ty_fld28_1 Go.Sim.Tryz.ty_part28_1 Go.Sim.Tryz.ty_fld28_2 Go.Sim.Tryz.ty_part28_2 Go.Sim.Tryz.ty_fld28_3 Go.Sim.Tryz.ty_part28_3 Go.Sim.Tryz.ty_fld28_4 Go.Sim.Tryz.ty_part28_4 Go.Sim.Tryz.ty_fld28_5 Go.Sim.Tryz.ty_part28_5 Go.Sim.Tryz.ty_struct28 Go.Sim.Tryz.ty_load29 Go.Sim.Tryz.ty_zero29 Go.Sim.Tryz.ty_arr29 Go.Sim.Tryz.ty_part29_0 Go.Sim.Tryz.ty_part29_1 Go.Sim.Tryz.ty_struct29 Go.Sim.Tryz.ty_load30 Go.Sim.Tryz.ty_zero30 Go.Sim.Tryz.ty_el30 Go.Sim.Tryz.ty_zeroE30 Go.Sim.Tryz.ty_load32 Go.Sim.Tryz.ty_zero32 Go.Sim.Tryz.ty_fld32_0 Go.Sim.Tryz.ty_part32_0 Go.Sim.Tryz.ty_fld32_1 Go.Sim.Tryz.ty_part32_1 Go.Sim.Tryz.ty_fld32_2 Go.Sim.Tryz.ty_part32_2 Go.Sim.Tryz.ty_fld32_3 Go.Sim.Tryz.ty_part32_3 Go.Sim.Tryz.ty_struct32 Go.Sim.Tryz.ty_load37 Go.Sim.Tryz.ty_zero37 Go.Sim.Tryz.ty_el37 Go.Sim.Tryz.ty_zeroE37 Go.Sim.Tryz.ty_load39 Go.Sim.Tryz.ty_zero39 Go.Sim.Tryz.ty_fld39_0 Go.Sim.Tryz.ty_part39_0 Go.Sim.Tryz.ty_fld39_1 Go.Sim.Tryz.ty_part39_1 Go.Sim.Tryz.ty_struct39 Go.Sim.Tryz.ty_load52 Go.Sim.Tryz.ty_zero52 Go.Sim.Tryz.ty_fld52_0 Go.Sim.Tryz.ty_part52_0 Go.Sim.Tryz.ty_fld52_1 Go.Sim.Tryz.ty_part52_1 Go.Sim.Tryz.ty_fld52_2 Go.Sim.Tryz.ty_part52_2 Go.Sim.Tryz.ty_struct52 Go.Sim.Tryz.ty_load55 Go.Sim.Tryz.ty_zero55 Go.Sim.Tryz.ty_load56 Go.Sim.Tryz.ty_zero56 Go.Sim.Tryz.ty_load70 Go.Sim.Tryz.ty_zero70 Go.Sim.Tryz.ty_el70 Go.Sim.Tryz.ty_zeroE70 Go.Sim.Tryz.ty_load76 Go.Sim.Tryz.ty_zero76 Go.Sim.Tryz.ty_el76 Go.Sim.Tryz.ty_zeroE76 Go.Sim.Tryz.ty_load78 Go.Sim.Tryz.ty_zero78 Go.Sim.Tryz.ty_fld78_0 Go.Sim.Tryz.ty_part78_0 Go.Sim.Tryz.ty_struct78 Go.Sim.Tryz.ty_load84 Go.Sim.Tryz.ty_zero84 Go.Sim.Tryz.ty_fld84_0 Go.Sim.Tryz.ty_part84_0 Go.Sim.Tryz.ty_struct84 Go.Sim.Tryz.ty_load85 Go.Sim.Tryz.ty_zero85 Go.Sim.Tryz.ty_load92 Go.Sim.Tryz.ty_zero92 Go.Sim.Tryz.ty_load93 Go.Sim.Tryz.ty_zero93 Go.Sim.Tryz.ty_und93 Go.Sim.Tryz.ty_load95 Go.Sim.Tryz.ty_zero95 Go.Sim.Tryz.ty_und95 Go.Sim.Tryz.ty_load104 Go.Sim.Tryz.ty_zero104 Go.Sim.Tryz.ty_fld104_0 Go.Sim.Tryz.ty_part104_0 Go.Sim.Tryz.ty_fld104_1 Go.Sim.Tryz.ty_part104_1 Go.Sim.Tryz.ty_struct104 Go.Sim.Tryz.ty_load110 Go.Sim.Tryz.ty_zero110 Go.Sim.Tryz.ty_fld110_0 Go.Sim.Tryz.ty_part110_0 Go.Sim.Tryz.ty_fld110_1 Go.Sim.Tryz.ty_part110_1 Go.Sim.Tryz.ty_struct110 Go.Sim.Tryz.ty_load112 Go.Sim.Tryz.ty_zero112 Go.Sim.Tryz.ty_fld112_0 Go.Sim.Tryz.ty_part112_0 Go.Sim.Tryz.ty_fld112_1 Go.Sim.Tryz.ty_part112_1 Go.Sim.Tryz.ty_fld112_2 Go.Sim.Tryz.ty_part112_2 Go.Sim.Tryz.ty_fld112_3 Go.Sim.Tryz.ty_part112_3 Go.Sim.Tryz.ty_struct112 Go.Sim.Tryz.ty_load119 Go.Sim.Tryz.ty_zero119 Go.Sim.Tryz.ty_load123 Go.Sim.Tryz.ty_zero123 Go.Sim.Tryz.ty_fld123_0 Go.Sim.Tryz.ty_part123_0 Go.Sim.Tryz.ty_fld123_1 Go.Sim.Tryz.ty_part123_1 Go.Sim.Tryz.ty_struct123 Go.Sim.Tryz.ty_load124 Go.Sim.Tryz.ty_zero124 Go.Sim.Tryz.ty_el124 Go.Sim.Tryz.ty_zeroE124 Go.Sim.Tryz.ty_load125 Go.Sim.Tryz.ty_zero125 Go.Sim.Tryz.ty_el125 Go.Sim.Tryz.ty_zeroE125 Go.Sim.Tryz.ty_load128 Go.Sim.Tryz.ty_zero128 Go.Sim.Tryz.ty_fld128_0 Go.Sim.Tryz.ty_part128_0 Go.Sim.Tryz.ty_struct128 Go.Sim.Tryz.ty_load135 Go.Sim.Tryz.ty_zero135 Go.Sim.Tryz.ty_und135 Go.Sim.Tryz.ty_load140 Go.Sim.Tryz.ty_zero140 Go.Sim.Tryz.ty_load141 Go.Sim.Tryz.ty_zero141 Go.Sim.Tryz.ty_el141 Go.Sim.Tryz.ty_zeroE141 Go.Sim.Tryz.ty_load148 Go.Sim.Tryz.ty_zero148 Go.Sim.Tryz.ty_load151 Go.Sim.Tryz.ty_zero151 Go.Sim.Tryz.ty_load159 Go.Sim.Tryz.ty_zero159 Go.Sim.Tryz.ty_und159 Go.Sim.Tryz.ty_vzero128 Go.Sim.Tryz.ty_load168 Go.Sim.Tryz.ty_zero168 Go.Sim.Tryz.ty_fld168_0 Go.Sim.Tryz.ty_part168_0 Go.Sim.Tryz.ty_fld168_1 Go.Sim.Tryz.ty_part168_1 Go.Sim.Tryz.ty_fld168_2 Go.Sim.Tryz.ty_part168_2 Go.Sim.Tryz.ty_struct168 Go.Sim.Tryz.ty_load170 Go.Sim.Tryz.ty_zero170 Go.Sim.Tryz.ty_load172 Go.Sim.Tryz.ty_zero172 Go.Sim.Tryz.ty_und172 Go.Sim.Tryz.ty_load179 Go.Sim.Tryz.ty_zero179 Go.Sim.Tryz.ty_und179 Go.Sim.Tryz.ty_load181 Go.Sim.Tryz.ty_zero181 Go.Sim.Tryz.ty_load184 Go.Sim.Tryz.ty_zero184 Go.Sim.Tryz.ty_und184 Go.Sim.Tryz.ty_load188 Go.Sim.Tryz.ty_zero188 Go.Sim.Tryz.ty_load191 Go.Sim.Tryz.ty_zero191
section
attribute [local push_cast] encE_mk encE_take encE_len encV encE_one encEs_pure encE_pure
def encD (d:Df):List AV:=[.lit (.int .i64 d.cols), .lit (.int .i64 d.rows)]
theorem encD_len (d:Df):(encD d).length = 2:=rfl
theorem encD_pure (d:Df):PureL (encD d):=by simp [encD,PureL,Pure]
theorem encDs_pure (l:List Df):PureLL (l.map encD):=by
 rw [pureLL_iff]
 simp only [List.mem_map]
 rintro _ ⟨x,_,rfl⟩
 exact encD_pure x
theorem encDs_get (l:List Df) (i:Nat) (h:i < l.length):(l.map encD).getD i [] = encD l[i]:=getD_map encD l [] i h
theorem cmpD (a b c d:Int):CmpAt Go.Proofs.Tryz.prog 123 [.int .i64 a, .int .i64 b] [.int .i64 c, .int .i64 d] (decide (a = c) && decide (b = d)):=by
 rw [← Bool.and_true (decide (b = d))]
 exact cmp_int2 (f0 := { name := "Cols", type := 3, offset := 0, embedded := false, tag := "", pkgPath := "", byteOffset := 0 }) (f1 := { name := "Rows", type := 3, offset := 1, embedded := false, tag := "", pkgPath := "", byteOffset := 8 }) (n0 := 1) (n1 := 1) (by kernel_rfl) (by kernel_rfl) (by kernel_rfl) (by decide) (by decide) rfl rfl (by kernel_rfl) (by kernel_rfl) (by kernel_rfl) (by kernel_rfl) a b c d
def inI (n low high:Int):Bool:=decide (low ≤ n) && decide (n ≤ high)
theorem in_ok (n low high:Int):Quiet Go.Proofs.Tryz.prog 150 [.int n, .int low, .int high] (.bool (inI n low high)):=by
 refine quiet_of (rs:=#[.tmp 6]) Go.Proofs.Tryz.func150 rfl rfl rfl mixed rfl rfl fun H hs=>?_
 simp -implicitDefEqProofs only [push_cast,Nat.reduceAdd,Nat.reduceSub,Nat.reduceMul,Nat.reduceLT,Nat.reduceLeDiff,Nat.reduceEqDiff,Nat.reduceBEq,reduceCtorEq,reduceIte,Int.reduceLE,Int.reduceLT,Int.reduceNeg,Int.reduceToNat]
 (try simp -implicitDefEqProofs only [push_cast,Nat.reduceAdd,Nat.reduceSub,Nat.reduceMul,Nat.reduceLT,Nat.reduceLeDiff,Nat.reduceEqDiff,Nat.reduceBEq,reduceCtorEq,reduceIte,Int.reduceLE,Int.reduceLT,Int.reduceNeg,Int.reduceToNat])
 simp only [inI]
theorem one_ok (d:Df):Quiet Go.Proofs.Tryz.prog 153 [.agg (encD d)] (.bool d.may):=by
 refine quiet_of (rs:=#[.tmp 2]) Go.Proofs.Tryz.func153 rfl rfl rfl mixed rfl rfl fun H hs=>?_
 simp -implicitDefEqProofs only [push_cast,Nat.reduceAdd,Nat.reduceSub,Nat.reduceMul,Nat.reduceLT,Nat.reduceLeDiff,Nat.reduceEqDiff,Nat.reduceBEq,reduceCtorEq,reduceIte,Int.reduceLE,Int.reduceLT,Int.reduceNeg,Int.reduceToNat,encD,lits,cellsEq,cellEq,cmpD]
 refine gcallq' (.bool (inI d.cols 1 4)) (fun h=>by simp only [Bool.not_eq_true'] at h; exact h) (fun _=>in_ok _ _ _) ?_
 simp -implicitDefEqProofs only [push_cast,Nat.reduceAdd,Nat.reduceSub,Nat.reduceMul,Nat.reduceLT,Nat.reduceLeDiff,Nat.reduceEqDiff,Nat.reduceBEq,reduceCtorEq,reduceIte,Int.reduceLE,Int.reduceLT,Int.reduceNeg,Int.reduceToNat,encD]
 refine gcallq' (.bool (inI d.rows 1 1000000)) (fun h=>by simpa using h) (fun _=>in_ok _ _ _) ?_
 simp -implicitDefEqProofs only [push_cast,Nat.reduceAdd,Nat.reduceSub,Nat.reduceMul,Nat.reduceLT,Nat.reduceLeDiff,Nat.reduceEqDiff,Nat.reduceBEq,reduceCtorEq,reduceIte,Int.reduceLE,Int.reduceLT,Int.reduceNeg,Int.reduceToNat,encD]
 (try simp -implicitDefEqProofs only [push_cast,Nat.reduceAdd,Nat.reduceSub,Nat.reduceMul,Nat.reduceLT,Nat.reduceLeDiff,Nat.reduceEqDiff,Nat.reduceBEq,reduceCtorEq,reduceIte,Int.reduceLE,Int.reduceLT,Int.reduceNeg,Int.reduceToNat])
 simp only [inI,Df.may]
 grind
theorem indexFuncD_ok (l:List Df) (hl:l.length ≤ 140737488355328) (k:Nat) (caps:List AV) (hc:PureL caps) (p:Df → Bool) (hp:∀ v ∈ l,Quiet Go.Proofs.Tryz.prog k (.agg (encD v) :: caps) (.bool (p v))) :
  Quiet Go.Proofs.Tryz.prog 172 [.sl (l.map encD), .clo (.func k) [] caps] (.int (idx p l)):=by
 refine quiet_of (rs:=#[.tmp 4]) Go.Proofs.Tryz.func172 rfl rfl rfl mixed rfl rfl fun H hs=>?_
 simp -implicitDefEqProofs only [push_cast,Nat.reduceAdd,Nat.reduceSub,Nat.reduceMul,Nat.reduceLT,Nat.reduceLeDiff,Nat.reduceEqDiff,Nat.reduceBEq,reduceCtorEq,reduceIte,Int.reduceLE,Int.reduceLT,Int.reduceNeg,Int.reduceToNat]
 refine loop_rule hs (σ:=Nat) (fun i=>i ≤ l.length ∧ ∀ (j:Nat) (h:j < l.length),j < i → p l[j] = false) (fun i=>l.length - i)
  (fun i=>[(0, .sl (l.map encD)),(1, .clo (.func k) [] caps),(7, .int l.length),(8, .int i)]) (fun _=>[]) 0 ⟨by omega,fun j _ h=>by omega⟩ ?_ ?_ ?_
 ·(try simp -implicitDefEqProofs only [push_cast,Nat.reduceAdd,Nat.reduceSub,Nat.reduceMul,Nat.reduceLT,Nat.reduceLeDiff,Nat.reduceEqDiff,Nat.reduceBEq,reduceCtorEq,reduceIte,Int.reduceLE,Int.reduceLT,Int.reduceNeg,Int.reduceToNat,encDs_pure,hc])
 ·(try simp -implicitDefEqProofs only [push_cast,Nat.reduceAdd,Nat.reduceSub,Nat.reduceMul,Nat.reduceLT,Nat.reduceLeDiff,Nat.reduceEqDiff,Nat.reduceBEq,reduceCtorEq,reduceIte,Int.reduceLE,Int.reduceLT,Int.reduceNeg,Int.reduceToNat])
 ·rintro i ⟨h2,h3⟩
  by_cases hi:i < l.length
  ·have hi':((i:Int) < (l.length:Int)) = True:=by simp; omega
   have hi0:(0 ≤ (i:Int)) = True:=by simp
   simp -implicitDefEqProofs only [push_cast,Nat.reduceAdd,Nat.reduceSub,Nat.reduceMul,Nat.reduceLT,Nat.reduceLeDiff,Nat.reduceEqDiff,Nat.reduceBEq,reduceCtorEq,reduceIte,Int.reduceLE,Int.reduceLT,Int.reduceNeg,Int.reduceToNat,hi',hi0,encDs_get l i hi,encD_len]
   refine callq (hp l[i] (List.getElem_mem hi)) ?_
   simp -implicitDefEqProofs only [push_cast,Nat.reduceAdd,Nat.reduceSub,Nat.reduceMul,Nat.reduceLT,Nat.reduceLeDiff,Nat.reduceEqDiff,Nat.reduceBEq,reduceCtorEq,reduceIte,Int.reduceLE,Int.reduceLT,Int.reduceNeg,Int.reduceToNat]
   refine ⟨fun h=>?_,fun h=>?_⟩
   ·(try simp -implicitDefEqProofs only [push_cast,Nat.reduceAdd,Nat.reduceSub,Nat.reduceMul,Nat.reduceLT,Nat.reduceLeDiff,Nat.reduceEqDiff,Nat.reduceBEq,reduceCtorEq,reduceIte,Int.reduceLE,Int.reduceLT,Int.reduceNeg,Int.reduceToNat])
    exact (idx_hit hi h3 h).symm
   ·rw [wrap64 (n:=(i:Int) + 1) (by omega) (by omega)]
    refine next_intro (i + 1) ⟨by omega,fun j hj hji=>?_⟩ (by omega) ?_ ?_
    ·rcases Nat.lt_or_ge j i with h4 | h4
     ·exact h3 j hj h4
     ·obtain rfl:j = i:=by omega
      exact h
    ·(try simp -implicitDefEqProofs only [push_cast,Nat.reduceAdd,Nat.reduceSub,Nat.reduceMul,Nat.reduceLT,Nat.reduceLeDiff,Nat.reduceEqDiff,Nat.reduceBEq,reduceCtorEq,reduceIte,Int.reduceLE,Int.reduceLT,Int.reduceNeg,Int.reduceToNat,encDs_pure,hc])
    ·(try simp -implicitDefEqProofs only [push_cast,Nat.reduceAdd,Nat.reduceSub,Nat.reduceMul,Nat.reduceLT,Nat.reduceLeDiff,Nat.reduceEqDiff,Nat.reduceBEq,reduceCtorEq,reduceIte,Int.reduceLE,Int.reduceLT,Int.reduceNeg,Int.reduceToNat])
  ·have hi':((i:Int) < (l.length:Int)) = False:=by simp; omega
   simp -implicitDefEqProofs only [push_cast,Nat.reduceAdd,Nat.reduceSub,Nat.reduceMul,Nat.reduceLT,Nat.reduceLeDiff,Nat.reduceEqDiff,Nat.reduceBEq,reduceCtorEq,reduceIte,Int.reduceLE,Int.reduceLT,Int.reduceNeg,Int.reduceToNat,hi']
   (try simp -implicitDefEqProofs only [push_cast,Nat.reduceAdd,Nat.reduceSub,Nat.reduceMul,Nat.reduceLT,Nat.reduceLeDiff,Nat.reduceEqDiff,Nat.reduceBEq,reduceCtorEq,reduceIte,Int.reduceLE,Int.reduceLT,Int.reduceNeg,Int.reduceToNat])
   exact (idx_miss fun j hj=>h3 j hj (by omega)).symm
theorem containsFuncD_ok (l:List Df) (hl:l.length ≤ 140737488355328) (k:Nat) (caps:List AV) (hc:PureL caps) (p:Df → Bool) (hp:∀ v ∈ l,Quiet Go.Proofs.Tryz.prog k (.agg (encD v) :: caps) (.bool (p v))) :
  Quiet Go.Proofs.Tryz.prog 151 [.sl (l.map encD), .clo (.func k) [] caps] (.bool (l.any p)):=by
 refine quiet_of (rs:=#[.tmp 4]) Go.Proofs.Tryz.func151 rfl rfl rfl mixed rfl rfl fun H hs=>?_
 simp -implicitDefEqProofs only [push_cast,Nat.reduceAdd,Nat.reduceSub,Nat.reduceMul,Nat.reduceLT,Nat.reduceLeDiff,Nat.reduceEqDiff,Nat.reduceBEq,reduceCtorEq,reduceIte,Int.reduceLE,Int.reduceLT,Int.reduceNeg,Int.reduceToNat]
 refine callq (indexFuncD_ok l hl k caps hc p hp) ?_
 simp -implicitDefEqProofs only [push_cast,Nat.reduceAdd,Nat.reduceSub,Nat.reduceMul,Nat.reduceLT,Nat.reduceLeDiff,Nat.reduceEqDiff,Nat.reduceBEq,reduceCtorEq,reduceIte,Int.reduceLE,Int.reduceLT,Int.reduceNeg,Int.reduceToNat,idx_nonneg]
 (try simp -implicitDefEqProofs only [push_cast,Nat.reduceAdd,Nat.reduceSub,Nat.reduceMul,Nat.reduceLT,Nat.reduceLeDiff,Nat.reduceEqDiff,Nat.reduceBEq,reduceCtorEq,reduceIte,Int.reduceLE,Int.reduceLT,Int.reduceNeg,Int.reduceToNat])
theorem indexFuncI_ok (l:List Int) (hl:l.length ≤ 140737488355328) (k:Nat) (caps:List AV) (hc:PureL caps) (p:Int → Bool) (hp:∀ v ∈ l,Quiet Go.Proofs.Tryz.prog k (.int v :: caps) (.bool (p v))) :
  Quiet Go.Proofs.Tryz.prog 154 [.sl (l.map encI), .clo (.func k) [] caps] (.int (idx p l)):=by
 refine quiet_of (rs:=#[.tmp 4]) Go.Proofs.Tryz.func154 rfl rfl rfl mixed rfl rfl fun H hs=>?_
 simp -implicitDefEqProofs only [push_cast,Nat.reduceAdd,Nat.reduceSub,Nat.reduceMul,Nat.reduceLT,Nat.reduceLeDiff,Nat.reduceEqDiff,Nat.reduceBEq,reduceCtorEq,reduceIte,Int.reduceLE,Int.reduceLT,Int.reduceNeg,Int.reduceToNat]
 refine loop_rule hs (σ:=Nat) (fun i=>i ≤ l.length ∧ ∀ (j:Nat) (h:j < l.length),j < i → p l[j] = false) (fun i=>l.length - i)
  (fun i=>[(0, .sl (l.map encI)),(1, .clo (.func k) [] caps),(7, .int l.length),(8, .int i)]) (fun _=>[]) 0 ⟨by omega,fun j _ h=>by omega⟩ ?_ ?_ ?_
 ·(try simp -implicitDefEqProofs only [push_cast,Nat.reduceAdd,Nat.reduceSub,Nat.reduceMul,Nat.reduceLT,Nat.reduceLeDiff,Nat.reduceEqDiff,Nat.reduceBEq,reduceCtorEq,reduceIte,Int.reduceLE,Int.reduceLT,Int.reduceNeg,Int.reduceToNat,encIs_pure,hc])
 ·(try simp -implicitDefEqProofs only [push_cast,Nat.reduceAdd,Nat.reduceSub,Nat.reduceMul,Nat.reduceLT,Nat.reduceLeDiff,Nat.reduceEqDiff,Nat.reduceBEq,reduceCtorEq,reduceIte,Int.reduceLE,Int.reduceLT,Int.reduceNeg,Int.reduceToNat])
 ·rintro i ⟨h2,h3⟩
  by_cases hi:i < l.length
  ·have hi':((i:Int) < (l.length:Int)) = True:=by simp; omega
   have hi0:(0 ≤ (i:Int)) = True:=by simp
   simp -implicitDefEqProofs only [push_cast,Nat.reduceAdd,Nat.reduceSub,Nat.reduceMul,Nat.reduceLT,Nat.reduceLeDiff,Nat.reduceEqDiff,Nat.reduceBEq,reduceCtorEq,reduceIte,Int.reduceLE,Int.reduceLT,Int.reduceNeg,Int.reduceToNat,hi',hi0,encIs_get l i hi,encI]
   refine callq (hp l[i] (List.getElem_mem hi)) ?_
   simp -implicitDefEqProofs only [push_cast,Nat.reduceAdd,Nat.reduceSub,Nat.reduceMul,Nat.reduceLT,Nat.reduceLeDiff,Nat.reduceEqDiff,Nat.reduceBEq,reduceCtorEq,reduceIte,Int.reduceLE,Int.reduceLT,Int.reduceNeg,Int.reduceToNat]
   refine ⟨fun h=>?_,fun h=>?_⟩
   ·(try simp -implicitDefEqProofs only [push_cast,Nat.reduceAdd,Nat.reduceSub,Nat.reduceMul,Nat.reduceLT,Nat.reduceLeDiff,Nat.reduceEqDiff,Nat.reduceBEq,reduceCtorEq,reduceIte,Int.reduceLE,Int.reduceLT,Int.reduceNeg,Int.reduceToNat])
    exact (idx_hit hi h3 h).symm
   ·rw [wrap64 (n:=(i:Int) + 1) (by omega) (by omega)]
    refine next_intro (i + 1) ⟨by omega,fun j hj hji=>?_⟩ (by omega) ?_ ?_
    ·rcases Nat.lt_or_ge j i with h4 | h4
     ·exact h3 j hj h4
     ·obtain rfl:j = i:=by omega
      exact h
    ·(try simp -implicitDefEqProofs only [push_cast,Nat.reduceAdd,Nat.reduceSub,Nat.reduceMul,Nat.reduceLT,Nat.reduceLeDiff,Nat.reduceEqDiff,Nat.reduceBEq,reduceCtorEq,reduceIte,Int.reduceLE,Int.reduceLT,Int.reduceNeg,Int.reduceToNat,encIs_pure,hc])
    ·(try simp -implicitDefEqProofs only [push_cast,Nat.reduceAdd,Nat.reduceSub,Nat.reduceMul,Nat.reduceLT,Nat.reduceLeDiff,Nat.reduceEqDiff,Nat.reduceBEq,reduceCtorEq,reduceIte,Int.reduceLE,Int.reduceLT,Int.reduceNeg,Int.reduceToNat])
  ·have hi':((i:Int) < (l.length:Int)) = False:=by simp; omega
   simp -implicitDefEqProofs only [push_cast,Nat.reduceAdd,Nat.reduceSub,Nat.reduceMul,Nat.reduceLT,Nat.reduceLeDiff,Nat.reduceEqDiff,Nat.reduceBEq,reduceCtorEq,reduceIte,Int.reduceLE,Int.reduceLT,Int.reduceNeg,Int.reduceToNat,hi']
   (try simp -implicitDefEqProofs only [push_cast,Nat.reduceAdd,Nat.reduceSub,Nat.reduceMul,Nat.reduceLT,Nat.reduceLeDiff,Nat.reduceEqDiff,Nat.reduceBEq,reduceCtorEq,reduceIte,Int.reduceLE,Int.reduceLT,Int.reduceNeg,Int.reduceToNat])
   exact (idx_miss fun j hj=>h3 j hj (by omega)).symm
theorem containsFuncI_ok (l:List Int) (hl:l.length ≤ 140737488355328) (k:Nat) (caps:List AV) (hc:PureL caps) (p:Int → Bool) (hp:∀ v ∈ l,Quiet Go.Proofs.Tryz.prog k (.int v :: caps) (.bool (p v))) :
  Quiet Go.Proofs.Tryz.prog 108 [.sl (l.map encI), .clo (.func k) [] caps] (.bool (l.any p)):=by
 refine quiet_of (rs:=#[.tmp 4]) Go.Proofs.Tryz.func108 rfl rfl rfl mixed rfl rfl fun H hs=>?_
 simp -implicitDefEqProofs only [push_cast,Nat.reduceAdd,Nat.reduceSub,Nat.reduceMul,Nat.reduceLT,Nat.reduceLeDiff,Nat.reduceEqDiff,Nat.reduceBEq,reduceCtorEq,reduceIte,Int.reduceLE,Int.reduceLT,Int.reduceNeg,Int.reduceToNat]
 refine callq (indexFuncI_ok l hl k caps hc p hp) ?_
 simp -implicitDefEqProofs only [push_cast,Nat.reduceAdd,Nat.reduceSub,Nat.reduceMul,Nat.reduceLT,Nat.reduceLeDiff,Nat.reduceEqDiff,Nat.reduceBEq,reduceCtorEq,reduceIte,Int.reduceLE,Int.reduceLT,Int.reduceNeg,Int.reduceToNat,idx_nonneg]
 (try simp -implicitDefEqProofs only [push_cast,Nat.reduceAdd,Nat.reduceSub,Nat.reduceMul,Nat.reduceLT,Nat.reduceLeDiff,Nat.reduceEqDiff,Nat.reduceBEq,reduceCtorEq,reduceIte,Int.reduceLE,Int.reduceLT,Int.reduceNeg,Int.reduceToNat])
theorem May1_ok (d:Df):Quiet Go.Proofs.Tryz.prog 152 [.agg (encD d)] (.bool (!d.may)):=by
 refine quiet_of (rs:=#[.tmp 2]) Go.Proofs.Tryz.func152 rfl rfl rfl mixed rfl rfl fun H hs=>?_
 simp -implicitDefEqProofs only [push_cast,Nat.reduceAdd,Nat.reduceSub,Nat.reduceMul,Nat.reduceLT,Nat.reduceLeDiff,Nat.reduceEqDiff,Nat.reduceBEq,reduceCtorEq,reduceIte,Int.reduceLE,Int.reduceLT,Int.reduceNeg,Int.reduceToNat,encD]
 refine callq (one_ok d) ?_
 simp -implicitDefEqProofs only [push_cast,Nat.reduceAdd,Nat.reduceSub,Nat.reduceMul,Nat.reduceLT,Nat.reduceLeDiff,Nat.reduceEqDiff,Nat.reduceBEq,reduceCtorEq,reduceIte,Int.reduceLE,Int.reduceLT,Int.reduceNeg,Int.reduceToNat]
 (try simp -implicitDefEqProofs only [push_cast,Nat.reduceAdd,Nat.reduceSub,Nat.reduceMul,Nat.reduceLT,Nat.reduceLeDiff,Nat.reduceEqDiff,Nat.reduceBEq,reduceCtorEq,reduceIte,Int.reduceLE,Int.reduceLT,Int.reduceNeg,Int.reduceToNat])
theorem dataMay_ok (c:List Df) (hc:c.length ≤ 1000000):Quiet Go.Proofs.Tryz.prog 107 [.agg [.sl (c.map encD)]] (.bool (catMay c)):=by
 refine quiet_of (rs:=#[.tmp 2]) Go.Proofs.Tryz.func107 rfl rfl rfl mixed rfl rfl fun H hs=>?_
 simp -implicitDefEqProofs only [push_cast,Nat.reduceAdd,Nat.reduceSub,Nat.reduceMul,Nat.reduceLT,Nat.reduceLeDiff,Nat.reduceEqDiff,Nat.reduceBEq,reduceCtorEq,reduceIte,Int.reduceLE,Int.reduceLT,Int.reduceNeg,Int.reduceToNat]
 refine callq (in_ok _ _ _) ?_
 simp -implicitDefEqProofs only [push_cast,Nat.reduceAdd,Nat.reduceSub,Nat.reduceMul,Nat.reduceLT,Nat.reduceLeDiff,Nat.reduceEqDiff,Nat.reduceBEq,reduceCtorEq,reduceIte,Int.reduceLE,Int.reduceLT,Int.reduceNeg,Int.reduceToNat]
 refine gcallq' (.bool (c.any fun d=>!d.may)) (fun h=>h) (fun _=>containsFuncD_ok c (by omega) _ [] trivial (fun d=>!d.may) fun d _=>May1_ok d) ?_
 simp -implicitDefEqProofs only [push_cast,Nat.reduceAdd,Nat.reduceSub,Nat.reduceMul,Nat.reduceLT,Nat.reduceLeDiff,Nat.reduceEqDiff,Nat.reduceBEq,reduceCtorEq,reduceIte,Int.reduceLE,Int.reduceLT,Int.reduceNeg,Int.reduceToNat]
 (try simp -implicitDefEqProofs only [push_cast,Nat.reduceAdd,Nat.reduceSub,Nat.reduceMul,Nat.reduceLT,Nat.reduceLeDiff,Nat.reduceEqDiff,Nat.reduceBEq,reduceCtorEq,reduceIte,Int.reduceLE,Int.reduceLT,Int.reduceNeg,Int.reduceToNat])
 unfold catMay inI
 rw [List.all_eq_not_any_not]
 have e1:decide ((1:Int) ≤ (c.length:Int)) = decide (1 ≤ c.length):=by rw [decide_eq_decide]; omega
 have e2:decide ((c.length:Int) ≤ 4) = decide (c.length ≤ 4):=by rw [decide_eq_decide]; omega
 rw [e1,e2]
theorem Col_ok (o i:Int) (h0:0 ≤ o) (h1:o ≤ 3) (h2:0 ≤ i) (h3:i ≤ 3):Quiet Go.Proofs.Tryz.prog 128 [.int o, .int i] (.int (4 * o + i)):=by
 refine quiet_of (rs:=#[.tmp 4]) Go.Proofs.Tryz.func128 rfl rfl rfl mixed rfl rfl fun H hs=>?_
 simp -implicitDefEqProofs only [push_cast,Nat.reduceAdd,Nat.reduceSub,Nat.reduceMul,Nat.reduceLT,Nat.reduceLeDiff,Nat.reduceEqDiff,Nat.reduceBEq,reduceCtorEq,reduceIte,Int.reduceLE,Int.reduceLT,Int.reduceNeg,Int.reduceToNat]
 refine callq (in_ok _ _ _) ?_
 simp -implicitDefEqProofs only [push_cast,Nat.reduceAdd,Nat.reduceSub,Nat.reduceMul,Nat.reduceLT,Nat.reduceLeDiff,Nat.reduceEqDiff,Nat.reduceBEq,reduceCtorEq,reduceIte,Int.reduceLE,Int.reduceLT,Int.reduceNeg,Int.reduceToNat]
 refine gcallq' (.bool (inI i 0 3)) (fun h=>h) (fun _=>in_ok _ _ _) ?_
 simp -implicitDefEqProofs only [push_cast,Nat.reduceAdd,Nat.reduceSub,Nat.reduceMul,Nat.reduceLT,Nat.reduceLeDiff,Nat.reduceEqDiff,Nat.reduceBEq,reduceCtorEq,reduceIte,Int.reduceLE,Int.reduceLT,Int.reduceNeg,Int.reduceToNat]
 have a1:inI o 0 3 = true:=by simp [inI,h0,h1]
 have a2:inI i 0 3 = true:=by simp [inI,h2,h3]
 rw [a1,a2]
 refine ⟨fun h=>absurd h (by decide),fun _=>?_⟩
 simp only [IntKind.wrap_i64]
 omega
theorem Split_ok (c:Int) (h0:0 ≤ c) (h1:c ≤ 15):Quiet Go.Proofs.Tryz.prog 164 [.int c] (.tup [.int (c / 4), .int (c % 4), .bool true]):=by
 refine quiet_of (rs:=#[.tmp 2, .tmp 3, .tmp 4]) Go.Proofs.Tryz.func164 rfl rfl rfl mixed rfl rfl fun H hs=>?_
 simp -implicitDefEqProofs only [push_cast,Nat.reduceAdd,Nat.reduceSub,Nat.reduceMul,Nat.reduceLT,Nat.reduceLeDiff,Nat.reduceEqDiff,Nat.reduceBEq,reduceCtorEq,reduceIte,Int.reduceLE,Int.reduceLT,Int.reduceNeg,Int.reduceToNat]
 refine callq (in_ok _ _ _) ?_
 simp -implicitDefEqProofs only [push_cast,Nat.reduceAdd,Nat.reduceSub,Nat.reduceMul,Nat.reduceLT,Nat.reduceLeDiff,Nat.reduceEqDiff,Nat.reduceBEq,reduceCtorEq,reduceIte,Int.reduceLE,Int.reduceLT,Int.reduceNeg,Int.reduceToNat]
 have a1:inI c 0 15 = true:=by simp [inI,h0,h1]
 rw [a1]
 refine ⟨fun h=>absurd h (by decide),fun _=>⟨by decide,by decide, ?_, ?_⟩⟩
 ·rw [Int.tdiv_eq_ediv_of_nonneg h0,IntKind.wrap_i64]
  omega
 ·rw [Int.tmod_eq_emod_of_nonneg h0]
theorem setHas_ok (s:Int) (i:Nat) (hi:i < 64):Quiet Go.Proofs.Tryz.prog 75 [.int s, .int i] (.bool (bitI s i)):=by
 refine quiet_of (rs:=#[.tmp 4]) Go.Proofs.Tryz.func75 rfl rfl rfl mixed rfl rfl fun H hs=>?_
 simp -implicitDefEqProofs only [push_cast,Nat.reduceAdd,Nat.reduceSub,Nat.reduceMul,Nat.reduceLT,Nat.reduceLeDiff,Nat.reduceEqDiff,Nat.reduceBEq,reduceCtorEq,reduceIte,Int.reduceLE,Int.reduceLT,Int.reduceNeg,Int.reduceToNat]
 exact ⟨by omega,has_bit s i hi⟩
theorem setHolds_ok (s t:Int) (h0:0 ≤ t) (h1:t ≤ 15):Quiet Go.Proofs.Tryz.prog 115 [.int s, .int t] (.bool (holdsI s t)):=by
 refine quiet_of (rs:=#[.tmp 4]) Go.Proofs.Tryz.func115 rfl rfl rfl mixed rfl rfl fun H hs=>?_
 simp -implicitDefEqProofs only [push_cast,Nat.reduceAdd,Nat.reduceSub,Nat.reduceMul,Nat.reduceLT,Nat.reduceLeDiff,Nat.reduceEqDiff,Nat.reduceBEq,reduceCtorEq,reduceIte,Int.reduceLE,Int.reduceLT,Int.reduceNeg,Int.reduceToNat]
 exact holds_bit s t h0 h1
end
section
attribute [local push_cast] encE_mk encE_take encE_len encV encE_one encEs_pure encE_pure
def ofC (cols:List Int) (i:Nat):Bool:=cols.any fun c=>decide (c / 4 = i)
theorem ofC_snoc (cols:List Int) (c:Int) (h0:0 ≤ c) (h1:c ≤ 15):bor .i64 (ofBits (ofC cols)) (bshl .i64 1 (c / 4)) = ofBits (ofC (cols ++ [c])):=by
 obtain ⟨k,hk⟩:∃ k:Nat,c / 4 = k:=⟨(c / 4).toNat,by omega⟩
 rw [hk,bshl_one k (by omega),bor_range _ _ (ofBits_range _) (ofBits_range _)]
 refine ofBits_ext fun i hi=>?_
 rw [ofBits_bit _ i hi,ofBits_bit _ i hi,ofC,ofC,List.any_append,List.any_cons,List.any_nil,Bool.or_false,hk]
 congr 1
 rw [decide_eq_decide]
 omega
theorem ofSet_ok (cols:List Int) (hl:cols.length ≤ 1000000) (hr:∀ c ∈ cols,0 ≤ c ∧ c ≤ 15):Quiet Go.Proofs.Tryz.prog 116 [.sl (cols.map encI)] (.int (ofBits (ofC cols))):=by
 refine quiet_of (rs:=#[.tmp 2]) Go.Proofs.Tryz.func116 rfl rfl rfl mixed rfl rfl fun H hs=>?_
 simp -implicitDefEqProofs only [push_cast,Nat.reduceAdd,Nat.reduceSub,Nat.reduceMul,Nat.reduceLT,Nat.reduceLeDiff,Nat.reduceEqDiff,Nat.reduceBEq,reduceCtorEq,reduceIte,Int.reduceLE,Int.reduceLT,Int.reduceNeg,Int.reduceToNat]
 refine loop_rule hs (σ:=Nat) (fun i=>i ≤ cols.length) (fun i=>cols.length - i)
  (fun i=>[(9, .sl (cols.map encI)),(3, .int (ofBits (ofC (cols.take i)))),(10, .int cols.length),(11, .int i)]) (fun _=>[]) 0 (by omega) ?_ ?_ ?_
 ·(try simp -implicitDefEqProofs only [push_cast,Nat.reduceAdd,Nat.reduceSub,Nat.reduceMul,Nat.reduceLT,Nat.reduceLeDiff,Nat.reduceEqDiff,Nat.reduceBEq,reduceCtorEq,reduceIte,Int.reduceLE,Int.reduceLT,Int.reduceNeg,Int.reduceToNat,encIs_pure])
  rfl
 ·(try simp -implicitDefEqProofs only [push_cast,Nat.reduceAdd,Nat.reduceSub,Nat.reduceMul,Nat.reduceLT,Nat.reduceLeDiff,Nat.reduceEqDiff,Nat.reduceBEq,reduceCtorEq,reduceIte,Int.reduceLE,Int.reduceLT,Int.reduceNeg,Int.reduceToNat])
 ·rintro i h2
  by_cases hi:i < cols.length
  ·have hi':((i:Int) < (cols.length:Int)) = True:=by simp; omega
   have hi0:(0 ≤ (i:Int)) = True:=by simp
   have hc:=hr cols[i] (List.getElem_mem hi)
   simp -implicitDefEqProofs only [push_cast,Nat.reduceAdd,Nat.reduceSub,Nat.reduceMul,Nat.reduceLT,Nat.reduceLeDiff,Nat.reduceEqDiff,Nat.reduceBEq,reduceCtorEq,reduceIte,Int.reduceLE,Int.reduceLT,Int.reduceNeg,Int.reduceToNat,hi',hi0,encIs_get cols i hi,encI]
   refine callq (Split_ok cols[i] hc.1 hc.2) ?_
   simp -implicitDefEqProofs only [push_cast,Nat.reduceAdd,Nat.reduceSub,Nat.reduceMul,Nat.reduceLT,Nat.reduceLeDiff,Nat.reduceEqDiff,Nat.reduceBEq,reduceCtorEq,reduceIte,Int.reduceLE,Int.reduceLT,Int.reduceNeg,Int.reduceToNat]
   refine ⟨by omega, ?_⟩
   rw [wrap64 (n:=(i:Int) + 1) (by omega) (by omega),ofC_snoc _ _ hc.1 hc.2,← List.take_succ_eq_append_getElem hi]
   refine next_intro (i + 1) (by omega) (by omega) ?_ ?_
   ·(try simp -implicitDefEqProofs only [push_cast,Nat.reduceAdd,Nat.reduceSub,Nat.reduceMul,Nat.reduceLT,Nat.reduceLeDiff,Nat.reduceEqDiff,Nat.reduceBEq,reduceCtorEq,reduceIte,Int.reduceLE,Int.reduceLT,Int.reduceNeg,Int.reduceToNat,encIs_pure])
   ·(try simp -implicitDefEqProofs only [push_cast,Nat.reduceAdd,Nat.reduceSub,Nat.reduceMul,Nat.reduceLT,Nat.reduceLeDiff,Nat.reduceEqDiff,Nat.reduceBEq,reduceCtorEq,reduceIte,Int.reduceLE,Int.reduceLT,Int.reduceNeg,Int.reduceToNat])
  ·have hi':((i:Int) < (cols.length:Int)) = False:=by simp; omega
   simp -implicitDefEqProofs only [push_cast,Nat.reduceAdd,Nat.reduceSub,Nat.reduceMul,Nat.reduceLT,Nat.reduceLeDiff,Nat.reduceEqDiff,Nat.reduceBEq,reduceCtorEq,reduceIte,Int.reduceLE,Int.reduceLT,Int.reduceNeg,Int.reduceToNat,hi']
   (try simp -implicitDefEqProofs only [push_cast,Nat.reduceAdd,Nat.reduceSub,Nat.reduceMul,Nat.reduceLT,Nat.reduceLeDiff,Nat.reduceEqDiff,Nat.reduceBEq,reduceCtorEq,reduceIte,Int.reduceLE,Int.reduceLT,Int.reduceNeg,Int.reduceToNat])
   rw [List.take_of_length_le (by omega)]
theorem ofE_ok (e:Ex) (hok:e.Ok) (hc:cnt e ≤ 1000000):Quiet Go.Proofs.Tryz.prog 177 [.agg (encE e)] (.int (setE e)):=by
 refine quiet_of (rs:=#[.tmp 2]) Go.Proofs.Tryz.func177 rfl rfl rfl mixed rfl rfl fun H hs=>?_
 simp -implicitDefEqProofs only [push_cast,Nat.reduceAdd,Nat.reduceSub,Nat.reduceMul,Nat.reduceLT,Nat.reduceLeDiff,Nat.reduceEqDiff,Nat.reduceBEq,reduceCtorEq,reduceIte,Int.reduceLE,Int.reduceLT,Int.reduceNeg,Int.reduceToNat]
 refine callq (Cols_ok e hok hc) ?_
 simp -implicitDefEqProofs only [push_cast,Nat.reduceAdd,Nat.reduceSub,Nat.reduceMul,Nat.reduceLT,Nat.reduceLeDiff,Nat.reduceEqDiff,Nat.reduceBEq,reduceCtorEq,reduceIte,Int.reduceLE,Int.reduceLT,Int.reduceNeg,Int.reduceToNat]
 refine callq (ofSet_ok e.cols (Nat.le_trans (cols_len e) hc) fun c hx=>?_) ?_
 ·by_cases hm:e.may = true
  ·exact cols_range e (fine_of_may hm) c ((cols_mem hm c).1 hx)
  ·rw [cols_eq,if_neg hm] at hx
   cases hx
 ·simp -implicitDefEqProofs only [push_cast,Nat.reduceAdd,Nat.reduceSub,Nat.reduceMul,Nat.reduceLT,Nat.reduceLeDiff,Nat.reduceEqDiff,Nat.reduceBEq,reduceCtorEq,reduceIte,Int.reduceLE,Int.reduceLT,Int.reduceNeg,Int.reduceToNat]
  (try simp -implicitDefEqProofs only [push_cast,Nat.reduceAdd,Nat.reduceSub,Nat.reduceMul,Nat.reduceLT,Nat.reduceLeDiff,Nat.reduceEqDiff,Nat.reduceBEq,reduceCtorEq,reduceIte,Int.reduceLE,Int.reduceLT,Int.reduceNeg,Int.reduceToNat])
  rfl
theorem containsI_ok (l:List Int) (hl:l.length ≤ 1000000) (x:Int):Quiet Go.Proofs.Tryz.prog 97 [.sl (l.map encI), .int x] (.bool (l.contains x)):=by
 refine quiet_of (rs:=#[.tmp 4]) Go.Proofs.Tryz.func97 rfl rfl rfl mixed rfl rfl fun H hs=>?_
 simp -implicitDefEqProofs only [push_cast,Nat.reduceAdd,Nat.reduceSub,Nat.reduceMul,Nat.reduceLT,Nat.reduceLeDiff,Nat.reduceEqDiff,Nat.reduceBEq,reduceCtorEq,reduceIte,Int.reduceLE,Int.reduceLT,Int.reduceNeg,Int.reduceToNat]
 refine callq (index_ok l (by omega) x) ?_
 simp -implicitDefEqProofs only [push_cast,Nat.reduceAdd,Nat.reduceSub,Nat.reduceMul,Nat.reduceLT,Nat.reduceLeDiff,Nat.reduceEqDiff,Nat.reduceBEq,reduceCtorEq,reduceIte,Int.reduceLE,Int.reduceLT,Int.reduceNeg,Int.reduceToNat,idx_nonneg]
 (try simp -implicitDefEqProofs only [push_cast,Nat.reduceAdd,Nat.reduceSub,Nat.reduceMul,Nat.reduceLT,Nat.reduceLeDiff,Nat.reduceEqDiff,Nat.reduceBEq,reduceCtorEq,reduceIte,Int.reduceLE,Int.reduceLT,Int.reduceNeg,Int.reduceToNat])
 rw [Bool.eq_iff_iff,List.any_eq_true,List.contains_iff_mem]
 constructor
 ·rintro ⟨y,hy,h⟩
  rw [decide_eq_true_eq] at h
  rw [h]; exact hy
 ·exact fun h=>⟨x,h,decide_eq_true rfl⟩
theorem within1_ok (l:List Int) (hl:l.length ≤ 1000000) (x:Int):Quiet Go.Proofs.Tryz.prog 160 [.int x, .iptr [.sl (l.map encI)]] (.bool (!l.contains x)):=by
 refine quiet_of (rs:=#[.tmp 3]) Go.Proofs.Tryz.func160 rfl rfl rfl mixed rfl rfl fun H hs=>?_
 simp -implicitDefEqProofs only [push_cast,Nat.reduceAdd,Nat.reduceSub,Nat.reduceMul,Nat.reduceLT,Nat.reduceLeDiff,Nat.reduceEqDiff,Nat.reduceBEq,reduceCtorEq,reduceIte,Int.reduceLE,Int.reduceLT,Int.reduceNeg,Int.reduceToNat]
 refine callq (containsI_ok l hl x) ?_
 simp -implicitDefEqProofs only [push_cast,Nat.reduceAdd,Nat.reduceSub,Nat.reduceMul,Nat.reduceLT,Nat.reduceLeDiff,Nat.reduceEqDiff,Nat.reduceBEq,reduceCtorEq,reduceIte,Int.reduceLE,Int.reduceLT,Int.reduceNeg,Int.reduceToNat]
 (try simp -implicitDefEqProofs only [push_cast,Nat.reduceAdd,Nat.reduceSub,Nat.reduceMul,Nat.reduceLT,Nat.reduceLeDiff,Nat.reduceEqDiff,Nat.reduceBEq,reduceCtorEq,reduceIte,Int.reduceLE,Int.reduceLT,Int.reduceNeg,Int.reduceToNat])
theorem within_ok (l m:List Int) (hl:l.length ≤ 1000000) (hm:m.length ≤ 1000000):Quiet Go.Proofs.Tryz.prog 111 [.sl (l.map encI), .sl (m.map encI)] (.bool (within l m)):=by
 refine quiet_of (rs:=#[.tmp 4]) Go.Proofs.Tryz.func111 rfl rfl rfl mixed rfl rfl fun H hs=>?_
 simp -implicitDefEqProofs only [push_cast,Nat.reduceAdd,Nat.reduceSub,Nat.reduceMul,Nat.reduceLT,Nat.reduceLeDiff,Nat.reduceEqDiff,Nat.reduceBEq,reduceCtorEq,reduceIte,Int.reduceLE,Int.reduceLT,Int.reduceNeg,Int.reduceToNat]
 refine fzk H 0 1 [.sl (l.map encI), .clo (.func 160) [] [.iptr [.sl (m.map encI)]]] (by rfl) (by omega) (by simp) ?_ ?_
 ·(try simp -implicitDefEqProofs only [push_cast,Nat.reduceAdd,Nat.reduceSub,Nat.reduceMul,Nat.reduceLT,Nat.reduceLeDiff,Nat.reduceEqDiff,Nat.reduceBEq,reduceCtorEq,reduceIte,Int.reduceLE,Int.reduceLT,Int.reduceNeg,Int.reduceToNat,encIs_pure])
 refine callq (containsFuncI_ok l (by omega) _ [.iptr [.sl (m.map encI)]] (by simp [PureL,Pure,encIs_pure]) (fun x=>!m.contains x) fun x _=>within1_ok m hm x) ?_
 simp -implicitDefEqProofs only [push_cast,Nat.reduceAdd,Nat.reduceSub,Nat.reduceMul,Nat.reduceLT,Nat.reduceLeDiff,Nat.reduceEqDiff,Nat.reduceBEq,reduceCtorEq,reduceIte,Int.reduceLE,Int.reduceLT,Int.reduceNeg,Int.reduceToNat]
 (try simp -implicitDefEqProofs only [push_cast,Nat.reduceAdd,Nat.reduceSub,Nat.reduceMul,Nat.reduceLT,Nat.reduceLeDiff,Nat.reduceEqDiff,Nat.reduceBEq,reduceCtorEq,reduceIte,Int.reduceLE,Int.reduceLT,Int.reduceNeg,Int.reduceToNat])
 rw [within,List.all_eq_not_any_not]
theorem idxF_take (p:Ex → Bool) (P:List Ex) (i:Nat) (h:i < P.length):idxF p (P.take (i + 1)) = idxF p (P.take i) ++ (if p P[i] then [(i:Int)] else []):=by
 rw [List.take_succ_eq_append_getElem h,idxF_snoc,List.length_take,Nat.min_eq_left (by omega)]
theorem idxF_yes (p:Ex → Bool) (P:List Ex) (i:Nat) (h:i < P.length) (hp:p P[i] = true):idxF p (P.take (i + 1)) = idxF p (P.take i) ++ [(i:Int)]:=by rw [idxF_take p P i h,if_pos hp]
theorem idxF_no (p:Ex → Bool) (P:List Ex) (i:Nat) (h:i < P.length) (hp:p P[i] = false):idxF p (P.take (i + 1)) = idxF p (P.take i):=by rw [idxF_take p P i h,if_neg (by simp [hp]),List.append_nil]
theorem idxF_nil (p:Ex → Bool):idxF p [] = []:=rfl
theorem idxF_lt (p:Ex → Bool) (P:List Ex):(idxF p P).length ≤ P.length:=Nat.le_trans (List.length_filter_le _ _) (by rw [upto_len]; omega)
def encQ (q:Qy):List AV:=[.sl (q.occ.map encI), .sl (q.p.map encE), .int q.by_, .sl (q.sums.map encI), .sl (q.out.map encI), .int q.ord]
theorem some_Q (q:Qy) (fn:FuncId) (bnd caps:List AV) (hb:PureL bnd) (hc:PureL caps) (p:Ex → Bool) (hP:q.p.length ≤ 1000000) (hok:∀ e ∈ q.p,e.Ok ∧ cnt e ≤ 1000000)
  (hf:∀ e ∈ q.p,Quiet Go.Proofs.Tryz.prog fn (bnd ++ .int (setE e) :: caps) (.bool (p e))) :
  Quiet Go.Proofs.Tryz.prog 162 [.agg (encQ q), .clo (.func fn) bnd caps] (.sl ((idxF p q.p).map encI)):=by
 refine quiet_of (rs:=#[.tmp 4]) Go.Proofs.Tryz.func162 rfl rfl rfl mixed rfl rfl fun H hs=>?_
 simp -implicitDefEqProofs only [push_cast,Nat.reduceAdd,Nat.reduceSub,Nat.reduceMul,Nat.reduceLT,Nat.reduceLeDiff,Nat.reduceEqDiff,Nat.reduceBEq,reduceCtorEq,reduceIte,Int.reduceLE,Int.reduceLT,Int.reduceNeg,Int.reduceToNat,encQ]
 refine loop_at hs (σ:=Nat) (fun i=>i ≤ q.p.length) (fun i=>q.p.length - i)
  (fun i=>[(11, .int i),(10, .int q.p.length),(9, .sl (q.p.map encE)),(5, .rsl (H.nxt + 0) 1 0 (idxF p (q.p.take i)).length),(1, .clo (.func fn) bnd caps)]) (fun i=>[some (.cells 1 (rowI (idxF p (q.p.take i))) 0)]) [none] 0 (by omega) rfl ?_ ?_ ?_
 ·(try simp -implicitDefEqProofs only [push_cast,Nat.reduceAdd,Nat.reduceSub,Nat.reduceMul,Nat.reduceLT,Nat.reduceLeDiff,Nat.reduceEqDiff,Nat.reduceBEq,reduceCtorEq,reduceIte,Int.reduceLE,Int.reduceLT,Int.reduceNeg,Int.reduceToNat,idxF_nil,rowI_nil,List.take_zero,encEs_pure,hb,hc])
 ·(try simp -implicitDefEqProofs only [push_cast,Nat.reduceAdd,Nat.reduceSub,Nat.reduceMul,Nat.reduceLT,Nat.reduceLeDiff,Nat.reduceEqDiff,Nat.reduceBEq,reduceCtorEq,reduceIte,Int.reduceLE,Int.reduceLT,Int.reduceNeg,Int.reduceToNat,idxF_nil,rowI_nil,List.take_zero])
 intro i hi2
 have hlen:=idxF_lt p (q.p.take i)
 rw [List.length_take] at hlen
 by_cases hi:i < q.p.length
 ·have hi':((i:Int) < (q.p.length:Int)) = True:=by simp; omega
  have hi0:(0 ≤ (i:Int)) = True:=by simp
  have ho:=hok _ (List.getElem_mem hi)
  simp -implicitDefEqProofs only [push_cast,Nat.reduceAdd,Nat.reduceSub,Nat.reduceMul,Nat.reduceLT,Nat.reduceLeDiff,Nat.reduceEqDiff,Nat.reduceBEq,reduceCtorEq,reduceIte,Int.reduceLE,Int.reduceLT,Int.reduceNeg,Int.reduceToNat,hi',hi0,encEs_get q.p i hi]
  refine callq (ofE_ok _ ho.1 ho.2) ?_
  simp -implicitDefEqProofs only [push_cast,Nat.reduceAdd,Nat.reduceSub,Nat.reduceMul,Nat.reduceLT,Nat.reduceLeDiff,Nat.reduceEqDiff,Nat.reduceBEq,reduceCtorEq,reduceIte,Int.reduceLE,Int.reduceLT,Int.reduceNeg,Int.reduceToNat]
  refine callq (hf _ (List.getElem_mem hi)) ?_
  simp -implicitDefEqProofs only [push_cast,Nat.reduceAdd,Nat.reduceSub,Nat.reduceMul,Nat.reduceLT,Nat.reduceLeDiff,Nat.reduceEqDiff,Nat.reduceBEq,reduceCtorEq,reduceIte,Int.reduceLE,Int.reduceLT,Int.reduceNeg,Int.reduceToNat]
  refine ⟨fun h=>⟨by omega, ?_⟩,fun h=>?_⟩
  ·rw [wrap64 (n:=(i:Int) + 1) (by omega) (by omega)]
   refine next_at [some 3] (i + 1) (by omega) (by omega) rfl ?_ ?_
   ·(try simp -implicitDefEqProofs only [push_cast,Nat.reduceAdd,Nat.reduceSub,Nat.reduceMul,Nat.reduceLT,Nat.reduceLeDiff,Nat.reduceEqDiff,Nat.reduceBEq,reduceCtorEq,reduceIte,Int.reduceLE,Int.reduceLT,Int.reduceNeg,Int.reduceToNat,idxF_yes p q.p i hi h,encEs_pure,hb,hc])
   ·(try simp -implicitDefEqProofs only [push_cast,Nat.reduceAdd,Nat.reduceSub,Nat.reduceMul,Nat.reduceLT,Nat.reduceLeDiff,Nat.reduceEqDiff,Nat.reduceBEq,reduceCtorEq,reduceIte,Int.reduceLE,Int.reduceLT,Int.reduceNeg,Int.reduceToNat,idxF_yes p q.p i hi h,take_rowI _ _ (Nat.le_refl _),snocI,rowI_pure,rowI_one])
  ·rw [wrap64 (n:=(i:Int) + 1) (by omega) (by omega)]
   refine next_at [some 0] (i + 1) (by omega) (by omega) rfl ?_ ?_
   ·(try simp -implicitDefEqProofs only [push_cast,Nat.reduceAdd,Nat.reduceSub,Nat.reduceMul,Nat.reduceLT,Nat.reduceLeDiff,Nat.reduceEqDiff,Nat.reduceBEq,reduceCtorEq,reduceIte,Int.reduceLE,Int.reduceLT,Int.reduceNeg,Int.reduceToNat,idxF_no p q.p i hi h,encEs_pure,hb,hc])
   ·(try simp -implicitDefEqProofs only [push_cast,Nat.reduceAdd,Nat.reduceSub,Nat.reduceMul,Nat.reduceLT,Nat.reduceLeDiff,Nat.reduceEqDiff,Nat.reduceBEq,reduceCtorEq,reduceIte,Int.reduceLE,Int.reduceLT,Int.reduceNeg,Int.reduceToNat,idxF_no p q.p i hi h,rowI_pure,rowI_one])
 ·have hi':((i:Int) < (q.p.length:Int)) = False:=by simp; omega
  simp -implicitDefEqProofs only [push_cast,Nat.reduceAdd,Nat.reduceSub,Nat.reduceMul,Nat.reduceLT,Nat.reduceLeDiff,Nat.reduceEqDiff,Nat.reduceBEq,reduceCtorEq,reduceIte,Int.reduceLE,Int.reduceLT,Int.reduceNeg,Int.reduceToNat,hi']
  (try simp -implicitDefEqProofs only [push_cast,Nat.reduceAdd,Nat.reduceSub,Nat.reduceMul,Nat.reduceLT,Nat.reduceLeDiff,Nat.reduceEqDiff,Nat.reduceBEq,reduceCtorEq,reduceIte,Int.reduceLE,Int.reduceLT,Int.reduceNeg,Int.reduceToNat])
  obtain rfl:i = q.p.length:=by omega
  rw [List.take_length,take_rowI _ _ (Nat.le_refl _)]
  exact sealLL_pure _ _ _ (encIs_pure _)
def Qy.Ok (q:Qy):Prop:=q.p.length ≤ 1000000 ∧ (∀ e ∈ q.p,e.Ok ∧ cnt e ≤ 1000000) ∧ q.occ.length ≤ 1000000 ∧ q.sums.length ≤ 1000000 ∧ q.out.length ≤ 1000000
theorem Own_ok (q:Qy) (hq:q.Ok) (s:Int):Quiet Go.Proofs.Tryz.prog 126 [.agg (encQ q), .int s] (.sl ((q.own s).map encI)):=by
 have hsm:=some_Q q 115 [.int s] [] (by simp [PureL,Pure]) trivial (ownT s) hq.1 hq.2.1 fun e _=>setHolds_ok s _ (setE_range e).1 (setE_range e).2
 refine quiet_of (rs:=#[.tmp 4]) Go.Proofs.Tryz.func126 rfl rfl rfl mixed rfl rfl fun H hs=>?_
 simp only [encQ] at hsm
 simp -implicitDefEqProofs only [push_cast,Nat.reduceAdd,Nat.reduceSub,Nat.reduceMul,Nat.reduceLT,Nat.reduceLeDiff,Nat.reduceEqDiff,Nat.reduceBEq,reduceCtorEq,reduceIte,Int.reduceLE,Int.reduceLT,Int.reduceNeg,Int.reduceToNat,encQ]
 refine callq hsm ?_
 simp -implicitDefEqProofs only [push_cast,Nat.reduceAdd,Nat.reduceSub,Nat.reduceMul,Nat.reduceLT,Nat.reduceLeDiff,Nat.reduceEqDiff,Nat.reduceBEq,reduceCtorEq,reduceIte,Int.reduceLE,Int.reduceLT,Int.reduceNeg,Int.reduceToNat]
 (try simp -implicitDefEqProofs only [push_cast,Nat.reduceAdd,Nat.reduceSub,Nat.reduceMul,Nat.reduceLT,Nat.reduceLeDiff,Nat.reduceEqDiff,Nat.reduceBEq,reduceCtorEq,reduceIte,Int.reduceLE,Int.reduceLT,Int.reduceNeg,Int.reduceToNat])
 exact sealLL_pure _ _ _ (encIs_pure _)
theorem New1_ok (a b t:Int) (h0:0 ≤ t) (h1:t ≤ 15):Quiet Go.Proofs.Tryz.prog 163 [.int t, .iptr [.int (bor .i64 a b)], .iptr [.int a], .iptr [.int b]] (.bool (holdsI (bor .i64 a b) t && !holdsI a t && !holdsI b t)):=by
 refine quiet_of (rs:=#[.tmp 5]) Go.Proofs.Tryz.func163 rfl rfl rfl mixed rfl rfl fun H hs=>?_
 simp -implicitDefEqProofs only [push_cast,Nat.reduceAdd,Nat.reduceSub,Nat.reduceMul,Nat.reduceLT,Nat.reduceLeDiff,Nat.reduceEqDiff,Nat.reduceBEq,reduceCtorEq,reduceIte,Int.reduceLE,Int.reduceLT,Int.reduceNeg,Int.reduceToNat]
 refine callq (setHolds_ok _ _ h0 h1) ?_
 simp -implicitDefEqProofs only [push_cast,Nat.reduceAdd,Nat.reduceSub,Nat.reduceMul,Nat.reduceLT,Nat.reduceLeDiff,Nat.reduceEqDiff,Nat.reduceBEq,reduceCtorEq,reduceIte,Int.reduceLE,Int.reduceLT,Int.reduceNeg,Int.reduceToNat]
 refine gcallq' (.bool (holdsI a t)) (fun h=>h) (fun _=>setHolds_ok _ _ h0 h1) ?_
 simp -implicitDefEqProofs only [push_cast,Nat.reduceAdd,Nat.reduceSub,Nat.reduceMul,Nat.reduceLT,Nat.reduceLeDiff,Nat.reduceEqDiff,Nat.reduceBEq,reduceCtorEq,reduceIte,Int.reduceLE,Int.reduceLT,Int.reduceNeg,Int.reduceToNat]
 refine gcallq' (.bool (holdsI b t)) (fun h=>by simpa using h) (fun _=>setHolds_ok _ _ h0 h1) ?_
 simp -implicitDefEqProofs only [push_cast,Nat.reduceAdd,Nat.reduceSub,Nat.reduceMul,Nat.reduceLT,Nat.reduceLeDiff,Nat.reduceEqDiff,Nat.reduceBEq,reduceCtorEq,reduceIte,Int.reduceLE,Int.reduceLT,Int.reduceNeg,Int.reduceToNat]
 (try simp -implicitDefEqProofs only [push_cast,Nat.reduceAdd,Nat.reduceSub,Nat.reduceMul,Nat.reduceLT,Nat.reduceLeDiff,Nat.reduceEqDiff,Nat.reduceBEq,reduceCtorEq,reduceIte,Int.reduceLE,Int.reduceLT,Int.reduceNeg,Int.reduceToNat])
theorem New_ok (q:Qy) (hq:q.Ok) (a b:Int):Quiet Go.Proofs.Tryz.prog 113 [.agg (encQ q), .int a, .int b] (.sl ((q.new a b).map encI)):=by
 have hsm:=some_Q q 163 [] [.iptr [.int (bor .i64 a b)], .iptr [.int a], .iptr [.int b]] trivial (by simp [PureL,Pure]) (newT a b) hq.1 hq.2.1 fun e _=>New1_ok a b _ (setE_range e).1 (setE_range e).2
 refine quiet_of (rs:=#[.tmp 6]) Go.Proofs.Tryz.func113 rfl rfl rfl mixed rfl rfl fun H hs=>?_
 simp only [encQ] at hsm
 simp -implicitDefEqProofs only [push_cast,Nat.reduceAdd,Nat.reduceSub,Nat.reduceMul,Nat.reduceLT,Nat.reduceLeDiff,Nat.reduceEqDiff,Nat.reduceBEq,reduceCtorEq,reduceIte,Int.reduceLE,Int.reduceLT,Int.reduceNeg,Int.reduceToNat,encQ]
 refine fzk H 3 1 [.agg [.sl (q.occ.map encI), .sl (q.p.map encE), .int q.by_, .sl (q.sums.map encI), .sl (q.out.map encI), .int q.ord], .clo (.func 163) [] [.iptr [.int (bor .i64 a b)], .ptr (H.nxt + 1) 1 0 0, .ptr (H.nxt + 2) 1 0 0]] (by rfl) (by omega) (by simp) ?_ ?_
 ·(try simp -implicitDefEqProofs only [push_cast,Nat.reduceAdd,Nat.reduceSub,Nat.reduceMul,Nat.reduceLT,Nat.reduceLeDiff,Nat.reduceEqDiff,Nat.reduceBEq,reduceCtorEq,reduceIte,Int.reduceLE,Int.reduceLT,Int.reduceNeg,Int.reduceToNat,encIs_pure,encEs_pure])
 refine fzk H 1 1 [.agg [.sl (q.occ.map encI), .sl (q.p.map encE), .int q.by_, .sl (q.sums.map encI), .sl (q.out.map encI), .int q.ord], .clo (.func 163) [] [.iptr [.int (bor .i64 a b)], .iptr [.int a], .ptr (H.nxt + 2) 1 0 0]] (by rfl) (by omega) (by simp) ?_ ?_
 ·(try simp -implicitDefEqProofs only [push_cast,Nat.reduceAdd,Nat.reduceSub,Nat.reduceMul,Nat.reduceLT,Nat.reduceLeDiff,Nat.reduceEqDiff,Nat.reduceBEq,reduceCtorEq,reduceIte,Int.reduceLE,Int.reduceLT,Int.reduceNeg,Int.reduceToNat,encIs_pure,encEs_pure])
 refine fzk H 2 1 [.agg [.sl (q.occ.map encI), .sl (q.p.map encE), .int q.by_, .sl (q.sums.map encI), .sl (q.out.map encI), .int q.ord], .clo (.func 163) [] [.iptr [.int (bor .i64 a b)], .iptr [.int a], .iptr [.int b]]] (by rfl) (by omega) (by simp) ?_ ?_
 ·(try simp -implicitDefEqProofs only [push_cast,Nat.reduceAdd,Nat.reduceSub,Nat.reduceMul,Nat.reduceLT,Nat.reduceLeDiff,Nat.reduceEqDiff,Nat.reduceBEq,reduceCtorEq,reduceIte,Int.reduceLE,Int.reduceLT,Int.reduceNeg,Int.reduceToNat,encIs_pure,encEs_pure])
 refine callq hsm ?_
 simp -implicitDefEqProofs only [push_cast,Nat.reduceAdd,Nat.reduceSub,Nat.reduceMul,Nat.reduceLT,Nat.reduceLeDiff,Nat.reduceEqDiff,Nat.reduceBEq,reduceCtorEq,reduceIte,Int.reduceLE,Int.reduceLT,Int.reduceNeg,Int.reduceToNat]
 (try simp -implicitDefEqProofs only [push_cast,Nat.reduceAdd,Nat.reduceSub,Nat.reduceMul,Nat.reduceLT,Nat.reduceLeDiff,Nat.reduceEqDiff,Nat.reduceBEq,reduceCtorEq,reduceIte,Int.reduceLE,Int.reduceLT,Int.reduceNeg,Int.reduceToNat])
 exact sealLL_pure _ _ _ (encIs_pure _)
end
section
attribute [local push_cast] encE_mk encE_take encE_len encV encE_one encEs_pure encE_pure
theorem May2_ok (o:Int):Quiet Go.Proofs.Tryz.prog 109 [.int o] (.bool true):=by
 refine quiet_of (rs:=#[.tmp 2]) Go.Proofs.Tryz.func109 rfl rfl rfl mixed rfl rfl fun H hs=>?_
 simp -implicitDefEqProofs only [push_cast,Nat.reduceAdd,Nat.reduceSub,Nat.reduceMul,Nat.reduceLT,Nat.reduceLeDiff,Nat.reduceEqDiff,Nat.reduceBEq,reduceCtorEq,reduceIte,Int.reduceLE,Int.reduceLT,Int.reduceNeg,Int.reduceToNat]
 (try simp -implicitDefEqProofs only [push_cast,Nat.reduceAdd,Nat.reduceSub,Nat.reduceMul,Nat.reduceLT,Nat.reduceLeDiff,Nat.reduceEqDiff,Nat.reduceBEq,reduceCtorEq,reduceIte,Int.reduceLE,Int.reduceLT,Int.reduceNeg,Int.reduceToNat])
theorem colsTo_yes (c:List Df) (q:Qy) (is:Nat → Bool) (k:Nat) (h:is k = true):colsTo c q is (k + 1) = colsTo c q is k ++ colsFrom k (tabOf c q k).toNat:=by rw [colsTo,if_pos h]
theorem colsTo_no (c:List Df) (q:Qy) (is:Nat → Bool) (k:Nat) (h:is k = false):colsTo c q is (k + 1) = colsTo c q is k:=by rw [colsTo,if_neg (by simp [h]),List.append_nil]
theorem colsFrom_zero (o:Nat):colsFrom o 0 = []:=rfl
theorem colsFrom_len (o n:Nat):(colsFrom o n).length = n:=by rw [colsFrom,List.length_map,upto_len]
theorem colsTo_len {c:List Df} (h:catMay c = true) (q:Qy) (is:Nat → Bool):∀ k,(colsTo c q is k).length ≤ 4 * k
 | 0=>by rw [colsTo]; simp
 | k + 1=>by
  have hr:=tab_range h (q.occ.getD k (-1))
  change 0 ≤ tabOf c q k ∧ tabOf c q k ≤ 4 at hr
  have:=colsTo_len h q is k
  rw [colsTo,List.length_append]
  split
  ·rw [colsFrom_len]; omega
  ·rw [List.length_nil]; omega
def colsPart (c:List Df) (q:Qy) (is:Nat → Bool) (k j:Nat):List Int:=colsTo c q is k ++ colsFrom k j
theorem colsPart_zero (c:List Df) (q:Qy) (is:Nat → Bool) (k:Nat):colsPart c q is k 0 = colsTo c q is k:=by rw [colsPart,colsFrom_zero,List.append_nil]
theorem colsPart_snoc (c:List Df) (q:Qy) (is:Nat → Bool) (k j:Nat):colsPart c q is k (j + 1) = colsPart c q is k j ++ [4 * (k:Int) + j]:=by rw [colsPart,colsPart,colsFrom_snoc,List.append_assoc]
set_option maxHeartbeats 1000000 in
theorem all_ok (c:List Df) (q:Qy) (hc:catMay c = true) (hl:q.occ.length ≤ 1000000) (fn:FuncId) (bnd caps:List AV) (hb:PureL bnd) (hcp:PureL caps) (is:Nat → Bool)
  (hf:∀ o:Nat,o < 4 → Quiet Go.Proofs.Tryz.prog fn (bnd ++ .int o :: caps) (.bool (is o))) :
  Quiet Go.Proofs.Tryz.prog 74 [.agg [.sl (c.map encD)], .agg (encQ q), .clo (.func fn) bnd caps] (.sl ((colsIn c q is).map encI)):=by
 rw [← colsTo_eq hc]
 refine quiet_of (rs:=#[.tmp 6]) Go.Proofs.Tryz.func74 rfl rfl rfl mixed rfl rfl fun H hs=>?_
 simp -implicitDefEqProofs only [push_cast,Nat.reduceAdd,Nat.reduceSub,Nat.reduceMul,Nat.reduceLT,Nat.reduceLeDiff,Nat.reduceEqDiff,Nat.reduceBEq,reduceCtorEq,reduceIte,Int.reduceLE,Int.reduceLT,Int.reduceNeg,Int.reduceToNat,encQ]
 have hmin:(min (q.occ.length:Int) 4) = ((min q.occ.length 4:Nat):Int):=by omega
 refine loop_at hs (σ:=Nat) (fun k=>k ≤ min q.occ.length 4) (fun k=>min q.occ.length 4 - k)
  (fun k=>[(15, .int k),(14, .int (min q.occ.length 4:Nat)),(2, .clo (.func fn) bnd caps),(3, .ptr (H.nxt + 0) 1 0 0),(4, .ptr (H.nxt + 1) 6 0 0),(7, .rsl (H.nxt + 2) 1 0 (colsTo c q is k).length)])
  (fun k=>[some (.cells 1 [[.sl (c.map encD)]] 0),some (.cells 6 [encQ q] 0),some (.cells 1 (rowI (colsTo c q is k)) 0)]) [some 0,some 1,none] 0 (by omega) rfl ?_ ?_ ?_
 ·(try simp -implicitDefEqProofs only [push_cast,Nat.reduceAdd,Nat.reduceSub,Nat.reduceMul,Nat.reduceLT,Nat.reduceLeDiff,Nat.reduceEqDiff,Nat.reduceBEq,reduceCtorEq,reduceIte,Int.reduceLE,Int.reduceLT,Int.reduceNeg,Int.reduceToNat,colsTo,rowI_nil,encDs_pure,encIs_pure,encEs_pure,hb,hcp,encQ])
  split <;> omega
 ·(try simp -implicitDefEqProofs only [push_cast,Nat.reduceAdd,Nat.reduceSub,Nat.reduceMul,Nat.reduceLT,Nat.reduceLeDiff,Nat.reduceEqDiff,Nat.reduceBEq,reduceCtorEq,reduceIte,Int.reduceLE,Int.reduceLT,Int.reduceNeg,Int.reduceToNat,colsTo,rowI_nil,encDs_pure,encIs_pure,encEs_pure,encQ])
 intro k hk2
 by_cases hk:k < min q.occ.length 4
 ·have hk':((k:Int) < ((min q.occ.length 4:Nat):Int)) = True:=by simp; omega
  have hk0:(0 ≤ (k:Int)) = True:=by simp
  have hkl:k < q.occ.length:=by omega
  simp -implicitDefEqProofs only [push_cast,Nat.reduceAdd,Nat.reduceSub,Nat.reduceMul,Nat.reduceLT,Nat.reduceLeDiff,Nat.reduceEqDiff,Nat.reduceBEq,reduceCtorEq,reduceIte,Int.reduceLE,Int.reduceLT,Int.reduceNeg,Int.reduceToNat,hk',hk0,encQ,encIs_get q.occ k hkl,encI]
  refine ⟨by omega,callq (hf k (by omega)) ?_⟩
  simp -implicitDefEqProofs only [push_cast,Nat.reduceAdd,Nat.reduceSub,Nat.reduceMul,Nat.reduceLT,Nat.reduceLeDiff,Nat.reduceEqDiff,Nat.reduceBEq,reduceCtorEq,reduceIte,Int.reduceLE,Int.reduceLT,Int.reduceNeg,Int.reduceToNat]
  have hocc:q.occ.getD k (-1) = q.occ[k]:=by rw [List.getD_eq_getElem?_getD,List.getElem?_eq_getElem hkl]; rfl
  refine ⟨fun h=>?_,fun h=>?_⟩
  ·have hsk:colsTo c q is (k + 1) = colsTo c q is k:=by
    simp only [Bool.or_eq_true,Bool.not_eq_true',decide_eq_true_eq] at h
    cases his:is k
    ·exact colsTo_no c q is k his
    ·rw [colsTo_yes c q is k his,tabOf,hocc,tabCols,if_neg (by rw [his] at h; simp at h; omega)]
     simp [colsFrom,upto]
   rw [wrap64 (n:=(k:Int) + 1) (by omega) (by omega)]
   refine next_at [some 0,some 1,some 2] (k + 1) (by omega) (by omega) rfl ?_ ?_
   ·(try simp -implicitDefEqProofs only [push_cast,Nat.reduceAdd,Nat.reduceSub,Nat.reduceMul,Nat.reduceLT,Nat.reduceLeDiff,Nat.reduceEqDiff,Nat.reduceBEq,reduceCtorEq,reduceIte,Int.reduceLE,Int.reduceLT,Int.reduceNeg,Int.reduceToNat,hsk,encDs_pure,encIs_pure,encEs_pure,hb,hcp,encQ])
   ·(try simp -implicitDefEqProofs only [push_cast,Nat.reduceAdd,Nat.reduceSub,Nat.reduceMul,Nat.reduceLT,Nat.reduceLeDiff,Nat.reduceEqDiff,Nat.reduceBEq,reduceCtorEq,reduceIte,Int.reduceLE,Int.reduceLT,Int.reduceNeg,Int.reduceToNat,hsk,encDs_pure,encIs_pure,encEs_pure,hb,hcp,encQ,rowI_pure,rowI_one])
  ·simp only [Bool.or_eq_false_iff,Bool.not_eq_false',decide_eq_false_iff_not] at h
   obtain ⟨⟨his,ht0⟩,ht1⟩:=h
   obtain ⟨t,ht⟩:∃ t:Nat,q.occ[k] = t:=⟨q.occ[k].toNat,by omega⟩
   have htl:t < c.length:=by omega
   have ht0':(0 ≤ (t:Int)) = True:=by simp
   have ht1':((t:Int) < (c.length:Int)) = True:=by simp; omega
   have htab:tabOf c q k = c[t].cols:=by
    rw [tabOf,hocc,ht,tabCols,if_pos (by omega),Int.toNat_natCast,List.getD_eq_getElem?_getD,List.getElem?_eq_getElem htl]
    rfl
   have htr:=tab_range hc (q.occ.getD k (-1))
   change 0 ≤ tabOf c q k ∧ tabOf c q k ≤ 4 at htr
   rw [htab] at htr
   obtain ⟨m,hm⟩:∃ m:Nat,c[t].cols = m:=⟨c[t].cols.toNat,by omega⟩
   simp only [ht]
   simp -implicitDefEqProofs only [push_cast,Nat.reduceAdd,Nat.reduceSub,Nat.reduceMul,Nat.reduceLT,Nat.reduceLeDiff,Nat.reduceEqDiff,Nat.reduceBEq,reduceCtorEq,reduceIte,Int.reduceLE,Int.reduceLT,Int.reduceNeg,Int.reduceToNat,ht0',ht1',encDs_get c t htl,encD,hm]
   have hm4:m ≤ 4:=by omega
   have hcl:=colsTo_len hc q is k
   refine loop_at hs (σ:=Nat) (fun j=>j ≤ m) (fun j=>m - j)
    (fun j=>[(44, .int j),(43, .int m),(8, .int k),(15, .int k),(14, .int (min q.occ.length 4:Nat)),(2, .clo (.func fn) bnd caps),(3, .ptr (H.nxt + 0) 1 0 0),(4, .ptr (H.nxt + 1) 6 0 0),(7, .rsl (H.nxt + 2) 1 0 (colsPart c q is k j).length)])
    (fun j=>[some (.cells 1 [[.sl (c.map encD)]] 0),some (.cells 6 [encQ q] 0),some (.cells 1 (rowI (colsPart c q is k j)) 0)]) [some 0,some 1,some 2] 0 (by omega) rfl ?_ ?_ ?_
   ·(try simp -implicitDefEqProofs only [push_cast,Nat.reduceAdd,Nat.reduceSub,Nat.reduceMul,Nat.reduceLT,Nat.reduceLeDiff,Nat.reduceEqDiff,Nat.reduceBEq,reduceCtorEq,reduceIte,Int.reduceLE,Int.reduceLT,Int.reduceNeg,Int.reduceToNat,colsPart_zero,encDs_pure,encIs_pure,encEs_pure,hb,hcp,encQ])
   ·(try simp -implicitDefEqProofs only [push_cast,Nat.reduceAdd,Nat.reduceSub,Nat.reduceMul,Nat.reduceLT,Nat.reduceLeDiff,Nat.reduceEqDiff,Nat.reduceBEq,reduceCtorEq,reduceIte,Int.reduceLE,Int.reduceLT,Int.reduceNeg,Int.reduceToNat,colsPart_zero,encDs_pure,encIs_pure,encEs_pure,encQ,rowI_pure,rowI_one])
   intro j hj2
   have hjl:(colsPart c q is k j).length ≤ 20:=by rw [colsPart,List.length_append,colsFrom_len]; omega
   by_cases hj:j < m
   ·have hj':((j:Int) < (m:Int)) = True:=by simp; omega
    simp -implicitDefEqProofs only [push_cast,Nat.reduceAdd,Nat.reduceSub,Nat.reduceMul,Nat.reduceLT,Nat.reduceLeDiff,Nat.reduceEqDiff,Nat.reduceBEq,reduceCtorEq,reduceIte,Int.reduceLE,Int.reduceLT,Int.reduceNeg,Int.reduceToNat,hj',encQ]
    refine callq (Col_ok k j (by omega) (by omega) (by omega) (by omega)) ?_
    simp -implicitDefEqProofs only [push_cast,Nat.reduceAdd,Nat.reduceSub,Nat.reduceMul,Nat.reduceLT,Nat.reduceLeDiff,Nat.reduceEqDiff,Nat.reduceBEq,reduceCtorEq,reduceIte,Int.reduceLE,Int.reduceLT,Int.reduceNeg,Int.reduceToNat]
    refine ⟨by omega, ?_⟩
    rw [wrap64 (n:=(j:Int) + 1) (by omega) (by omega)]
    refine next_at [some 0,some 1,some 4] (j + 1) (by omega) (by omega) rfl ?_ ?_
    ·(try simp -implicitDefEqProofs only [push_cast,Nat.reduceAdd,Nat.reduceSub,Nat.reduceMul,Nat.reduceLT,Nat.reduceLeDiff,Nat.reduceEqDiff,Nat.reduceBEq,reduceCtorEq,reduceIte,Int.reduceLE,Int.reduceLT,Int.reduceNeg,Int.reduceToNat,colsPart_snoc,encDs_pure,encIs_pure,encEs_pure,hb,hcp,encQ])
    ·(try simp -implicitDefEqProofs only [push_cast,Nat.reduceAdd,Nat.reduceSub,Nat.reduceMul,Nat.reduceLT,Nat.reduceLeDiff,Nat.reduceEqDiff,Nat.reduceBEq,reduceCtorEq,reduceIte,Int.reduceLE,Int.reduceLT,Int.reduceNeg,Int.reduceToNat,colsPart_snoc,encDs_pure,encIs_pure,encEs_pure,encQ,take_rowI _ _ (Nat.le_refl _),snocI,rowI_pure,rowI_one])
   ·have hj':((j:Int) < (m:Int)) = False:=by simp; omega
    obtain rfl:j = m:=by omega
    have hsk:colsTo c q is (k + 1) = colsPart c q is k j:=by
     rw [colsPart,colsTo_yes c q is k his,htab,hm,Int.toNat_natCast]
    simp -implicitDefEqProofs only [push_cast,Nat.reduceAdd,Nat.reduceSub,Nat.reduceMul,Nat.reduceLT,Nat.reduceLeDiff,Nat.reduceEqDiff,Nat.reduceBEq,reduceCtorEq,reduceIte,Int.reduceLE,Int.reduceLT,Int.reduceNeg,Int.reduceToNat,hj',encQ]
    rw [wrap64 (n:=(k:Int) + 1) (by omega) (by omega)]
    refine next_at [some 0,some 1,some 2] (k + 1) (by omega) (by omega) rfl ?_ ?_
    ·(try simp -implicitDefEqProofs only [push_cast,Nat.reduceAdd,Nat.reduceSub,Nat.reduceMul,Nat.reduceLT,Nat.reduceLeDiff,Nat.reduceEqDiff,Nat.reduceBEq,reduceCtorEq,reduceIte,Int.reduceLE,Int.reduceLT,Int.reduceNeg,Int.reduceToNat,hsk,encDs_pure,encIs_pure,encEs_pure,hb,hcp,encQ])
    ·(try simp -implicitDefEqProofs only [push_cast,Nat.reduceAdd,Nat.reduceSub,Nat.reduceMul,Nat.reduceLT,Nat.reduceLeDiff,Nat.reduceEqDiff,Nat.reduceBEq,reduceCtorEq,reduceIte,Int.reduceLE,Int.reduceLT,Int.reduceNeg,Int.reduceToNat,hsk,encDs_pure,encIs_pure,encEs_pure,encQ,rowI_pure,rowI_one])
 ·have hk':((k:Int) < ((min q.occ.length 4:Nat):Int)) = False:=by simp; omega
  obtain rfl:k = min q.occ.length 4:=by omega
  simp -implicitDefEqProofs only [push_cast,Nat.reduceAdd,Nat.reduceSub,Nat.reduceMul,Nat.reduceLT,Nat.reduceLeDiff,Nat.reduceEqDiff,Nat.reduceBEq,reduceCtorEq,reduceIte,Int.reduceLE,Int.reduceLT,Int.reduceNeg,Int.reduceToNat,hk',encQ]
  (try simp -implicitDefEqProofs only [push_cast,Nat.reduceAdd,Nat.reduceSub,Nat.reduceMul,Nat.reduceLT,Nat.reduceLeDiff,Nat.reduceEqDiff,Nat.reduceBEq,reduceCtorEq,reduceIte,Int.reduceLE,Int.reduceLT,Int.reduceNeg,Int.reduceToNat])
  rw [take_rowI _ _ (Nat.le_refl _)]
  exact sealLL_pure _ _ _ (encIs_pure _)
end
section
attribute [local push_cast] encE_mk encE_take encE_len encV encE_one encEs_pure encE_pure
theorem plus_obj' (H:AH) (l:List (Option AObj)) (j:Nat):(H.plus l).obj j = if j < H.nxt then H.obj j else (l[j - H.nxt]?).join:=rfl
theorem plus_plus (H:AH) (l m:List (Option AObj)):(H.plus l).plus m = H.plus (l ++ m):=by
 refine ah_ext (fun j=>?_) (by simp only [plus_nxt,List.length_append]; omega)
 rw [plus_obj' (H.plus l),plus_obj' H,plus_obj' H,plus_nxt]
 by_cases h1:j < H.nxt
 ·rw [if_pos (by omega),if_pos h1,if_pos h1]
 ·rw [if_neg h1,if_neg h1]
  by_cases h2:j < H.nxt + l.length
  ·rw [if_pos h2,List.getElem?_append_left (by omega)]
  ·rw [if_neg h2,List.getElem?_append_right (by omega)]
   congr 2
   omega
theorem clone_ok (zs:List Int) (hz:zs.length ≤ 1000000) (H:AH):ACalls Go.Proofs.Tryz.prog 161 [.sl (rowI zs)] H
  (fun r H'=>(r = .rsl (H.nxt + 1) 1 0 zs.length ∧ H' = H.plus [none,some (.cells 1 (rowI zs) 0)]) ∨ (zs = [] ∧ r = .nilS ∧ H' = H.plus [])):=by
 refine acalls_sc (rs:=#[.tmp 2]) Go.Proofs.Tryz.func161 rfl rfl rfl mixed rfl (Nat.le_of_ble_eq_true rfl) fun hs _=>?_
 simp -implicitDefEqProofs only [push_cast,Nat.reduceAdd,Nat.reduceSub,Nat.reduceMul,Nat.reduceLT,Nat.reduceLeDiff,Nat.reduceEqDiff,Nat.reduceBEq,reduceCtorEq,reduceIte,Int.reduceLE,Int.reduceLT,Int.reduceNeg,Int.reduceToNat]
 intro b hb
 simp -implicitDefEqProofs only [push_cast,Nat.reduceAdd,Nat.reduceSub,Nat.reduceMul,Nat.reduceLT,Nat.reduceLeDiff,Nat.reduceEqDiff,Nat.reduceBEq,reduceCtorEq,reduceIte,Int.reduceLE,Int.reduceLT,Int.reduceNeg,Int.reduceToNat]
 refine ⟨fun h=>retk trivial (.inr ⟨?_,rfl,rfl⟩),fun h=>⟨⟨of_eq_true (rowI_one zs),fun e he=>?_,by omega⟩,retk trivial (.inl ⟨rfl,rfl⟩)⟩⟩
 ·cases zs with
  | nil=>rfl
  | cons z zs=>rw [h] at hb; exact absurd (hb rfl) (by decide)
 ·simp only [rowI,List.mem_map] at he
  obtain ⟨x,_,rfl⟩:=he
  rfl
theorem once_ok (zs:List Int) (hz:zs.length ≤ 1000000):Quiet Go.Proofs.Tryz.prog 112 [.sl (rowI zs)] (.bool (decide ((uniq zs).length = zs.length))):=by
 refine quiet_of (rs:=#[.tmp 2]) Go.Proofs.Tryz.func112 rfl rfl rfl mixed rfl rfl fun H hs=>?_
 simp -implicitDefEqProofs only [push_cast,Nat.reduceAdd,Nat.reduceSub,Nat.reduceMul,Nat.reduceLT,Nat.reduceLeDiff,Nat.reduceEqDiff,Nat.reduceBEq,reduceCtorEq,reduceIte,Int.reduceLE,Int.reduceLT,Int.reduceNeg,Int.reduceToNat]
 refine (clone_ok zs hz _).mono ?_
 rintro r H' (⟨rfl,rfl⟩ | ⟨rfl,rfl,rfl⟩)
 ·simp -implicitDefEqProofs only [push_cast,Nat.reduceAdd,Nat.reduceSub,Nat.reduceMul,Nat.reduceLT,Nat.reduceLeDiff,Nat.reduceEqDiff,Nat.reduceBEq,reduceCtorEq,reduceIte,Int.reduceLE,Int.reduceLT,Int.reduceNeg,Int.reduceToNat,plus_plus,Nat.add_zero]
  have hrow:(H.plus [none,some (.cells 1 (rowI zs) 0)]).obj (H.nxt + 1) = some (.cells 1 (rowI zs) 0):=by rw [plus_obj]; rfl
  refine (sort_ok (i:=H.nxt + 1) (zs:=zs) (by omega) hrow).mono ?_
  rintro r H3 ⟨rfl,rfl⟩
  simp -implicitDefEqProofs only [push_cast,Nat.reduceAdd,Nat.reduceSub,Nat.reduceMul,Nat.reduceLT,Nat.reduceLeDiff,Nat.reduceEqDiff,Nat.reduceBEq,reduceCtorEq,reduceIte,Int.reduceLE,Int.reduceLT,Int.reduceNeg,Int.reduceToNat]
  have hcc:=compact_ok (i:=H.nxt + 1) (zs:=zs.mergeSort fun x y=>decide (x ≤ y)) (H:=H.plus [none,some (.cells 1 (rowI (zs.mergeSort fun x y=>decide (x ≤ y))) 0)]) (by rw [List.length_mergeSort]; omega) (by rw [plus_obj]; rfl)
  rw [List.length_mergeSort] at hcc
  refine hcc.mono ?_
  rintro r H3 ⟨rfl,rfl⟩
  simp -implicitDefEqProofs only [push_cast,Nat.reduceAdd,Nat.reduceSub,Nat.reduceMul,Nat.reduceLT,Nat.reduceLeDiff,Nat.reduceEqDiff,Nat.reduceBEq,reduceCtorEq,reduceIte,Int.reduceLE,Int.reduceLT,Int.reduceNeg,Int.reduceToNat]
  rw [decide_eq_decide,uniq]
  omega
 ·simp -implicitDefEqProofs only [push_cast,Nat.reduceAdd,Nat.reduceSub,Nat.reduceMul,Nat.reduceLT,Nat.reduceLeDiff,Nat.reduceEqDiff,Nat.reduceBEq,reduceCtorEq,reduceIte,Int.reduceLE,Int.reduceLT,Int.reduceNeg,Int.reduceToNat,plus_plus,List.append_nil]
  refine (sortN_ok).mono ?_
  rintro r H3 ⟨rfl,rfl⟩
  simp -implicitDefEqProofs only [push_cast,Nat.reduceAdd,Nat.reduceSub,Nat.reduceMul,Nat.reduceLT,Nat.reduceLeDiff,Nat.reduceEqDiff,Nat.reduceBEq,reduceCtorEq,reduceIte,Int.reduceLE,Int.reduceLT,Int.reduceNeg,Int.reduceToNat]
  refine (compactN_ok).mono ?_
  rintro r H3 ⟨rfl,rfl⟩
  simp -implicitDefEqProofs only [push_cast,Nat.reduceAdd,Nat.reduceSub,Nat.reduceMul,Nat.reduceLT,Nat.reduceLeDiff,Nat.reduceEqDiff,Nat.reduceBEq,reduceCtorEq,reduceIte,Int.reduceLE,Int.reduceLT,Int.reduceNeg,Int.reduceToNat]
  simp [uniq,Lib.compact,Lib.compactUpTo]
end
section
attribute [local push_cast] encE_mk encE_take encE_len encV encE_one encEs_pure encE_pure
theorem MayQ1_ok (c:List Df) (t:Int):Quiet Go.Proofs.Tryz.prog 106 [.int t, .iptr [.sl (c.map encD)]] (.bool (!tabOk c t)):=by
 refine quiet_of (rs:=#[.tmp 3]) Go.Proofs.Tryz.func106 rfl rfl rfl mixed rfl rfl fun H hs=>?_
 simp -implicitDefEqProofs only [push_cast,Nat.reduceAdd,Nat.reduceSub,Nat.reduceMul,Nat.reduceLT,Nat.reduceLeDiff,Nat.reduceEqDiff,Nat.reduceBEq,reduceCtorEq,reduceIte,Int.reduceLE,Int.reduceLT,Int.reduceNeg,Int.reduceToNat]
 (try simp -implicitDefEqProofs only [push_cast,Nat.reduceAdd,Nat.reduceSub,Nat.reduceMul,Nat.reduceLT,Nat.reduceLeDiff,Nat.reduceEqDiff,Nat.reduceBEq,reduceCtorEq,reduceIte,Int.reduceLE,Int.reduceLT,Int.reduceNeg,Int.reduceToNat])
 unfold tabOk
 rw [Bool.not_and,← decide_not,← decide_not]
 congr 1 <;> rw [decide_eq_decide] <;> omega
theorem MayQ_ok (c:List Df) (hcl:c.length ≤ 1000000) (q:Qy) (hq:q.Ok):Quiet Go.Proofs.Tryz.prog 51 [.agg [.sl (c.map encD)], .agg (encQ q)] (.bool (q.may c)):=by
 refine quiet_of (rs:=#[.tmp 4]) Go.Proofs.Tryz.func51 rfl rfl rfl mixed rfl rfl fun H hs=>?_
 simp -implicitDefEqProofs only [push_cast,Nat.reduceAdd,Nat.reduceSub,Nat.reduceMul,Nat.reduceLT,Nat.reduceLeDiff,Nat.reduceEqDiff,Nat.reduceBEq,reduceCtorEq,reduceIte,Int.reduceLE,Int.reduceLT,Int.reduceNeg,Int.reduceToNat,encQ]
 refine fzk H 0 1 [.agg [.sl (c.map encD)]] (by rfl) (by omega) (by simp) ?_ ?_
 ·(try simp -implicitDefEqProofs only [push_cast,Nat.reduceAdd,Nat.reduceSub,Nat.reduceMul,Nat.reduceLT,Nat.reduceLeDiff,Nat.reduceEqDiff,Nat.reduceBEq,reduceCtorEq,reduceIte,Int.reduceLE,Int.reduceLT,Int.reduceNeg,Int.reduceToNat,encDs_pure])
 refine callq (dataMay_ok c hcl) ?_
 simp -implicitDefEqProofs only [push_cast,Nat.reduceAdd,Nat.reduceSub,Nat.reduceMul,Nat.reduceLT,Nat.reduceLeDiff,Nat.reduceEqDiff,Nat.reduceBEq,reduceCtorEq,reduceIte,Int.reduceLE,Int.reduceLT,Int.reduceNeg,Int.reduceToNat,encQ]
 refine gcalla [.sl (q.occ.map encI), .clo (.func 106) [] [.iptr [.sl (c.map encD)]]] (.bool (q.occ.any fun t=>!tabOk c t)) (fun h=>by simpa using h) (fun h=>containsFuncI_ok q.occ (by have:=hq.2.2.1; omega) _ [.iptr [.sl (c.map encD)]] (by simp [PureL,Pure,encDs_pure]) (fun t=>!tabOk c t) fun t _=>MayQ1_ok c t) ?_ ?_
 ·(try simp -implicitDefEqProofs only [push_cast,Nat.reduceAdd,Nat.reduceSub,Nat.reduceMul,Nat.reduceLT,Nat.reduceLeDiff,Nat.reduceEqDiff,Nat.reduceBEq,reduceCtorEq,reduceIte,Int.reduceLE,Int.reduceLT,Int.reduceNeg,Int.reduceToNat,encDs_pure,encIs_pure])
 simp -implicitDefEqProofs only [push_cast,Nat.reduceAdd,Nat.reduceSub,Nat.reduceMul,Nat.reduceLT,Nat.reduceLeDiff,Nat.reduceEqDiff,Nat.reduceBEq,reduceCtorEq,reduceIte,Int.reduceLE,Int.reduceLT,Int.reduceNeg,Int.reduceToNat,encQ]
 refine ⟨fun h=>?_,fun h=>?_⟩
 ·have:q.may c = false:=by
   simp only [Bool.or_eq_true,Bool.not_eq_true',decide_eq_true_eq,List.any_eq_true] at h
   unfold Qy.may
   rcases h with (((h | h) | h) | ⟨x,hx,h⟩) | h
   ·simp [h]
   ·simp [decide_eq_false (show ¬ 1 ≤ q.occ.length by omega)]
   ·simp [decide_eq_false (show ¬ q.occ.length ≤ 4 by omega)]
   ·have:q.occ.all (tabOk c) = false:=by
     rw [List.all_eq_false]; exact ⟨x,hx,by simp [h]⟩
    simp [this]
   ·simp [decide_eq_false (show ¬ q.p.length ≤ 6 by omega)]
  exact this.symm
 have hh:catMay c = true ∧ 1 ≤ q.occ.length ∧ q.occ.length ≤ 4 ∧ q.occ.all (tabOk c) = true ∧ q.p.length ≤ 6:=by
  simp only [Bool.or_eq_false_iff,Bool.not_eq_false',decide_eq_false_iff_not] at h
  obtain ⟨⟨⟨⟨h1,h2⟩,h3⟩,h4⟩,h5⟩:=h
  refine ⟨h1,by omega,by omega, ?_,by omega⟩
  rw [List.all_eq_true]
  intro x hx
  have:=List.any_eq_false.1 h4 x hx
  simpa using this
 obtain ⟨hc,ho1,ho4,hot,hp6⟩:=hh
 have hall:=all_ok c q hc hq.2.2.1 109 [] [] trivial trivial (fun _=>true) fun o _=>May2_ok o
 have hcols:(colsIn c q fun _=>true).length ≤ 16:=Nat.le_trans (List.length_filter_le _ _) (by rw [upto_len]; omega)
 have hmay:q.may c = (q.p.all (exIn (colsIn c q fun _=>true)) && endMay q (colsIn c q fun _=>true)):=by
  simp only [Qy.may,hc,hot,decide_eq_true ho1,decide_eq_true ho4,decide_eq_true hp6,Bool.true_and]
 rw [hmay]
 generalize (colsIn c q fun _=>true) = cols at hall hcols ⊢
 simp only [encQ] at hall
 refine callq hall ?_
 simp -implicitDefEqProofs only [push_cast,Nat.reduceAdd,Nat.reduceSub,Nat.reduceMul,Nat.reduceLT,Nat.reduceLeDiff,Nat.reduceEqDiff,Nat.reduceBEq,reduceCtorEq,reduceIte,Int.reduceLE,Int.reduceLT,Int.reduceNeg,Int.reduceToNat,encQ]
 refine loop_at hs (σ:=Nat) (fun i=>i ≤ q.p.length ∧ (q.p.take i).all (exIn cols) = true) (fun i=>q.p.length - i)
  (fun i=>[(45, .int i),(44, .int q.p.length),(43, .sl (q.p.map encE)),(6, .sl (cols.map encI)),(3, .ptr (H.nxt + 1) 6 0 0)]) (fun i=>[none,some (.cells 6 [encQ q] 0)]) [some 0,some 1] 0 ⟨by omega,by simp⟩ rfl ?_ ?_ ?_
 ·(try simp -implicitDefEqProofs only [push_cast,Nat.reduceAdd,Nat.reduceSub,Nat.reduceMul,Nat.reduceLT,Nat.reduceLeDiff,Nat.reduceEqDiff,Nat.reduceBEq,reduceCtorEq,reduceIte,Int.reduceLE,Int.reduceLT,Int.reduceNeg,Int.reduceToNat,encEs_pure,encIs_pure])
 ·(try simp -implicitDefEqProofs only [push_cast,Nat.reduceAdd,Nat.reduceSub,Nat.reduceMul,Nat.reduceLT,Nat.reduceLeDiff,Nat.reduceEqDiff,Nat.reduceBEq,reduceCtorEq,reduceIte,Int.reduceLE,Int.reduceLT,Int.reduceNeg,Int.reduceToNat,encEs_pure,encIs_pure,encQ])
 rintro i ⟨hi2,hai⟩
 by_cases hi:i < q.p.length
 ·have hi':((i:Int) < (q.p.length:Int)) = True:=by simp; omega
  have hi0:(0 ≤ (i:Int)) = True:=by simp
  have hok:=hq.2.1 _ (List.getElem_mem hi)
  simp -implicitDefEqProofs only [push_cast,Nat.reduceAdd,Nat.reduceSub,Nat.reduceMul,Nat.reduceLT,Nat.reduceLeDiff,Nat.reduceEqDiff,Nat.reduceBEq,reduceCtorEq,reduceIte,Int.reduceLE,Int.reduceLT,Int.reduceNeg,Int.reduceToNat,hi',hi0,encEs_get q.p i hi,encQ]
  refine callq (Cols_ok _ hok.1 hok.2) ?_
  simp -implicitDefEqProofs only [push_cast,Nat.reduceAdd,Nat.reduceSub,Nat.reduceMul,Nat.reduceLT,Nat.reduceLeDiff,Nat.reduceEqDiff,Nat.reduceBEq,reduceCtorEq,reduceIte,Int.reduceLE,Int.reduceLT,Int.reduceNeg,Int.reduceToNat,encQ]
  have hcl2:(q.p[i].cols).length ≤ 1000000:=Nat.le_trans (cols_len _) hok.2
  refine gcallq' (.bool (within q.p[i].cols cols)) (fun h=>by simpa using h) (fun _=>within_ok _ _ hcl2 (by omega)) ?_
  simp -implicitDefEqProofs only [push_cast,Nat.reduceAdd,Nat.reduceSub,Nat.reduceMul,Nat.reduceLT,Nat.reduceLeDiff,Nat.reduceEqDiff,Nat.reduceBEq,reduceCtorEq,reduceIte,Int.reduceLE,Int.reduceLT,Int.reduceNeg,Int.reduceToNat,encQ]
  have hex:exIn cols q.p[i] = !(decide ((q.p[i].cols.length:Int) = 0) || !within q.p[i].cols cols):=by
   unfold exIn
   rw [Bool.not_or,Bool.not_not]
   congr 2
   rw [decide_eq_decide]; omega
  refine ⟨fun h=>?_,fun h=>?_⟩
  ·have:q.p.all (exIn cols) = false:=by
    rw [List.all_eq_false]
    exact ⟨_,List.getElem_mem hi,by rw [hex,h]; simp⟩
   rw [this]
   rfl
  ·rw [wrap64 (n:=(i:Int) + 1) (by omega) (by omega)]
   refine next_at [some 0,some 1] (i + 1) ⟨by omega, ?_⟩ (by omega) rfl ?_ ?_
   ·rw [List.take_succ_eq_append_getElem hi,List.all_append,hai,List.all_cons,hex,h]
    rfl
   ·(try simp -implicitDefEqProofs only [push_cast,Nat.reduceAdd,Nat.reduceSub,Nat.reduceMul,Nat.reduceLT,Nat.reduceLeDiff,Nat.reduceEqDiff,Nat.reduceBEq,reduceCtorEq,reduceIte,Int.reduceLE,Int.reduceLT,Int.reduceNeg,Int.reduceToNat,encEs_pure,encIs_pure])
   ·(try simp -implicitDefEqProofs only [push_cast,Nat.reduceAdd,Nat.reduceSub,Nat.reduceMul,Nat.reduceLT,Nat.reduceLeDiff,Nat.reduceEqDiff,Nat.reduceBEq,reduceCtorEq,reduceIte,Int.reduceLE,Int.reduceLT,Int.reduceNeg,Int.reduceToNat,encEs_pure,encIs_pure,encQ])
 ·have hi':((i:Int) < (q.p.length:Int)) = False:=by simp; omega
  obtain rfl:i = q.p.length:=by omega
  rw [List.take_length] at hai
  rw [hai,Bool.true_and]
  by_cases hby:q.by_ = -1
  ·simp -implicitDefEqProofs only [push_cast,Nat.reduceAdd,Nat.reduceSub,Nat.reduceMul,Nat.reduceLT,Nat.reduceLeDiff,Nat.reduceEqDiff,Nat.reduceBEq,reduceCtorEq,reduceIte,Int.reduceLE,Int.reduceLT,Int.reduceNeg,Int.reduceToNat,hi',encQ,hby]
   refine gcallq' (.bool (decide ((uniq q.out).length = q.out.length))) (fun h=>by simpa using h) (fun _=>once_ok _ hq.2.2.2.2) ?_
   simp -implicitDefEqProofs only [push_cast,Nat.reduceAdd,Nat.reduceSub,Nat.reduceMul,Nat.reduceLT,Nat.reduceLeDiff,Nat.reduceEqDiff,Nat.reduceBEq,reduceCtorEq,reduceIte,Int.reduceLE,Int.reduceLT,Int.reduceNeg,Int.reduceToNat,encQ]
   refine gcallq' (.bool (within q.out cols)) (fun h=>by simpa using h) (fun _=>within_ok _ _ hq.2.2.2.2 (by omega)) ?_
   simp -implicitDefEqProofs only [push_cast,Nat.reduceAdd,Nat.reduceSub,Nat.reduceMul,Nat.reduceLT,Nat.reduceLeDiff,Nat.reduceEqDiff,Nat.reduceBEq,reduceCtorEq,reduceIte,Int.reduceLE,Int.reduceLT,Int.reduceNeg,Int.reduceToNat,encQ]
   refine gcallq' (.bool (q.out.contains q.ord)) (fun h=>by simpa using h) (fun _=>containsI_ok _ hq.2.2.2.2 _) ?_
   simp -implicitDefEqProofs only [push_cast,Nat.reduceAdd,Nat.reduceSub,Nat.reduceMul,Nat.reduceLT,Nat.reduceLeDiff,Nat.reduceEqDiff,Nat.reduceBEq,reduceCtorEq,reduceIte,Int.reduceLE,Int.reduceLT,Int.reduceNeg,Int.reduceToNat,encQ]
   refine ⟨fun h1 h2=>by rw [h1]; simpa using h2, ?_⟩
   have a1:decide ((1:Int) ≤ (q.out.length:Int)) = decide (1 ≤ q.out.length):=by rw [decide_eq_decide]; omega
   have a2:decide ((q.out.length:Int) ≤ 8) = decide (q.out.length ≤ 8):=by rw [decide_eq_decide]; omega
   have a3:decide ((q.sums.length:Int) = 0) = decide (q.sums.length = 0):=by rw [decide_eq_decide]; omega
   rw [a1,a2,a3,once_iff,endMay,if_pos hby]
  ·have hby':decide (q.by_ = -1) = false:=by simpa using hby
   simp -implicitDefEqProofs only [push_cast,Nat.reduceAdd,Nat.reduceSub,Nat.reduceMul,Nat.reduceLT,Nat.reduceLeDiff,Nat.reduceEqDiff,Nat.reduceBEq,reduceCtorEq,reduceIte,Int.reduceLE,Int.reduceLT,Int.reduceNeg,Int.reduceToNat,hi',encQ,hby']
   refine fzk H 2 1 [.sl ([q.by_].map encI), .sl (cols.map encI)] (by rfl) (by omega) (by simp) ?_ ?_
   ·(try simp -implicitDefEqProofs only [push_cast,Nat.reduceAdd,Nat.reduceSub,Nat.reduceMul,Nat.reduceLT,Nat.reduceLeDiff,Nat.reduceEqDiff,Nat.reduceBEq,reduceCtorEq,reduceIte,Int.reduceLE,Int.reduceLT,Int.reduceNeg,Int.reduceToNat,encIs_pure,encI])
   refine callq (within_ok [q.by_] cols (by simp) (by omega)) ?_
   simp -implicitDefEqProofs only [push_cast,Nat.reduceAdd,Nat.reduceSub,Nat.reduceMul,Nat.reduceLT,Nat.reduceLeDiff,Nat.reduceEqDiff,Nat.reduceBEq,reduceCtorEq,reduceIte,Int.reduceLE,Int.reduceLT,Int.reduceNeg,Int.reduceToNat,encQ]
   refine gcallq' (.bool (within q.sums cols)) (fun h=>by simpa using h) (fun _=>within_ok _ _ hq.2.2.2.1 (by omega)) ?_
   simp -implicitDefEqProofs only [push_cast,Nat.reduceAdd,Nat.reduceSub,Nat.reduceMul,Nat.reduceLT,Nat.reduceLeDiff,Nat.reduceEqDiff,Nat.reduceBEq,reduceCtorEq,reduceIte,Int.reduceLE,Int.reduceLT,Int.reduceNeg,Int.reduceToNat,encQ]
   refine ⟨fun h1 h2=>by rw [h1]; simpa using h2, ?_⟩
   have a2:decide ((q.sums.length:Int) ≤ 4) = decide (q.sums.length ≤ 4):=by rw [decide_eq_decide]; omega
   have a3:decide ((q.out.length:Int) = 0) = decide (q.out.length = 0):=by rw [decide_eq_decide]; omega
   rw [a2,a3,endMay,if_neg hby]
def Qy.cols (q:Qy) (c:List Df) (s:Int):List Int:=if q.may c then colsIn c q (bitI s) else []
theorem colsIn_le (c:List Df) (q:Qy) (is:Nat → Bool):(colsIn c q is).length ≤ 16:=Nat.le_trans (List.length_filter_le _ _) (by rw [upto_len]; omega)
theorem ColsQ_ok (c:List Df) (hcl:c.length ≤ 1000000) (q:Qy) (hq:q.Ok) (s:Int):Quiet Go.Proofs.Tryz.prog 26 [.agg [.sl (c.map encD)], .agg (encQ q), .int s] (.sl ((q.cols c s).map encI)):=by
 have hm:=MayQ_ok c hcl q hq
 refine quiet_of (rs:=#[.tmp 6]) Go.Proofs.Tryz.func26 rfl rfl rfl mixed rfl rfl fun H hs=>?_
 simp only [encQ] at hm
 simp -implicitDefEqProofs only [push_cast,Nat.reduceAdd,Nat.reduceSub,Nat.reduceMul,Nat.reduceLT,Nat.reduceLeDiff,Nat.reduceEqDiff,Nat.reduceBEq,reduceCtorEq,reduceIte,Int.reduceLE,Int.reduceLT,Int.reduceNeg,Int.reduceToNat,encQ]
 refine callq hm ?_
 simp -implicitDefEqProofs only [push_cast,Nat.reduceAdd,Nat.reduceSub,Nat.reduceMul,Nat.reduceLT,Nat.reduceLeDiff,Nat.reduceEqDiff,Nat.reduceBEq,reduceCtorEq,reduceIte,Int.reduceLE,Int.reduceLT,Int.reduceNeg,Int.reduceToNat,encQ]
 refine ⟨fun h=>by simp [Qy.cols,h],fun h=>?_⟩
 have hall:=all_ok c q (may_split h).1 hq.2.2.1 75 [.int s] [] (by simp [PureL,Pure]) trivial (bitI s) fun o ho=>setHas_ok s o (by omega)
 simp only [encQ] at hall
 refine callq hall ?_
 simp -implicitDefEqProofs only [push_cast,Nat.reduceAdd,Nat.reduceSub,Nat.reduceMul,Nat.reduceLT,Nat.reduceLeDiff,Nat.reduceEqDiff,Nat.reduceBEq,reduceCtorEq,reduceIte,Int.reduceLE,Int.reduceLT,Int.reduceNeg,Int.reduceToNat,encQ]
 (try simp -implicitDefEqProofs only [push_cast,Nat.reduceAdd,Nat.reduceSub,Nat.reduceMul,Nat.reduceLT,Nat.reduceLeDiff,Nat.reduceEqDiff,Nat.reduceBEq,reduceCtorEq,reduceIte,Int.reduceLE,Int.reduceLT,Int.reduceNeg,Int.reduceToNat])
 rw [Qy.cols,if_pos h]
 exact sealLL_pure _ _ _ (encIs_pure _)
end
end Go.Sim.Tryz
