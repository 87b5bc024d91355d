/- What the row rests on, part 6. Conditions: none. -/
import Derived.Test.YtclapofaecbobaaGreatM5
set_option linter.unusedSimpArgs false
set_option linter.unusedVariables false
set_option maxRecDepth 100000
namespace Go.Sim.Tryz
open Go Go.Sim
attribute [local push_cast] aops_cons aops_nil aopG_none aopG_some aopP_eq aopE_eq aopC_eq aopE?_eq aopC?_eq aopB_eq aopB?_eq abr anilq gopP_eq gopL_eq ahead_cons ahead_nil ahdG_none ahdG_some ahdP_eq ahdN_eq ahdC_eq ahdN?_eq ahdS_eq ahdS?_eq astoreN ahdC?_eq ghdP_eq ghdC_eq ghdC?_eq ghdZ_f ghdZ_t ahdI_eq ahdI?_eq ghdN?_eq aim_nil aim_cons isIn_nil isIn_none isIn_cons aimm aheP_eq aheA_eq aheC_eq aheC?_eq aheI?_eq aheA?_eq gheP_eq gheC_eq gheC?_eq gheZ_eq aheG_none aheG_some aheff_cons aheff_nil aapp gro_rsl gro_lit gro_esl opt_some opt_none no_eq acondT_true acondT_false acondT_lit aw_skip aw_region aw_regionD aw_seq aw_cond aw_block aw_loop aw_exit aw_label aw_ret thn_normal thn_exit thn_ret inb_normal inb_exit inb_ret qret_ret qret_normal gcond apure aeff anew acallee ares aresT aresL aresC ares1 qfin_eq ev ofV evL gokL tget tput_some tput_none initT abin aint aun aload afaddr aiaddr afield aindex aextract apick pickv_lit Bool.or_false Bool.false_or Bool.or_true Bool.true_or imp_self aslice chunk roomB abound aconv abuild afill splice alen aminmax abuiltin anil apart Value.oneCell' astore aappend srcEs abuildSlice amakeSlice amapPut alookup aput afind mget keyV sameV_int Option.isSome_some Option.isSome_none cond_true cond_false asets isEq plus_obj plus_nxt plus_add plus_set plus_del IntKind.bits Option.map_some Option.map_none Option.bind_some Option.bind_none Option.join_some Option.getD_some Option.getD_none Option.toList List.getElem?_toArray List.getElem?_cons_zero List.getElem?_cons_succ List.getElem?_nil List.length_cons List.length_nil List.length_map List.head?_cons List.cons_append List.nil_append List.append_nil List.map_cons List.map_nil List.getD_cons_zero List.getD_cons_succ List.replicate_succ List.replicate_zero List.set_cons_zero List.set_cons_succ List.take_succ_cons List.take_zero List.drop_succ_cons List.drop_zero List.all_cons List.all_nil Nat.zero_add if_true if_false true_and and_true false_and and_false true_implies implies_true forall_const Bool.and_true Bool.true_and Bool.false_and Bool.and_false Bool.true_beq Bool.false_beq Bool.not_not beq_tt beq_ff Int.toNat_natCast decide_true decide_false Bool.not_true Bool.not_false Bool.true_eq_false Bool.false_eq_true false_implies exists_prop eq_self bne_self_eq_false beq_self_eq_true decide_eq_true_eq decide_eq_false_iff_not Bool.not_eq_true' Bool.not_eq_false' AV.int AV.bool AV.nilS ne_eq not_false_eq_true not_true_eq_false exists_eq_left exists_eq_left' Nat.lt_irrefl core_lit grd_lit acells_lit one_lit core_agg grd_agg acells_agg one_agg core_tup grd_tup acells_tup one_tup core_sl grd_sl acells_sl one_sl core_esl grd_esl acells_esl one_esl core_rsl grd_rsl acells_rsl one_rsl core_ptr grd_ptr acells_ptr one_ptr core_iptr grd_iptr acells_iptr one_iptr core_clo grd_clo acells_clo one_clo core_mp grd_mp acells_mp one_mp core_any grd_any acells_any one_any core_gv grd_gv fit_agg fit_lit fit_sl fit_esl fit_rsl fit_ptr fit_iptr fit_clo fit_mp retq_ret retq_normal set_nxt set_set plus_obj_set plus_set_set app_get0 app_get app_set0 app_set List.append_assoc List.length_append List.length_set Nat.lt_add_one Nat.add_lt_add_iff_right Nat.lt_add_right_iff_pos Nat.add_lt_add_iff_left List.mem_cons List.not_mem_nil or_false forall_eq forall_eq_or_imp lt_s0 lt_s1 lt_s2 lt_s3 lt_s4 lt_s5 lt_s6 lt_s7 lt_s8 pickv_t pickv_f or_nand or_nand2 imp_and_l SealT SealOs sealO_cells sl_lit sl_any sl_agg sl_tup sl_sl sl_rsl slO sl_esl sl_nil sl_eslesl sl_eslnil sl_rslrsl sl_eslrsl sl_nilrsl sl_ptr sl_iptr sl_ptri slP sl_clo sl_mp sl_gv sll_nil sll_cons slll_nil slll_cons shut_eq shutO Option.join_none Fn.func.injEq and_self sealL_self sealLL_self seal_self PureL PureLL Pure Nat.le_refl Nat.zero_le AV.lit.injEq Value.int.injEq Value.bool.injEq false_or or_true true_or Int.natCast_zero Int.ofNat_zero Int.cast_ofNat_Int Int.natCast_add Int.natCast_one Option.some.injEq piL_is sop_nil sop_cons sop_none sop_some sopO_some sop_new shut_pi shutL_nil shutL_cons exQ_exit exQ_ret exQ_normal Go.Sim.Tryz.ty_load1 Go.Sim.Tryz.ty_zero1 Go.Sim.Tryz.ty_load2 Go.Sim.Tryz.ty_zero2 Go.Sim.Tryz.ty_und2 Go.Sim.Tryz.ty_load3 Go.Sim.Tryz.ty_zero3 Go.Sim.Tryz.ty_und3 Go.Sim.Tryz.ty_load4 Go.Sim.Tryz.ty_zero4 Go.Sim.Tryz.ty_und4 Go.Sim.Tryz.ty_load5 Go.Sim.Tryz.ty_zero5 Go.Sim.Tryz.ty_und5 Go.Sim.Tryz.ty_load9 Go.Sim.Tryz.ty_zero9 Go.Sim.Tryz.ty_und9 Go.Sim.Tryz.ty_load21 Go.Sim.Tryz.ty_zero21 Go.Sim.Tryz.ty_und21 Go.Sim.Tryz.ty_load22 Go.Sim.Tryz.ty_zero22 Go.Sim.Tryz.ty_el22 Go.Sim.Tryz.ty_zeroE22 Go.Sim.Tryz.ty_load24 Go.Sim.Tryz.ty_zero24 Go.Sim.Tryz.ty_fld24_0 Go.Sim.Tryz.ty_part24_0 Go.Sim.Tryz.ty_struct24 Go.Sim.Tryz.ty_load25 Go.Sim.Tryz.ty_zero25 Go.Sim.Tryz.ty_el25 Go.Sim.Tryz.ty_zeroE25 Go.Sim.Tryz.ty_load26 Go.Sim.Tryz.ty_zero26 Go.Sim.Tryz.ty_el26 Go.Sim.Tryz.ty_zeroE26 Go.Sim.Tryz.ty_load28 Go.Sim.Tryz.ty_zero28 Go.Sim.Tryz.ty_fld28_0 Go.Sim.Tryz.ty_part28_0 Go.Sim.Tryz.ty_fld28_1 Go.Sim.Tryz.ty_part28_1 Go.Sim.Tryz.ty_fld28_2 Go.Sim.Tryz.ty_part28_2 Go.Sim.Tryz.ty_fld28_3 Go.Sim.Tryz.ty_part28_3 Go.Sim.Tryz.ty_fld28_4 Go.Sim.Tryz.ty_part28_4 Go.Sim.Tryz.ty_fld28_5 Go.Sim.Tryz.ty_part28_5 Go.Sim.Tryz.ty_struct28 Go.Sim.Tryz.ty_load29 Go.Sim.Tryz.ty_zero29 Go.Sim.Tryz.ty_arr29 Go.Sim.Tryz.ty_part29_0 Go.Sim.Tryz.ty_part29_1 Go.Sim.Tryz.ty_struct29 Go.Sim.Tryz.ty_load30 Go.Sim.Tryz.ty_zero30 Go.Sim.Tryz.ty_el30 Go.Sim.Tryz.ty_zeroE30 Go.Sim.Tryz.ty_load32 Go.Sim.Tryz.ty_zero32 Go.Sim.Tryz.ty_fld32_0 Go.Sim.Tryz.ty_part32_0 Go.Sim.Tryz.ty_fld32_1 Go.Sim.Tryz.ty_part32_1 Go.Sim.Tryz.ty_fld32_2 Go.Sim.Tryz.ty_part32_2 Go.Sim.Tryz.ty_fld32_3 Go.Sim.Tryz.ty_part32_3 Go.Sim.Tryz.ty_struct32 Go.Sim.Tryz.ty_load37 Go.Sim.Tryz.ty_zero37 Go.Sim.Tryz.ty_el37 Go.Sim.Tryz.ty_zeroE37 Go.Sim.Tryz.ty_load39 Go.Sim.Tryz.ty_zero39 Go.Sim.Tryz.ty_fld39_0 Go.Sim.Tryz.ty_part39_0 Go.Sim.Tryz.ty_fld39_1 Go.Sim.Tryz.ty_part39_1 Go.Sim.Tryz.ty_struct39 Go.Sim.Tryz.ty_load52 Go.Sim.Tryz.ty_zero52 Go.Sim.Tryz.ty_fld52_0 Go.Sim.Tryz.ty_part52_0 Go.Sim.Tryz.ty_fld52_1 Go.Sim.Tryz.ty_part52_1 Go.Sim.Tryz.ty_fld52_2 Go.Sim.Tryz.ty_part52_2 Go.Sim.Tryz.ty_struct52 Go.Sim.Tryz.ty_load55 Go.Sim.Tryz.ty_zero55 Go.Sim.Tryz.ty_load56 Go.Sim.Tryz.ty_zero56 Go.Sim.Tryz.ty_load70 Go.Sim.Tryz.ty_zero70 Go.Sim.Tryz.ty_el70 Go.Sim.Tryz.ty_zeroE70 Go.Sim.Tryz.ty_load76 Go.Sim.Tryz.ty_zero76 Go.Sim.Tryz.ty_el76 Go.Sim.Tryz.ty_zeroE76 Go.Sim.Tryz.ty_load78 Go.Sim.Tryz.ty_zero78 Go.Sim.Tryz.ty_fld78_0 Go.Sim.Tryz.ty_part78_0 Go.Sim.Tryz.ty_struct78 Go.Sim.Tryz.ty_load84 Go.Sim.Tryz.ty_zero84 Go.Sim.Tryz.ty_fld84_0 Go.Sim.Tryz.ty_part84_0 Go.Sim.Tryz.ty_struct84 Go.Sim.Tryz.ty_load85 Go.Sim.Tryz.ty_zero85 Go.Sim.Tryz.ty_load92 Go.Sim.Tryz.ty_zero92 Go.Sim.Tryz.ty_load93 Go.Sim.Tryz.ty_zero93 Go.Sim.Tryz.ty_und93 Go.Sim.Tryz.ty_load95 Go.Sim.Tryz.ty_zero95 Go.Sim.Tryz.ty_und95 Go.Sim.Tryz.ty_load104 Go.Sim.Tryz.ty_zero104 Go.Sim.Tryz.ty_fld104_0 Go.Sim.Tryz.ty_part104_0 Go.Sim.Tryz.ty_fld104_1 Go.Sim.Tryz.ty_part104_1 Go.Sim.Tryz.ty_struct104 Go.Sim.Tryz.ty_load110 Go.Sim.Tryz.ty_zero110 Go.Sim.Tryz.ty_fld110_0 Go.Sim.Tryz.ty_part110_0 Go.Sim.Tryz.ty_fld110_1 Go.Sim.Tryz.ty_part110_1 Go.Sim.Tryz.ty_struct110 Go.Sim.Tryz.ty_load112 Go.Sim.Tryz.ty_zero112 Go.Sim.Tryz.ty_fld112_0 Go.Sim.Tryz.ty_part112_0 Go.Sim.Tryz.ty_fld112_1 Go.Sim.Tryz.ty_part112_1 Go.Sim.Tryz.ty_fld112_2 Go.Sim.Tryz.ty_part112_2 Go.Sim.Tryz.ty_fld112_3 Go.Sim.Tryz.ty_part112_3 Go.Sim.Tryz.ty_struct112 Go.Sim.Tryz.ty_load119 Go.Sim.Tryz.ty_zero119 Go.Sim.Tryz.ty_load123 Go.Sim.Tryz.ty_zero123 Go.Sim.Tryz.ty_fld123_0 Go.Sim.Tryz.ty_part123_0 Go.Sim.Tryz.ty_fld123_1 Go.Sim.Tryz.ty_part123_1 Go.Sim.Tryz.ty_struct123 Go.Sim.Tryz.ty_load124 Go.Sim.Tryz.ty_zero124 Go.Sim.Tryz.ty_el124 Go.Sim.Tryz.ty_zeroE124 Go.Sim.Tryz.ty_load125 Go.Sim.Tryz.ty_zero125 Go.Sim.Tryz.ty_el125 Go.Sim.Tryz.ty_zeroE125 Go.Sim.Tryz.ty_load128 Go.Sim.Tryz.ty_zero128 Go.Sim.Tryz.ty_fld128_0 Go.Sim.Tryz.ty_part128_0 Go.Sim.Tryz.ty_struct128 Go.Sim.Tryz.ty_load135 Go.Sim.Tryz.ty_zero135 Go.Sim.Tryz.ty_und135 Go.Sim.Tryz.ty_load140 Go.Sim.Tryz.ty_zero140 Go.Sim.Tryz.ty_load141 Go.Sim.Tryz.ty_zero141 Go.Sim.Tryz.ty_el141 Go.Sim.Tryz.ty_zeroE141 Go.Sim.Tryz.ty_load148 Go.Sim.Tryz.ty_zero148 Go.Sim.Tryz.ty_load151 Go.Sim.Tryz.ty_zero151 Go.Sim.Tryz.ty_load159 Go.Sim.Tryz.ty_zero159 Go.Sim.Tryz.ty_und159 Go.Sim.Tryz.ty_vzero128 Go.Sim.Tryz.ty_load168 Go.Sim.Tryz.ty_zero168 Go.Sim.Tryz.ty_fld168_0 Go.Sim.Tryz.ty_part168_0 Go.Sim.Tryz.ty_fld168_1 Go.Sim.Tryz.ty_part168_1 Go.Sim.Tryz.ty_fld168_2 Go.Sim.Tryz.ty_part168_2 Go.Sim.Tryz.ty_struct168 Go.Sim.Tryz.ty_load170 Go.Sim.Tryz.ty_zero170 Go.Sim.Tryz.ty_load172 Go.Sim.Tryz.ty_zero172 Go.Sim.Tryz.ty_und172 Go.Sim.Tryz.ty_load179 Go.Sim.Tryz.ty_zero179 Go.Sim.Tryz.ty_und179 Go.Sim.Tryz.ty_load181 Go.Sim.Tryz.ty_zero181 Go.Sim.Tryz.ty_load184 Go.Sim.Tryz.ty_zero184 Go.Sim.Tryz.ty_und184 Go.Sim.Tryz.ty_load188 Go.Sim.Tryz.ty_zero188 Go.Sim.Tryz.ty_load191 Go.Sim.Tryz.ty_zero191
section
attribute [local push_cast] encPl_mk encPl_take encPl_len encPl_one encPls_pure encPl_pure
def fitP (c:List Df) (q:Qy):Pl → Bool
 | .mk op _ a b l =>
  match l with
  | []=>true
  | [x]=>(q.cols c (treeP x).set).contains a
  | x :: y :: _=>if op = 1 then true else (q.pairs (treeP x).set (treeP y).set).contains (a,b) && (decide (op = 2) || (decide (x.order = a) && decide (y.order = b)))
theorem setOf_may {p:Pl} (hf:p.few = true) (hm:(treeP p).may = true):setOfP p = (treeP p).set:=by
 have h:p.tree.2 = true:=by rw [tree_iff,hf,hm]; rfl
 rw [setOfP,if_pos h,tree_1 h]
theorem idx_has (l:List Int) (x:Int):decide (idx (fun c=>decide (x = c)) l < 0) = !l.contains x:=by
 have h:decide (0 ≤ idx (fun c=>decide (x = c)) l) = l.any (fun c=>decide (x = c)):=idx_nonneg
 have e:∀ l:List Int,l.any (fun c=>decide (x = c)) = l.contains x:=by
  intro l
  induction l with
  | nil=>rfl
  | cons y l ih=>rw [List.any_cons,List.contains_cons,ih]; rfl
 rw [e] at h
 rw [← h,← decide_not,decide_eq_decide]
 omega
theorem parts_all (c:List Df) (q:Qy) (op occ a b:Int) (l:List Pl):(parts (.mk op occ a b l)).all (fitP c q) = (fitP c q (.mk op occ a b l) && (partsPl l).all (fitP c q)):=by
 rw [parts_mk,List.all_cons]
theorem pairs_le (q:Qy) (hq:q.Ok) (a b:Int):(q.pairs a b).length ≤ 1000000:=by
 have h1:=pairs_len q a b
 have h2:(q.new a b).length ≤ q.p.length:=idxF_lt _ _
 have:=hq.1
 omega
theorem partsPl_snoc (l:List Pl) (i:Nat) (h:i < l.length):partsPl (l.take (i + 1)) = partsPl (l.take i) ++ parts l[i]:=by
 have app:∀ l m:List Pl,partsPl (l ++ m) = partsPl l ++ partsPl m:=by
  intro l m
  induction l with
  | nil=>rw [partsPl,List.nil_append,List.nil_append]
  | cons x l ih=>rw [List.cons_append,partsPl_cons,partsPl_cons,ih,List.append_assoc]
 rw [List.take_succ_eq_append_getElem h,app,partsPl_cons,partsPl,List.append_nil]
theorem partsPl_end {l:List Pl} {i:Nat} (h:i < l.length) {f:Pl → Bool} (hf:(parts l[i]).all f = false):(partsPl l).all f = false:=by
 rw [List.all_eq_false] at hf ⊢
 obtain ⟨x,hx,h2⟩:=hf
 exact ⟨x,partsPl_mem (List.getElem_mem h) x hx,h2⟩
theorem has_snoc (ps:List (Int × Int)) (j:Nat) (hj:j < ps.length) (a b:Int):(ps.take (j + 1)).contains (a,b) = ((ps.take j).contains (a,b) || (decide (ps[j].1 = a) && decide (ps[j].2 = b))):=by
 rw [List.take_succ_eq_append_getElem hj,List.contains_append]
 congr 1
 rw [List.contains_cons,List.contains_nil,Bool.or_false,Bool.eq_iff_iff,beq_iff_eq,Bool.and_eq_true,decide_eq_true_eq,decide_eq_true_eq,Prod.ext_iff]
 exact ⟨fun h=>⟨h.1.symm,h.2.symm⟩,fun h=>⟨h.1.symm,h.2.symm⟩⟩
set_option maxHeartbeats 4000000 in
theorem fitsR_ok (c:List Df) (hcl:c.length ≤ 1000000) (q:Qy) (hq:q.Ok) (hqi:q.In) (p:Pl):p.Ok → p.few = true → (treeP p).may = true → Quiet Go.Proofs.Tryz.prog 85 [.agg [.sl (c.map encD)], .agg (encQ q), .agg (encPl p)] (.bool ((parts p).all (fitP c q))):=by
 induction p using Pl.ind with
 | h op occ a b l ih =>
 intro hok hf hm
 have hok':=hok
 obtain ⟨hl,hlo⟩:=hok
 have hmx:=part_may (few_own hf) hm
 have hfx:∀ x ∈ l,x.few = true:=fun x hx=>few_part hf hx
 have ih':=fun x hx=>ih x hx (hlo x hx) (hfx x hx) (hmx x hx)
 have hS:∀ x ∈ l,Quiet Go.Proofs.Tryz.prog 87 [.agg (encPl x)] (.int (treeP x).set):=fun x hx=>by
  rw [← setOf_may (hfx x hx) (hmx x hx)]; exact SetP_ok x (hlo x hx)
 have hSp:Quiet Go.Proofs.Tryz.prog 87 [.agg (encPl (.mk op occ a b l))] (.int (treeP (.mk op occ a b l)).set):=by
  rw [← setOf_may hf hm]; exact SetP_ok _ hok'
 have hO:∀ x ∈ l,Quiet Go.Proofs.Tryz.prog 33 [.agg (encPl x)] (.int x.order):=fun x hx=>OrderR_ok x (hlo x hx)
 have hR0:=parts_all c q op occ a b l
 generalize (parts (.mk op occ a b l)).all (fitP c q) = R at hR0 ⊢
 refine quiet_of (rs:=#[.tmp 6]) Go.Proofs.Tryz.func85 rfl rfl rfl mixed rfl rfl fun H hs=>?_
 rcases form_split (few_own hf) with ⟨rfl,hll⟩ | ⟨rfl,x,hll⟩ | ⟨hop,x,y,hll⟩
 ·have hft:fitP c q (.mk 0 occ a b l) = true:=by rw [hll]; rfl
  simp -implicitDefEqProofs only [push_cast,Nat.reduceAdd,Nat.reduceSub,Nat.reduceMul,Nat.reduceLT,Nat.reduceLeDiff,Nat.reduceEqDiff,Nat.reduceBEq,reduceCtorEq,reduceIte,Int.reduceLE,Int.reduceLT,Int.reduceNeg,Int.reduceToNat,encQ,Int.reduceEq,if_false]
  refine areg_at 25 (by kernel_rfl) (by kernel_rfl) ?_
  simp -implicitDefEqProofs only [push_cast,Nat.reduceAdd,Nat.reduceSub,Nat.reduceMul,Nat.reduceLT,Nat.reduceLeDiff,Nat.reduceEqDiff,Nat.reduceBEq,reduceCtorEq,reduceIte,Int.reduceLE,Int.reduceLT,Int.reduceNeg,Int.reduceToNat,encQ,Int.reduceEq,if_false]
  refine gcallq (.int 0) (fun h=>by cases h) ?_
  simp -implicitDefEqProofs only [push_cast,Nat.reduceAdd,Nat.reduceSub,Nat.reduceMul,Nat.reduceLT,Nat.reduceLeDiff,Nat.reduceEqDiff,Nat.reduceBEq,reduceCtorEq,reduceIte,Int.reduceLE,Int.reduceLT,Int.reduceNeg,Int.reduceToNat,encQ,Int.reduceEq,if_false]
  refine gcallq (.int 0) (fun h=>by cases h) ?_
  simp -implicitDefEqProofs only [push_cast,Nat.reduceAdd,Nat.reduceSub,Nat.reduceMul,Nat.reduceLT,Nat.reduceLeDiff,Nat.reduceEqDiff,Nat.reduceBEq,reduceCtorEq,reduceIte,Int.reduceLE,Int.reduceLT,Int.reduceNeg,Int.reduceToNat,encQ,Int.reduceEq,if_false]
  refine loop_at hs (σ:=Nat) (fun i=>i ≤ l.length ∧ (partsPl (l.take i)).all (fitP c q) = true) (fun i=>l.length - i)
   (fun i=>[(11, .int i),(3, .ptr (H.nxt + 0) 1 0 0),(4, .ptr (H.nxt + 1) 6 0 0),(5, .ptr (H.nxt + 2) 5 0 0)]) (fun i=>[some (.cells 1 [[.sl (c.map encD)]] 0),some (.cells 6 [encQ q] 0),some (.cells 5 [encPl (.mk 0 occ a b l)] 0)]) [some 0,some 1,some 2] 0 ⟨by omega,by simp [partsPl]⟩ rfl ?_ ?_ ?_
  ·(try simp -implicitDefEqProofs only [push_cast,Nat.reduceAdd,Nat.reduceSub,Nat.reduceMul,Nat.reduceLT,Nat.reduceLeDiff,Nat.reduceEqDiff,Nat.reduceBEq,reduceCtorEq,reduceIte,Int.reduceLE,Int.reduceLT,Int.reduceNeg,Int.reduceToNat,hll,encDs_pure,encEs_pure,encIs_pure,encQ,List.map_cons,List.map_nil])
  ·(try simp -implicitDefEqProofs only [push_cast,Nat.reduceAdd,Nat.reduceSub,Nat.reduceMul,Nat.reduceLT,Nat.reduceLeDiff,Nat.reduceEqDiff,Nat.reduceBEq,reduceCtorEq,reduceIte,Int.reduceLE,Int.reduceLT,Int.reduceNeg,Int.reduceToNat,hll,encDs_pure,encEs_pure,encIs_pure,encQ,List.map_cons,List.map_nil])
  rintro i ⟨hi2,hai⟩
  clear hll
  by_cases hi:i < l.length
  ·have hi':((i:Int) < (l.length:Int)) = True:=by simp; omega
   have hi0:(0 ≤ (i:Int)) = True:=by simp
   simp -implicitDefEqProofs only [push_cast,Nat.reduceAdd,Nat.reduceSub,Nat.reduceMul,Nat.reduceLT,Nat.reduceLeDiff,Nat.reduceEqDiff,Nat.reduceBEq,reduceCtorEq,reduceIte,Int.reduceLE,Int.reduceLT,Int.reduceNeg,Int.reduceToNat,hi',hi0,encPls_get l i hi,encQ]
   refine areg_at 9 (by kernel_rfl) (by kernel_rfl) ?_
   simp -implicitDefEqProofs only [push_cast,Nat.reduceAdd,Nat.reduceSub,Nat.reduceMul,Nat.reduceLT,Nat.reduceLeDiff,Nat.reduceEqDiff,Nat.reduceBEq,reduceCtorEq,reduceIte,Int.reduceLE,Int.reduceLT,Int.reduceNeg,Int.reduceToNat,hi',hi0,encPls_get l i hi,encQ]
   refine ahdq (ih' l[i] (List.getElem_mem hi)) ?_
   simp -implicitDefEqProofs only [push_cast,Nat.reduceAdd,Nat.reduceSub,Nat.reduceMul,Nat.reduceLT,Nat.reduceLeDiff,Nat.reduceEqDiff,Nat.reduceBEq,reduceCtorEq,reduceIte,Int.reduceLE,Int.reduceLT,Int.reduceNeg,Int.reduceToNat,encQ]
   refine ⟨fun h=>?_,fun h=>?_⟩
   ·rw [hR0,hft,partsPl_end hi h,Bool.true_and]
   ·rw [wrap64 (n:=(i:Int) + 1) (by omega) (by omega)]
    refine next_at [some 0,some 1,some 2] (i + 1) ⟨by omega,by rw [partsPl_snoc l i hi,List.all_append,hai,h]; rfl⟩ (by omega) rfl ?_ ?_
    ·(try simp -implicitDefEqProofs only [push_cast,Nat.reduceAdd,Nat.reduceSub,Nat.reduceMul,Nat.reduceLT,Nat.reduceLeDiff,Nat.reduceEqDiff,Nat.reduceBEq,reduceCtorEq,reduceIte,Int.reduceLE,Int.reduceLT,Int.reduceNeg,Int.reduceToNat,encDs_pure,encEs_pure,encIs_pure,encQ])
    ·(try simp -implicitDefEqProofs only [push_cast,Nat.reduceAdd,Nat.reduceSub,Nat.reduceMul,Nat.reduceLT,Nat.reduceLeDiff,Nat.reduceEqDiff,Nat.reduceBEq,reduceCtorEq,reduceIte,Int.reduceLE,Int.reduceLT,Int.reduceNeg,Int.reduceToNat,encDs_pure,encEs_pure,encIs_pure,encQ])
  ·have hi':((i:Int) < (l.length:Int)) = False:=by simp; omega
   rw [List.take_of_length_le (by omega)] at hai
   simp -implicitDefEqProofs only [push_cast,Nat.reduceAdd,Nat.reduceSub,Nat.reduceMul,Nat.reduceLT,Nat.reduceLeDiff,Nat.reduceEqDiff,Nat.reduceBEq,reduceCtorEq,reduceIte,Int.reduceLE,Int.reduceLT,Int.reduceNeg,Int.reduceToNat,hi',encQ]
   rw [hR0,hft,hai,Bool.true_and]
 ·have hfit:fitP c q (.mk 4 occ a b l) = (q.cols c (treeP (.mk 4 occ a b l)).set).contains a:=by rw [hll,treeP]; rfl
  have hcl2:(q.cols c (treeP (.mk 4 occ a b l)).set).length ≤ 1000000:=by
   unfold Qy.cols
   split
   ·have:=colsIn_le c q (bitI (treeP (.mk 4 occ a b l)).set); omega
   ·simp
  rw [encPl_mk] at hSp
  simp -implicitDefEqProofs only [push_cast,Nat.reduceAdd,Nat.reduceSub,Nat.reduceMul,Nat.reduceLT,Nat.reduceLeDiff,Nat.reduceEqDiff,Nat.reduceBEq,reduceCtorEq,reduceIte,Int.reduceLE,Int.reduceLT,Int.reduceNeg,Int.reduceToNat,encQ,Int.reduceEq,if_false,if_true,or_true,or_false,true_or,false_or,List.map_cons,List.map_nil,List.length_cons,List.length_nil,Int.reduceAdd]
  refine areg_at 6 (by kernel_rfl) (by kernel_rfl) ?_
  simp -implicitDefEqProofs only [push_cast,Nat.reduceAdd,Nat.reduceSub,Nat.reduceMul,Nat.reduceLT,Nat.reduceLeDiff,Nat.reduceEqDiff,Nat.reduceBEq,reduceCtorEq,reduceIte,Int.reduceLE,Int.reduceLT,Int.reduceNeg,Int.reduceToNat,encQ,Int.reduceEq,if_false,if_true,or_true,or_false,true_or,false_or,List.map_cons,List.map_nil,List.length_cons,List.length_nil,Int.reduceAdd]
  refine ahdq hSp ?_
  simp -implicitDefEqProofs only [push_cast,Nat.reduceAdd,Nat.reduceSub,Nat.reduceMul,Nat.reduceLT,Nat.reduceLeDiff,Nat.reduceEqDiff,Nat.reduceBEq,reduceCtorEq,reduceIte,Int.reduceLE,Int.reduceLT,Int.reduceNeg,Int.reduceToNat,encQ,Int.reduceEq,if_false,if_true,or_true,or_false,true_or,false_or,List.map_cons,List.map_nil,List.length_cons,List.length_nil,Int.reduceAdd]
  refine ahdq (ColsRQ_ok c hcl q hq hqi _) ?_
  simp -implicitDefEqProofs only [push_cast,Nat.reduceAdd,Nat.reduceSub,Nat.reduceMul,Nat.reduceLT,Nat.reduceLeDiff,Nat.reduceEqDiff,Nat.reduceBEq,reduceCtorEq,reduceIte,Int.reduceLE,Int.reduceLT,Int.reduceNeg,Int.reduceToNat,encQ,Int.reduceEq,if_false,if_true,or_true,or_false,true_or,false_or,List.map_cons,List.map_nil,List.length_cons,List.length_nil,Int.reduceAdd]
  refine callq (Place_ok _ hcl2 a) ?_
  simp -implicitDefEqProofs only [push_cast,Nat.reduceAdd,Nat.reduceSub,Nat.reduceMul,Nat.reduceLT,Nat.reduceLeDiff,Nat.reduceEqDiff,Nat.reduceBEq,reduceCtorEq,reduceIte,Int.reduceLE,Int.reduceLT,Int.reduceNeg,Int.reduceToNat,encQ,Int.reduceEq,if_false,if_true,or_true,or_false,true_or,false_or,List.map_cons,List.map_nil,List.length_cons,List.length_nil,Int.reduceAdd]
  have hix:=idx_has (q.cols c (treeP (.mk 4 occ a b l)).set) a
  rw [← hfit] at hix
  refine ⟨fun h=>?_,fun h=>?_⟩
  ·rw [decide_eq_true h] at hix
   rw [hR0,← Bool.not_not (fitP c q _),← hix]; rfl
  rw [decide_eq_false h] at hix
  have hft:fitP c q (.mk 4 occ a b l) = true:=by rw [← Bool.not_not (fitP c q _),← hix]; rfl
  refine areg_at 25 (by kernel_rfl) (by kernel_rfl) ?_
  simp -implicitDefEqProofs only [push_cast,Nat.reduceAdd,Nat.reduceSub,Nat.reduceMul,Nat.reduceLT,Nat.reduceLeDiff,Nat.reduceEqDiff,Nat.reduceBEq,reduceCtorEq,reduceIte,Int.reduceLE,Int.reduceLT,Int.reduceNeg,Int.reduceToNat,encQ,Int.reduceEq,if_false,if_true,or_true,or_false,true_or,false_or,List.map_cons,List.map_nil,List.length_cons,List.length_nil,Int.reduceAdd]
  refine gcallq (.int 0) (fun h=>by cases h) ?_
  simp -implicitDefEqProofs only [push_cast,Nat.reduceAdd,Nat.reduceSub,Nat.reduceMul,Nat.reduceLT,Nat.reduceLeDiff,Nat.reduceEqDiff,Nat.reduceBEq,reduceCtorEq,reduceIte,Int.reduceLE,Int.reduceLT,Int.reduceNeg,Int.reduceToNat,encQ,Int.reduceEq,if_false,if_true,or_true,or_false,true_or,false_or,List.map_cons,List.map_nil,List.length_cons,List.length_nil,Int.reduceAdd]
  refine gcallq (.int 0) (fun h=>by cases h) ?_
  simp -implicitDefEqProofs only [push_cast,Nat.reduceAdd,Nat.reduceSub,Nat.reduceMul,Nat.reduceLT,Nat.reduceLeDiff,Nat.reduceEqDiff,Nat.reduceBEq,reduceCtorEq,reduceIte,Int.reduceLE,Int.reduceLT,Int.reduceNeg,Int.reduceToNat,encQ,Int.reduceEq,if_false,if_true,or_true,or_false,true_or,false_or,List.map_cons,List.map_nil,List.length_cons,List.length_nil,Int.reduceAdd]
  refine loop_at hs (σ:=Nat) (fun i=>i ≤ l.length ∧ (partsPl (l.take i)).all (fitP c q) = true) (fun i=>l.length - i)
   (fun i=>[(11, .int i),(3, .ptr (H.nxt + 0) 1 0 0),(4, .ptr (H.nxt + 1) 6 0 0),(5, .ptr (H.nxt + 2) 5 0 0)]) (fun i=>[some (.cells 1 [[.sl (c.map encD)]] 0),some (.cells 6 [encQ q] 0),some (.cells 5 [encPl (.mk 4 occ a b l)] 0)]) [some 0,some 1,some 2] 0 ⟨by omega,by simp [partsPl]⟩ rfl ?_ ?_ ?_
  ·(try simp -implicitDefEqProofs only [push_cast,Nat.reduceAdd,Nat.reduceSub,Nat.reduceMul,Nat.reduceLT,Nat.reduceLeDiff,Nat.reduceEqDiff,Nat.reduceBEq,reduceCtorEq,reduceIte,Int.reduceLE,Int.reduceLT,Int.reduceNeg,Int.reduceToNat,hll,encDs_pure,encEs_pure,encIs_pure,encQ,List.map_cons,List.map_nil])
  ·(try simp -implicitDefEqProofs only [push_cast,Nat.reduceAdd,Nat.reduceSub,Nat.reduceMul,Nat.reduceLT,Nat.reduceLeDiff,Nat.reduceEqDiff,Nat.reduceBEq,reduceCtorEq,reduceIte,Int.reduceLE,Int.reduceLT,Int.reduceNeg,Int.reduceToNat,hll,encDs_pure,encEs_pure,encIs_pure,encQ,List.map_cons,List.map_nil])
  rintro i ⟨hi2,hai⟩
  clear hll
  by_cases hi:i < l.length
  ·have hi':((i:Int) < (l.length:Int)) = True:=by simp; omega
   have hi0:(0 ≤ (i:Int)) = True:=by simp
   simp -implicitDefEqProofs only [push_cast,Nat.reduceAdd,Nat.reduceSub,Nat.reduceMul,Nat.reduceLT,Nat.reduceLeDiff,Nat.reduceEqDiff,Nat.reduceBEq,reduceCtorEq,reduceIte,Int.reduceLE,Int.reduceLT,Int.reduceNeg,Int.reduceToNat,hi',hi0,encPls_get l i hi,encQ]
   refine areg_at 9 (by kernel_rfl) (by kernel_rfl) ?_
   simp -implicitDefEqProofs only [push_cast,Nat.reduceAdd,Nat.reduceSub,Nat.reduceMul,Nat.reduceLT,Nat.reduceLeDiff,Nat.reduceEqDiff,Nat.reduceBEq,reduceCtorEq,reduceIte,Int.reduceLE,Int.reduceLT,Int.reduceNeg,Int.reduceToNat,hi',hi0,encPls_get l i hi,encQ]
   refine ahdq (ih' l[i] (List.getElem_mem hi)) ?_
   simp -implicitDefEqProofs only [push_cast,Nat.reduceAdd,Nat.reduceSub,Nat.reduceMul,Nat.reduceLT,Nat.reduceLeDiff,Nat.reduceEqDiff,Nat.reduceBEq,reduceCtorEq,reduceIte,Int.reduceLE,Int.reduceLT,Int.reduceNeg,Int.reduceToNat,encQ]
   refine ⟨fun h=>?_,fun h=>?_⟩
   ·rw [hR0,hft,partsPl_end hi h,Bool.true_and]
   ·rw [wrap64 (n:=(i:Int) + 1) (by omega) (by omega)]
    refine next_at [some 0,some 1,some 2] (i + 1) ⟨by omega,by rw [partsPl_snoc l i hi,List.all_append,hai,h]; rfl⟩ (by omega) rfl ?_ ?_
    ·(try simp -implicitDefEqProofs only [push_cast,Nat.reduceAdd,Nat.reduceSub,Nat.reduceMul,Nat.reduceLT,Nat.reduceLeDiff,Nat.reduceEqDiff,Nat.reduceBEq,reduceCtorEq,reduceIte,Int.reduceLE,Int.reduceLT,Int.reduceNeg,Int.reduceToNat,encDs_pure,encEs_pure,encIs_pure,encQ])
    ·(try simp -implicitDefEqProofs only [push_cast,Nat.reduceAdd,Nat.reduceSub,Nat.reduceMul,Nat.reduceLT,Nat.reduceLeDiff,Nat.reduceEqDiff,Nat.reduceBEq,reduceCtorEq,reduceIte,Int.reduceLE,Int.reduceLT,Int.reduceNeg,Int.reduceToNat,encDs_pure,encEs_pure,encIs_pure,encQ])
  ·have hi':((i:Int) < (l.length:Int)) = False:=by simp; omega
   rw [List.take_of_length_le (by omega)] at hai
   simp -implicitDefEqProofs only [push_cast,Nat.reduceAdd,Nat.reduceSub,Nat.reduceMul,Nat.reduceLT,Nat.reduceLeDiff,Nat.reduceEqDiff,Nat.reduceBEq,reduceCtorEq,reduceIte,Int.reduceLE,Int.reduceLT,Int.reduceNeg,Int.reduceToNat,hi',encQ]
   rw [hR0,hft,hai,Bool.true_and]
 ·have hg0:∀ z:List AV,([x,y].map encPl).getD 0 z = encPl x:=fun _=>rfl
  have hg1:∀ z:List AV,([x,y].map encPl).getD 1 z = encPl y:=fun _=>rfl
  have hSx:=hS x (by rw [hll]; simp)
  have hSy:=hS y (by rw [hll]; simp)
  have hOx:=hO x (by rw [hll]; simp)
  have hOy:=hO y (by rw [hll]; simp)
  have hfit:fitP c q (.mk op occ a b l) = (if op = 1 then true else (q.pairs (treeP x).set (treeP y).set).contains (a,b) && (decide (op = 2) || (decide (x.order = a) && decide (y.order = b)))):=by rw [hll]; rfl
  rcases hop with rfl | rfl | rfl
  ·have hft:fitP c q (.mk 1 occ a b l) = true:=by rw [hfit,if_pos rfl]
   simp -implicitDefEqProofs only [push_cast,Nat.reduceAdd,Nat.reduceSub,Nat.reduceMul,Nat.reduceLT,Nat.reduceLeDiff,Nat.reduceEqDiff,Nat.reduceBEq,reduceCtorEq,reduceIte,Int.reduceLE,Int.reduceLT,Int.reduceNeg,Int.reduceToNat,encQ,Int.reduceEq,if_false,if_true,or_true,or_false,true_or,false_or,List.map_cons,List.map_nil,List.length_cons,List.length_nil,Int.reduceAdd,hll,hg0,hg1]
   refine areg_at 25 (by kernel_rfl) (by kernel_rfl) ?_
   simp -implicitDefEqProofs only [push_cast,Nat.reduceAdd,Nat.reduceSub,Nat.reduceMul,Nat.reduceLT,Nat.reduceLeDiff,Nat.reduceEqDiff,Nat.reduceBEq,reduceCtorEq,reduceIte,Int.reduceLE,Int.reduceLT,Int.reduceNeg,Int.reduceToNat,encQ,Int.reduceEq,if_false,if_true,or_true,or_false,true_or,false_or,List.map_cons,List.map_nil,List.length_cons,List.length_nil,Int.reduceAdd,hll,hg0,hg1]
   refine gcallq (.int 0) (fun h=>by cases h) ?_
   simp -implicitDefEqProofs only [push_cast,Nat.reduceAdd,Nat.reduceSub,Nat.reduceMul,Nat.reduceLT,Nat.reduceLeDiff,Nat.reduceEqDiff,Nat.reduceBEq,reduceCtorEq,reduceIte,Int.reduceLE,Int.reduceLT,Int.reduceNeg,Int.reduceToNat,encQ,Int.reduceEq,if_false,if_true,or_true,or_false,true_or,false_or,List.map_cons,List.map_nil,List.length_cons,List.length_nil,Int.reduceAdd,hll,hg0,hg1]
   refine gcallq (.int 0) (fun h=>by cases h) ?_
   simp -implicitDefEqProofs only [push_cast,Nat.reduceAdd,Nat.reduceSub,Nat.reduceMul,Nat.reduceLT,Nat.reduceLeDiff,Nat.reduceEqDiff,Nat.reduceBEq,reduceCtorEq,reduceIte,Int.reduceLE,Int.reduceLT,Int.reduceNeg,Int.reduceToNat,encQ,Int.reduceEq,if_false,if_true,or_true,or_false,true_or,false_or,List.map_cons,List.map_nil,List.length_cons,List.length_nil,Int.reduceAdd,hll,hg0,hg1]
   refine loop_at hs (σ:=Nat) (fun i=>i ≤ l.length ∧ (partsPl (l.take i)).all (fitP c q) = true) (fun i=>l.length - i)
    (fun i=>[(11, .int i),(3, .ptr (H.nxt + 0) 1 0 0),(4, .ptr (H.nxt + 1) 6 0 0),(5, .ptr (H.nxt + 2) 5 0 0)]) (fun i=>[some (.cells 1 [[.sl (c.map encD)]] 0),some (.cells 6 [encQ q] 0),some (.cells 5 [encPl (.mk 1 occ a b l)] 0)]) [some 0,some 1,some 2] 0 ⟨by omega,by simp [partsPl]⟩ rfl ?_ ?_ ?_
   ·(try simp -implicitDefEqProofs only [push_cast,Nat.reduceAdd,Nat.reduceSub,Nat.reduceMul,Nat.reduceLT,Nat.reduceLeDiff,Nat.reduceEqDiff,Nat.reduceBEq,reduceCtorEq,reduceIte,Int.reduceLE,Int.reduceLT,Int.reduceNeg,Int.reduceToNat,hll,encDs_pure,encEs_pure,encIs_pure,encQ,List.map_cons,List.map_nil])
   ·(try simp -implicitDefEqProofs only [push_cast,Nat.reduceAdd,Nat.reduceSub,Nat.reduceMul,Nat.reduceLT,Nat.reduceLeDiff,Nat.reduceEqDiff,Nat.reduceBEq,reduceCtorEq,reduceIte,Int.reduceLE,Int.reduceLT,Int.reduceNeg,Int.reduceToNat,hll,encDs_pure,encEs_pure,encIs_pure,encQ,List.map_cons,List.map_nil])
   rintro i ⟨hi2,hai⟩
   clear hll
   by_cases hi:i < l.length
   ·have hi':((i:Int) < (l.length:Int)) = True:=by simp; omega
    have hi0:(0 ≤ (i:Int)) = True:=by simp
    simp -implicitDefEqProofs only [push_cast,Nat.reduceAdd,Nat.reduceSub,Nat.reduceMul,Nat.reduceLT,Nat.reduceLeDiff,Nat.reduceEqDiff,Nat.reduceBEq,reduceCtorEq,reduceIte,Int.reduceLE,Int.reduceLT,Int.reduceNeg,Int.reduceToNat,hi',hi0,encPls_get l i hi,encQ]
    refine areg_at 9 (by kernel_rfl) (by kernel_rfl) ?_
    simp -implicitDefEqProofs only [push_cast,Nat.reduceAdd,Nat.reduceSub,Nat.reduceMul,Nat.reduceLT,Nat.reduceLeDiff,Nat.reduceEqDiff,Nat.reduceBEq,reduceCtorEq,reduceIte,Int.reduceLE,Int.reduceLT,Int.reduceNeg,Int.reduceToNat,hi',hi0,encPls_get l i hi,encQ]
    refine ahdq (ih' l[i] (List.getElem_mem hi)) ?_
    simp -implicitDefEqProofs only [push_cast,Nat.reduceAdd,Nat.reduceSub,Nat.reduceMul,Nat.reduceLT,Nat.reduceLeDiff,Nat.reduceEqDiff,Nat.reduceBEq,reduceCtorEq,reduceIte,Int.reduceLE,Int.reduceLT,Int.reduceNeg,Int.reduceToNat,encQ]
    refine ⟨fun h=>?_,fun h=>?_⟩
    ·rw [hR0,hft,partsPl_end hi h,Bool.true_and]
    ·rw [wrap64 (n:=(i:Int) + 1) (by omega) (by omega)]
     refine next_at [some 0,some 1,some 2] (i + 1) ⟨by omega,by rw [partsPl_snoc l i hi,List.all_append,hai,h]; rfl⟩ (by omega) rfl ?_ ?_
     ·(try simp -implicitDefEqProofs only [push_cast,Nat.reduceAdd,Nat.reduceSub,Nat.reduceMul,Nat.reduceLT,Nat.reduceLeDiff,Nat.reduceEqDiff,Nat.reduceBEq,reduceCtorEq,reduceIte,Int.reduceLE,Int.reduceLT,Int.reduceNeg,Int.reduceToNat,encDs_pure,encEs_pure,encIs_pure,encQ])
     ·(try simp -implicitDefEqProofs only [push_cast,Nat.reduceAdd,Nat.reduceSub,Nat.reduceMul,Nat.reduceLT,Nat.reduceLeDiff,Nat.reduceEqDiff,Nat.reduceBEq,reduceCtorEq,reduceIte,Int.reduceLE,Int.reduceLT,Int.reduceNeg,Int.reduceToNat,encDs_pure,encEs_pure,encIs_pure,encQ])
   ·have hi':((i:Int) < (l.length:Int)) = False:=by simp; omega
    rw [List.take_of_length_le (by omega)] at hai
    simp -implicitDefEqProofs only [push_cast,Nat.reduceAdd,Nat.reduceSub,Nat.reduceMul,Nat.reduceLT,Nat.reduceLeDiff,Nat.reduceEqDiff,Nat.reduceBEq,reduceCtorEq,reduceIte,Int.reduceLE,Int.reduceLT,Int.reduceNeg,Int.reduceToNat,hi',encQ]
    rw [hR0,hft,hai,Bool.true_and]
  ·simp -implicitDefEqProofs only [push_cast,Nat.reduceAdd,Nat.reduceSub,Nat.reduceMul,Nat.reduceLT,Nat.reduceLeDiff,Nat.reduceEqDiff,Nat.reduceBEq,reduceCtorEq,reduceIte,Int.reduceLE,Int.reduceLT,Int.reduceNeg,Int.reduceToNat,encQ,Int.reduceEq,if_false,if_true,or_true,or_false,true_or,false_or,List.map_cons,List.map_nil,List.length_cons,List.length_nil,Int.reduceAdd,hll,hg0,hg1]
   refine areg_at 13 (by kernel_rfl) (by kernel_rfl) ?_
   simp -implicitDefEqProofs only [push_cast,Nat.reduceAdd,Nat.reduceSub,Nat.reduceMul,Nat.reduceLT,Nat.reduceLeDiff,Nat.reduceEqDiff,Nat.reduceBEq,reduceCtorEq,reduceIte,Int.reduceLE,Int.reduceLT,Int.reduceNeg,Int.reduceToNat,encQ,Int.reduceEq,if_false,if_true,or_true,or_false,true_or,false_or,List.map_cons,List.map_nil,List.length_cons,List.length_nil,Int.reduceAdd,hll,hg0,hg1]
   refine ahdq hSx ?_
   simp -implicitDefEqProofs only [push_cast,Nat.reduceAdd,Nat.reduceSub,Nat.reduceMul,Nat.reduceLT,Nat.reduceLeDiff,Nat.reduceEqDiff,Nat.reduceBEq,reduceCtorEq,reduceIte,Int.reduceLE,Int.reduceLT,Int.reduceNeg,Int.reduceToNat,encQ,Int.reduceEq,if_false,if_true,or_true,or_false,true_or,false_or,List.map_cons,List.map_nil,List.length_cons,List.length_nil,Int.reduceAdd,hll,hg0,hg1]
   refine ahdq hSy ?_
   simp -implicitDefEqProofs only [push_cast,Nat.reduceAdd,Nat.reduceSub,Nat.reduceMul,Nat.reduceLT,Nat.reduceLeDiff,Nat.reduceEqDiff,Nat.reduceBEq,reduceCtorEq,reduceIte,Int.reduceLE,Int.reduceLT,Int.reduceNeg,Int.reduceToNat,encQ,Int.reduceEq,if_false,if_true,or_true,or_false,true_or,false_or,List.map_cons,List.map_nil,List.length_cons,List.length_nil,Int.reduceAdd,hll,hg0,hg1]
   refine ahdq (PairsR_ok q hq _ _) ?_
   simp -implicitDefEqProofs only [push_cast,Nat.reduceAdd,Nat.reduceSub,Nat.reduceMul,Nat.reduceLT,Nat.reduceLeDiff,Nat.reduceEqDiff,Nat.reduceBEq,reduceCtorEq,reduceIte,Int.reduceLE,Int.reduceLT,Int.reduceNeg,Int.reduceToNat,encQ,Int.reduceEq,if_false,if_true,or_true,or_false,true_or,false_or,List.map_cons,List.map_nil,List.length_cons,List.length_nil,Int.reduceAdd,hll,hg0,hg1]
   have hple:=pairs_le q hq (treeP x).set (treeP y).set
   generalize q.pairs (treeP x).set (treeP y).set = ps at hple hfit ⊢
   refine loop_at hs (σ:=Nat) (fun i=>i ≤ ps.length) (fun i=>ps.length - i)
    (fun i=>[(10, .int i),(9, .bool ((ps.take i).contains (a,b))),(8, .sl (ps.map encP)),(3, .ptr (H.nxt + 0) 1 0 0),(4, .ptr (H.nxt + 1) 6 0 0),(5, .ptr (H.nxt + 2) 5 0 0)]) (fun i=>[some (.cells 1 [[.sl (c.map encD)]] 0),some (.cells 6 [encQ q] 0),some (.cells 5 [encPl (.mk 2 occ a b l)] 0)]) [some 0,some 1,some 2] 0 (by omega) rfl ?_ ?_ ?_
   ·(try simp -implicitDefEqProofs only [push_cast,Nat.reduceAdd,Nat.reduceSub,Nat.reduceMul,Nat.reduceLT,Nat.reduceLeDiff,Nat.reduceEqDiff,Nat.reduceBEq,reduceCtorEq,reduceIte,Int.reduceLE,Int.reduceLT,Int.reduceNeg,Int.reduceToNat,hll,encDs_pure,encEs_pure,encIs_pure,rowP_pure,encQ,List.map_cons,List.map_nil,List.take_zero,List.contains_nil])
   ·(try simp -implicitDefEqProofs only [push_cast,Nat.reduceAdd,Nat.reduceSub,Nat.reduceMul,Nat.reduceLT,Nat.reduceLeDiff,Nat.reduceEqDiff,Nat.reduceBEq,reduceCtorEq,reduceIte,Int.reduceLE,Int.reduceLT,Int.reduceNeg,Int.reduceToNat,hll,encDs_pure,encEs_pure,encIs_pure,encQ,List.map_cons,List.map_nil])
   intro j hj2
   by_cases hj:j < ps.length
   ·have hj':((j:Int) < (ps.length:Int)) = True:=by simp; omega
    have hj0:(0 ≤ (j:Int)) = True:=by simp
    have hsn:(ps.take (j + 1)).contains (a,b) = ((ps.take j).contains (a,b) || (decide (ps[j].1 = a) && decide (ps[j].2 = b))):=has_snoc ps j hj a b
    have hps:=encPs_get ps j hj
    rw [encP] at hps
    generalize ps[j].1 = u at hps hsn
    generalize ps[j].2 = v at hps hsn
    simp -implicitDefEqProofs only [push_cast,Nat.reduceAdd,Nat.reduceSub,Nat.reduceMul,Nat.reduceLT,Nat.reduceLeDiff,Nat.reduceEqDiff,Nat.reduceBEq,reduceCtorEq,reduceIte,Int.reduceLE,Int.reduceLT,Int.reduceNeg,Int.reduceToNat,hj',hj0,encQ]
    refine areg_at 11 (by kernel_rfl) (by kernel_rfl) ?_
    cases hz:(ps.take j).contains (a,b)
    ·simp -implicitDefEqProofs only [push_cast,Nat.reduceAdd,Nat.reduceSub,Nat.reduceMul,Nat.reduceLT,Nat.reduceLeDiff,Nat.reduceEqDiff,Nat.reduceBEq,reduceCtorEq,reduceIte,Int.reduceLE,Int.reduceLT,Int.reduceNeg,Int.reduceToNat,hj',hj0,hps,encQ,lits,cellsEq,cellEq,cmpPl]
     rw [wrap64 (n:=(j:Int) + 1) (by omega) (by omega)]
     refine next_at [some 0,some 1,some 2] (j + 1) (by omega) (by omega) rfl ?_ ?_
     ·(try simp -implicitDefEqProofs only [push_cast,Nat.reduceAdd,Nat.reduceSub,Nat.reduceMul,Nat.reduceLT,Nat.reduceLeDiff,Nat.reduceEqDiff,Nat.reduceBEq,reduceCtorEq,reduceIte,Int.reduceLE,Int.reduceLT,Int.reduceNeg,Int.reduceToNat,hsn,hz,Bool.false_or,encDs_pure,encEs_pure,encIs_pure,rowP_pure,encQ])
     ·(try simp -implicitDefEqProofs only [push_cast,Nat.reduceAdd,Nat.reduceSub,Nat.reduceMul,Nat.reduceLT,Nat.reduceLeDiff,Nat.reduceEqDiff,Nat.reduceBEq,reduceCtorEq,reduceIte,Int.reduceLE,Int.reduceLT,Int.reduceNeg,Int.reduceToNat,encDs_pure,encEs_pure,encIs_pure,encQ])
    ·simp -implicitDefEqProofs only [push_cast,Nat.reduceAdd,Nat.reduceSub,Nat.reduceMul,Nat.reduceLT,Nat.reduceLeDiff,Nat.reduceEqDiff,Nat.reduceBEq,reduceCtorEq,reduceIte,Int.reduceLE,Int.reduceLT,Int.reduceNeg,Int.reduceToNat,hj',hj0,hps,encQ,lits,cellsEq,cellEq,cmpPl]
     rw [wrap64 (n:=(j:Int) + 1) (by omega) (by omega)]
     refine next_at [some 0,some 1,some 2] (j + 1) (by omega) (by omega) rfl ?_ ?_
     ·(try simp -implicitDefEqProofs only [push_cast,Nat.reduceAdd,Nat.reduceSub,Nat.reduceMul,Nat.reduceLT,Nat.reduceLeDiff,Nat.reduceEqDiff,Nat.reduceBEq,reduceCtorEq,reduceIte,Int.reduceLE,Int.reduceLT,Int.reduceNeg,Int.reduceToNat,hsn,hz,Bool.true_or,encDs_pure,encEs_pure,encIs_pure,rowP_pure,encQ])
     ·(try simp -implicitDefEqProofs only [push_cast,Nat.reduceAdd,Nat.reduceSub,Nat.reduceMul,Nat.reduceLT,Nat.reduceLeDiff,Nat.reduceEqDiff,Nat.reduceBEq,reduceCtorEq,reduceIte,Int.reduceLE,Int.reduceLT,Int.reduceNeg,Int.reduceToNat,encDs_pure,encEs_pure,encIs_pure,encQ])
   have hj':((j:Int) < (ps.length:Int)) = False:=by simp; omega
   rw [List.take_of_length_le (by omega)]
   simp -implicitDefEqProofs only [push_cast,Nat.reduceAdd,Nat.reduceSub,Nat.reduceMul,Nat.reduceLT,Nat.reduceLeDiff,Nat.reduceEqDiff,Nat.reduceBEq,reduceCtorEq,reduceIte,Int.reduceLE,Int.reduceLT,Int.reduceNeg,Int.reduceToNat,hj',encQ]
   cases hz:ps.contains (a,b)
   ·simp -implicitDefEqProofs only [push_cast,Nat.reduceAdd,Nat.reduceSub,Nat.reduceMul,Nat.reduceLT,Nat.reduceLeDiff,Nat.reduceEqDiff,Nat.reduceBEq,reduceCtorEq,reduceIte,Int.reduceLE,Int.reduceLT,Int.reduceNeg,Int.reduceToNat,encQ]
    rw [hR0,hfit,hz]; rfl
   simp -implicitDefEqProofs only [push_cast,Nat.reduceAdd,Nat.reduceSub,Nat.reduceMul,Nat.reduceLT,Nat.reduceLeDiff,Nat.reduceEqDiff,Nat.reduceBEq,reduceCtorEq,reduceIte,Int.reduceLE,Int.reduceLT,Int.reduceNeg,Int.reduceToNat,encQ]
   refine areg_at 25 (by kernel_rfl) (by kernel_rfl) ?_
   simp -implicitDefEqProofs only [push_cast,Nat.reduceAdd,Nat.reduceSub,Nat.reduceMul,Nat.reduceLT,Nat.reduceLeDiff,Nat.reduceEqDiff,Nat.reduceBEq,reduceCtorEq,reduceIte,Int.reduceLE,Int.reduceLT,Int.reduceNeg,Int.reduceToNat,encQ,Int.reduceEq,if_false,if_true,or_true,or_false,true_or,false_or,List.map_cons,List.map_nil,List.length_cons,List.length_nil,Int.reduceAdd,hll,hg0,hg1]
   refine gcallq (.int 0) (fun h=>by cases h) ?_
   simp -implicitDefEqProofs only [push_cast,Nat.reduceAdd,Nat.reduceSub,Nat.reduceMul,Nat.reduceLT,Nat.reduceLeDiff,Nat.reduceEqDiff,Nat.reduceBEq,reduceCtorEq,reduceIte,Int.reduceLE,Int.reduceLT,Int.reduceNeg,Int.reduceToNat,encQ,Int.reduceEq,if_false,if_true,or_true,or_false,true_or,false_or,List.map_cons,List.map_nil,List.length_cons,List.length_nil,Int.reduceAdd,hll,hg0,hg1]
   refine gcallq (.int 0) (fun h=>by cases h) ?_
   simp -implicitDefEqProofs only [push_cast,Nat.reduceAdd,Nat.reduceSub,Nat.reduceMul,Nat.reduceLT,Nat.reduceLeDiff,Nat.reduceEqDiff,Nat.reduceBEq,reduceCtorEq,reduceIte,Int.reduceLE,Int.reduceLT,Int.reduceNeg,Int.reduceToNat,encQ,Int.reduceEq,if_false,if_true,or_true,or_false,true_or,false_or,List.map_cons,List.map_nil,List.length_cons,List.length_nil,Int.reduceAdd,hll,hg0,hg1]
   have hft:fitP c q (.mk 2 occ a b l) = true:=by rw [hfit,hz]; rfl
   refine loop_at hs (σ:=Nat) (fun i=>i ≤ l.length ∧ (partsPl (l.take i)).all (fitP c q) = true) (fun i=>l.length - i)
    (fun i=>[(11, .int i),(3, .ptr (H.nxt + 0) 1 0 0),(4, .ptr (H.nxt + 1) 6 0 0),(5, .ptr (H.nxt + 2) 5 0 0)]) (fun i=>[some (.cells 1 [[.sl (c.map encD)]] 0),some (.cells 6 [encQ q] 0),some (.cells 5 [encPl (.mk 2 occ a b l)] 0)]) [some 0,some 1,some 2] 0 ⟨by omega,by simp [partsPl]⟩ rfl ?_ ?_ ?_
   ·(try simp -implicitDefEqProofs only [push_cast,Nat.reduceAdd,Nat.reduceSub,Nat.reduceMul,Nat.reduceLT,Nat.reduceLeDiff,Nat.reduceEqDiff,Nat.reduceBEq,reduceCtorEq,reduceIte,Int.reduceLE,Int.reduceLT,Int.reduceNeg,Int.reduceToNat,hll,encDs_pure,encEs_pure,encIs_pure,encQ,List.map_cons,List.map_nil])
   ·(try simp -implicitDefEqProofs only [push_cast,Nat.reduceAdd,Nat.reduceSub,Nat.reduceMul,Nat.reduceLT,Nat.reduceLeDiff,Nat.reduceEqDiff,Nat.reduceBEq,reduceCtorEq,reduceIte,Int.reduceLE,Int.reduceLT,Int.reduceNeg,Int.reduceToNat,hll,encDs_pure,encEs_pure,encIs_pure,encQ,List.map_cons,List.map_nil])
   rintro i ⟨hi2,hai⟩
   clear hll
   by_cases hi:i < l.length
   ·have hi':((i:Int) < (l.length:Int)) = True:=by simp; omega
    have hi0:(0 ≤ (i:Int)) = True:=by simp
    simp -implicitDefEqProofs only [push_cast,Nat.reduceAdd,Nat.reduceSub,Nat.reduceMul,Nat.reduceLT,Nat.reduceLeDiff,Nat.reduceEqDiff,Nat.reduceBEq,reduceCtorEq,reduceIte,Int.reduceLE,Int.reduceLT,Int.reduceNeg,Int.reduceToNat,hi',hi0,encPls_get l i hi,encQ]
    refine areg_at 9 (by kernel_rfl) (by kernel_rfl) ?_
    simp -implicitDefEqProofs only [push_cast,Nat.reduceAdd,Nat.reduceSub,Nat.reduceMul,Nat.reduceLT,Nat.reduceLeDiff,Nat.reduceEqDiff,Nat.reduceBEq,reduceCtorEq,reduceIte,Int.reduceLE,Int.reduceLT,Int.reduceNeg,Int.reduceToNat,hi',hi0,encPls_get l i hi,encQ]
    refine ahdq (ih' l[i] (List.getElem_mem hi)) ?_
    simp -implicitDefEqProofs only [push_cast,Nat.reduceAdd,Nat.reduceSub,Nat.reduceMul,Nat.reduceLT,Nat.reduceLeDiff,Nat.reduceEqDiff,Nat.reduceBEq,reduceCtorEq,reduceIte,Int.reduceLE,Int.reduceLT,Int.reduceNeg,Int.reduceToNat,encQ]
    refine ⟨fun h=>?_,fun h=>?_⟩
    ·rw [hR0,hft,partsPl_end hi h,Bool.true_and]
    ·rw [wrap64 (n:=(i:Int) + 1) (by omega) (by omega)]
     refine next_at [some 0,some 1,some 2] (i + 1) ⟨by omega,by rw [partsPl_snoc l i hi,List.all_append,hai,h]; rfl⟩ (by omega) rfl ?_ ?_
     ·(try simp -implicitDefEqProofs only [push_cast,Nat.reduceAdd,Nat.reduceSub,Nat.reduceMul,Nat.reduceLT,Nat.reduceLeDiff,Nat.reduceEqDiff,Nat.reduceBEq,reduceCtorEq,reduceIte,Int.reduceLE,Int.reduceLT,Int.reduceNeg,Int.reduceToNat,encDs_pure,encEs_pure,encIs_pure,encQ])
     ·(try simp -implicitDefEqProofs only [push_cast,Nat.reduceAdd,Nat.reduceSub,Nat.reduceMul,Nat.reduceLT,Nat.reduceLeDiff,Nat.reduceEqDiff,Nat.reduceBEq,reduceCtorEq,reduceIte,Int.reduceLE,Int.reduceLT,Int.reduceNeg,Int.reduceToNat,encDs_pure,encEs_pure,encIs_pure,encQ])
   ·have hi':((i:Int) < (l.length:Int)) = False:=by simp; omega
    rw [List.take_of_length_le (by omega)] at hai
    simp -implicitDefEqProofs only [push_cast,Nat.reduceAdd,Nat.reduceSub,Nat.reduceMul,Nat.reduceLT,Nat.reduceLeDiff,Nat.reduceEqDiff,Nat.reduceBEq,reduceCtorEq,reduceIte,Int.reduceLE,Int.reduceLT,Int.reduceNeg,Int.reduceToNat,hi',encQ]
    rw [hR0,hft,hai,Bool.true_and]
  ·simp -implicitDefEqProofs only [push_cast,Nat.reduceAdd,Nat.reduceSub,Nat.reduceMul,Nat.reduceLT,Nat.reduceLeDiff,Nat.reduceEqDiff,Nat.reduceBEq,reduceCtorEq,reduceIte,Int.reduceLE,Int.reduceLT,Int.reduceNeg,Int.reduceToNat,encQ,Int.reduceEq,if_false,if_true,or_true,or_false,true_or,false_or,List.map_cons,List.map_nil,List.length_cons,List.length_nil,Int.reduceAdd,hll,hg0,hg1]
   refine areg_at 13 (by kernel_rfl) (by kernel_rfl) ?_
   simp -implicitDefEqProofs only [push_cast,Nat.reduceAdd,Nat.reduceSub,Nat.reduceMul,Nat.reduceLT,Nat.reduceLeDiff,Nat.reduceEqDiff,Nat.reduceBEq,reduceCtorEq,reduceIte,Int.reduceLE,Int.reduceLT,Int.reduceNeg,Int.reduceToNat,encQ,Int.reduceEq,if_false,if_true,or_true,or_false,true_or,false_or,List.map_cons,List.map_nil,List.length_cons,List.length_nil,Int.reduceAdd,hll,hg0,hg1]
   refine ahdq hSx ?_
   simp -implicitDefEqProofs only [push_cast,Nat.reduceAdd,Nat.reduceSub,Nat.reduceMul,Nat.reduceLT,Nat.reduceLeDiff,Nat.reduceEqDiff,Nat.reduceBEq,reduceCtorEq,reduceIte,Int.reduceLE,Int.reduceLT,Int.reduceNeg,Int.reduceToNat,encQ,Int.reduceEq,if_false,if_true,or_true,or_false,true_or,false_or,List.map_cons,List.map_nil,List.length_cons,List.length_nil,Int.reduceAdd,hll,hg0,hg1]
   refine ahdq hSy ?_
   simp -implicitDefEqProofs only [push_cast,Nat.reduceAdd,Nat.reduceSub,Nat.reduceMul,Nat.reduceLT,Nat.reduceLeDiff,Nat.reduceEqDiff,Nat.reduceBEq,reduceCtorEq,reduceIte,Int.reduceLE,Int.reduceLT,Int.reduceNeg,Int.reduceToNat,encQ,Int.reduceEq,if_false,if_true,or_true,or_false,true_or,false_or,List.map_cons,List.map_nil,List.length_cons,List.length_nil,Int.reduceAdd,hll,hg0,hg1]
   refine ahdq (PairsR_ok q hq _ _) ?_
   simp -implicitDefEqProofs only [push_cast,Nat.reduceAdd,Nat.reduceSub,Nat.reduceMul,Nat.reduceLT,Nat.reduceLeDiff,Nat.reduceEqDiff,Nat.reduceBEq,reduceCtorEq,reduceIte,Int.reduceLE,Int.reduceLT,Int.reduceNeg,Int.reduceToNat,encQ,Int.reduceEq,if_false,if_true,or_true,or_false,true_or,false_or,List.map_cons,List.map_nil,List.length_cons,List.length_nil,Int.reduceAdd,hll,hg0,hg1]
   have hple:=pairs_le q hq (treeP x).set (treeP y).set
   generalize q.pairs (treeP x).set (treeP y).set = ps at hple hfit ⊢
   refine loop_at hs (σ:=Nat) (fun i=>i ≤ ps.length) (fun i=>ps.length - i)
    (fun i=>[(10, .int i),(9, .bool ((ps.take i).contains (a,b))),(8, .sl (ps.map encP)),(3, .ptr (H.nxt + 0) 1 0 0),(4, .ptr (H.nxt + 1) 6 0 0),(5, .ptr (H.nxt + 2) 5 0 0)]) (fun i=>[some (.cells 1 [[.sl (c.map encD)]] 0),some (.cells 6 [encQ q] 0),some (.cells 5 [encPl (.mk 3 occ a b l)] 0)]) [some 0,some 1,some 2] 0 (by omega) rfl ?_ ?_ ?_
   ·(try simp -implicitDefEqProofs only [push_cast,Nat.reduceAdd,Nat.reduceSub,Nat.reduceMul,Nat.reduceLT,Nat.reduceLeDiff,Nat.reduceEqDiff,Nat.reduceBEq,reduceCtorEq,reduceIte,Int.reduceLE,Int.reduceLT,Int.reduceNeg,Int.reduceToNat,hll,encDs_pure,encEs_pure,encIs_pure,rowP_pure,encQ,List.map_cons,List.map_nil,List.take_zero,List.contains_nil])
   ·(try simp -implicitDefEqProofs only [push_cast,Nat.reduceAdd,Nat.reduceSub,Nat.reduceMul,Nat.reduceLT,Nat.reduceLeDiff,Nat.reduceEqDiff,Nat.reduceBEq,reduceCtorEq,reduceIte,Int.reduceLE,Int.reduceLT,Int.reduceNeg,Int.reduceToNat,hll,encDs_pure,encEs_pure,encIs_pure,encQ,List.map_cons,List.map_nil])
   intro j hj2
   by_cases hj:j < ps.length
   ·have hj':((j:Int) < (ps.length:Int)) = True:=by simp; omega
    have hj0:(0 ≤ (j:Int)) = True:=by simp
    have hsn:(ps.take (j + 1)).contains (a,b) = ((ps.take j).contains (a,b) || (decide (ps[j].1 = a) && decide (ps[j].2 = b))):=has_snoc ps j hj a b
    have hps:=encPs_get ps j hj
    rw [encP] at hps
    generalize ps[j].1 = u at hps hsn
    generalize ps[j].2 = v at hps hsn
    simp -implicitDefEqProofs only [push_cast,Nat.reduceAdd,Nat.reduceSub,Nat.reduceMul,Nat.reduceLT,Nat.reduceLeDiff,Nat.reduceEqDiff,Nat.reduceBEq,reduceCtorEq,reduceIte,Int.reduceLE,Int.reduceLT,Int.reduceNeg,Int.reduceToNat,hj',hj0,encQ]
    refine areg_at 11 (by kernel_rfl) (by kernel_rfl) ?_
    cases hz:(ps.take j).contains (a,b)
    ·simp -implicitDefEqProofs only [push_cast,Nat.reduceAdd,Nat.reduceSub,Nat.reduceMul,Nat.reduceLT,Nat.reduceLeDiff,Nat.reduceEqDiff,Nat.reduceBEq,reduceCtorEq,reduceIte,Int.reduceLE,Int.reduceLT,Int.reduceNeg,Int.reduceToNat,hj',hj0,hps,encQ,lits,cellsEq,cellEq,cmpPl]
     rw [wrap64 (n:=(j:Int) + 1) (by omega) (by omega)]
     refine next_at [some 0,some 1,some 2] (j + 1) (by omega) (by omega) rfl ?_ ?_
     ·(try simp -implicitDefEqProofs only [push_cast,Nat.reduceAdd,Nat.reduceSub,Nat.reduceMul,Nat.reduceLT,Nat.reduceLeDiff,Nat.reduceEqDiff,Nat.reduceBEq,reduceCtorEq,reduceIte,Int.reduceLE,Int.reduceLT,Int.reduceNeg,Int.reduceToNat,hsn,hz,Bool.false_or,encDs_pure,encEs_pure,encIs_pure,rowP_pure,encQ])
     ·(try simp -implicitDefEqProofs only [push_cast,Nat.reduceAdd,Nat.reduceSub,Nat.reduceMul,Nat.reduceLT,Nat.reduceLeDiff,Nat.reduceEqDiff,Nat.reduceBEq,reduceCtorEq,reduceIte,Int.reduceLE,Int.reduceLT,Int.reduceNeg,Int.reduceToNat,encDs_pure,encEs_pure,encIs_pure,encQ])
    ·simp -implicitDefEqProofs only [push_cast,Nat.reduceAdd,Nat.reduceSub,Nat.reduceMul,Nat.reduceLT,Nat.reduceLeDiff,Nat.reduceEqDiff,Nat.reduceBEq,reduceCtorEq,reduceIte,Int.reduceLE,Int.reduceLT,Int.reduceNeg,Int.reduceToNat,hj',hj0,hps,encQ,lits,cellsEq,cellEq,cmpPl]
     rw [wrap64 (n:=(j:Int) + 1) (by omega) (by omega)]
     refine next_at [some 0,some 1,some 2] (j + 1) (by omega) (by omega) rfl ?_ ?_
     ·(try simp -implicitDefEqProofs only [push_cast,Nat.reduceAdd,Nat.reduceSub,Nat.reduceMul,Nat.reduceLT,Nat.reduceLeDiff,Nat.reduceEqDiff,Nat.reduceBEq,reduceCtorEq,reduceIte,Int.reduceLE,Int.reduceLT,Int.reduceNeg,Int.reduceToNat,hsn,hz,Bool.true_or,encDs_pure,encEs_pure,encIs_pure,rowP_pure,encQ])
     ·(try simp -implicitDefEqProofs only [push_cast,Nat.reduceAdd,Nat.reduceSub,Nat.reduceMul,Nat.reduceLT,Nat.reduceLeDiff,Nat.reduceEqDiff,Nat.reduceBEq,reduceCtorEq,reduceIte,Int.reduceLE,Int.reduceLT,Int.reduceNeg,Int.reduceToNat,encDs_pure,encEs_pure,encIs_pure,encQ])
   have hj':((j:Int) < (ps.length:Int)) = False:=by simp; omega
   rw [List.take_of_length_le (by omega)]
   simp -implicitDefEqProofs only [push_cast,Nat.reduceAdd,Nat.reduceSub,Nat.reduceMul,Nat.reduceLT,Nat.reduceLeDiff,Nat.reduceEqDiff,Nat.reduceBEq,reduceCtorEq,reduceIte,Int.reduceLE,Int.reduceLT,Int.reduceNeg,Int.reduceToNat,hj',encQ]
   cases hz:ps.contains (a,b)
   ·simp -implicitDefEqProofs only [push_cast,Nat.reduceAdd,Nat.reduceSub,Nat.reduceMul,Nat.reduceLT,Nat.reduceLeDiff,Nat.reduceEqDiff,Nat.reduceBEq,reduceCtorEq,reduceIte,Int.reduceLE,Int.reduceLT,Int.reduceNeg,Int.reduceToNat,encQ]
    rw [hR0,hfit,hz]; rfl
   simp -implicitDefEqProofs only [push_cast,Nat.reduceAdd,Nat.reduceSub,Nat.reduceMul,Nat.reduceLT,Nat.reduceLeDiff,Nat.reduceEqDiff,Nat.reduceBEq,reduceCtorEq,reduceIte,Int.reduceLE,Int.reduceLT,Int.reduceNeg,Int.reduceToNat,encQ]
   refine areg_at 25 (by kernel_rfl) (by kernel_rfl) ?_
   simp -implicitDefEqProofs only [push_cast,Nat.reduceAdd,Nat.reduceSub,Nat.reduceMul,Nat.reduceLT,Nat.reduceLeDiff,Nat.reduceEqDiff,Nat.reduceBEq,reduceCtorEq,reduceIte,Int.reduceLE,Int.reduceLT,Int.reduceNeg,Int.reduceToNat,encQ,Int.reduceEq,if_false,if_true,or_true,or_false,true_or,false_or,List.map_cons,List.map_nil,List.length_cons,List.length_nil,Int.reduceAdd,hll,hg0,hg1]
   refine gcallq (.int x.order) (fun _=>hOx) ?_
   simp -implicitDefEqProofs only [push_cast,Nat.reduceAdd,Nat.reduceSub,Nat.reduceMul,Nat.reduceLT,Nat.reduceLeDiff,Nat.reduceEqDiff,Nat.reduceBEq,reduceCtorEq,reduceIte,Int.reduceLE,Int.reduceLT,Int.reduceNeg,Int.reduceToNat,encQ,Int.reduceEq,if_false,if_true,or_true,or_false,true_or,false_or,List.map_cons,List.map_nil,List.length_cons,List.length_nil,Int.reduceAdd,hll,hg0,hg1]
   refine gcallq (.int y.order) (fun _=>hOy) ?_
   by_cases h1:x.order = a
   ·by_cases h2:y.order = b
    ·have h1':decide (x.order = a) = true:=by simp [h1]
     have h2':decide (y.order = b) = true:=by simp [h2]
     simp -implicitDefEqProofs only [push_cast,Nat.reduceAdd,Nat.reduceSub,Nat.reduceMul,Nat.reduceLT,Nat.reduceLeDiff,Nat.reduceEqDiff,Nat.reduceBEq,reduceCtorEq,reduceIte,Int.reduceLE,Int.reduceLT,Int.reduceNeg,Int.reduceToNat,encQ,Int.reduceEq,if_false,if_true,or_true,or_false,true_or,false_or,List.map_cons,List.map_nil,List.length_cons,List.length_nil,Int.reduceAdd,hll,hg0,hg1,h1',h2']
     have hft:fitP c q (.mk 3 occ a b l) = true:=by rw [hfit,hz,h1',h2']; rfl
     refine loop_at hs (σ:=Nat) (fun i=>i ≤ l.length ∧ (partsPl (l.take i)).all (fitP c q) = true) (fun i=>l.length - i)
      (fun i=>[(11, .int i),(3, .ptr (H.nxt + 0) 1 0 0),(4, .ptr (H.nxt + 1) 6 0 0),(5, .ptr (H.nxt + 2) 5 0 0)]) (fun i=>[some (.cells 1 [[.sl (c.map encD)]] 0),some (.cells 6 [encQ q] 0),some (.cells 5 [encPl (.mk 3 occ a b l)] 0)]) [some 0,some 1,some 2] 0 ⟨by omega,by simp [partsPl]⟩ rfl ?_ ?_ ?_
     ·(try simp -implicitDefEqProofs only [push_cast,Nat.reduceAdd,Nat.reduceSub,Nat.reduceMul,Nat.reduceLT,Nat.reduceLeDiff,Nat.reduceEqDiff,Nat.reduceBEq,reduceCtorEq,reduceIte,Int.reduceLE,Int.reduceLT,Int.reduceNeg,Int.reduceToNat,hll,encDs_pure,encEs_pure,encIs_pure,encQ,List.map_cons,List.map_nil])
     ·(try simp -implicitDefEqProofs only [push_cast,Nat.reduceAdd,Nat.reduceSub,Nat.reduceMul,Nat.reduceLT,Nat.reduceLeDiff,Nat.reduceEqDiff,Nat.reduceBEq,reduceCtorEq,reduceIte,Int.reduceLE,Int.reduceLT,Int.reduceNeg,Int.reduceToNat,hll,encDs_pure,encEs_pure,encIs_pure,encQ,List.map_cons,List.map_nil])
     rintro i ⟨hi2,hai⟩
     clear hll
     by_cases hi:i < l.length
     ·have hi':((i:Int) < (l.length:Int)) = True:=by simp; omega
      have hi0:(0 ≤ (i:Int)) = True:=by simp
      simp -implicitDefEqProofs only [push_cast,Nat.reduceAdd,Nat.reduceSub,Nat.reduceMul,Nat.reduceLT,Nat.reduceLeDiff,Nat.reduceEqDiff,Nat.reduceBEq,reduceCtorEq,reduceIte,Int.reduceLE,Int.reduceLT,Int.reduceNeg,Int.reduceToNat,hi',hi0,encPls_get l i hi,encQ]
      refine areg_at 9 (by kernel_rfl) (by kernel_rfl) ?_
      simp -implicitDefEqProofs only [push_cast,Nat.reduceAdd,Nat.reduceSub,Nat.reduceMul,Nat.reduceLT,Nat.reduceLeDiff,Nat.reduceEqDiff,Nat.reduceBEq,reduceCtorEq,reduceIte,Int.reduceLE,Int.reduceLT,Int.reduceNeg,Int.reduceToNat,hi',hi0,encPls_get l i hi,encQ]
      refine ahdq (ih' l[i] (List.getElem_mem hi)) ?_
      simp -implicitDefEqProofs only [push_cast,Nat.reduceAdd,Nat.reduceSub,Nat.reduceMul,Nat.reduceLT,Nat.reduceLeDiff,Nat.reduceEqDiff,Nat.reduceBEq,reduceCtorEq,reduceIte,Int.reduceLE,Int.reduceLT,Int.reduceNeg,Int.reduceToNat,encQ]
      refine ⟨fun h=>?_,fun h=>?_⟩
      ·rw [hR0,hft,partsPl_end hi h,Bool.true_and]
      ·rw [wrap64 (n:=(i:Int) + 1) (by omega) (by omega)]
       refine next_at [some 0,some 1,some 2] (i + 1) ⟨by omega,by rw [partsPl_snoc l i hi,List.all_append,hai,h]; rfl⟩ (by omega) rfl ?_ ?_
       ·(try simp -implicitDefEqProofs only [push_cast,Nat.reduceAdd,Nat.reduceSub,Nat.reduceMul,Nat.reduceLT,Nat.reduceLeDiff,Nat.reduceEqDiff,Nat.reduceBEq,reduceCtorEq,reduceIte,Int.reduceLE,Int.reduceLT,Int.reduceNeg,Int.reduceToNat,encDs_pure,encEs_pure,encIs_pure,encQ])
       ·(try simp -implicitDefEqProofs only [push_cast,Nat.reduceAdd,Nat.reduceSub,Nat.reduceMul,Nat.reduceLT,Nat.reduceLeDiff,Nat.reduceEqDiff,Nat.reduceBEq,reduceCtorEq,reduceIte,Int.reduceLE,Int.reduceLT,Int.reduceNeg,Int.reduceToNat,encDs_pure,encEs_pure,encIs_pure,encQ])
     ·have hi':((i:Int) < (l.length:Int)) = False:=by simp; omega
      rw [List.take_of_length_le (by omega)] at hai
      simp -implicitDefEqProofs only [push_cast,Nat.reduceAdd,Nat.reduceSub,Nat.reduceMul,Nat.reduceLT,Nat.reduceLeDiff,Nat.reduceEqDiff,Nat.reduceBEq,reduceCtorEq,reduceIte,Int.reduceLE,Int.reduceLT,Int.reduceNeg,Int.reduceToNat,hi',encQ]
      rw [hR0,hft,hai,Bool.true_and]
    ·have h1':decide (x.order = a) = true:=by simp [h1]
     have h2':decide (y.order = b) = false:=by simp [h2]
     simp -implicitDefEqProofs only [push_cast,Nat.reduceAdd,Nat.reduceSub,Nat.reduceMul,Nat.reduceLT,Nat.reduceLeDiff,Nat.reduceEqDiff,Nat.reduceBEq,reduceCtorEq,reduceIte,Int.reduceLE,Int.reduceLT,Int.reduceNeg,Int.reduceToNat,encQ,Int.reduceEq,if_false,if_true,or_true,or_false,true_or,false_or,List.map_cons,List.map_nil,List.length_cons,List.length_nil,Int.reduceAdd,hll,hg0,hg1,h1',h2']
     rw [hR0,hfit,hz,h1',h2']; rfl
   ·have h1':decide (x.order = a) = false:=by simp [h1]
    simp -implicitDefEqProofs only [push_cast,Nat.reduceAdd,Nat.reduceSub,Nat.reduceMul,Nat.reduceLT,Nat.reduceLeDiff,Nat.reduceEqDiff,Nat.reduceBEq,reduceCtorEq,reduceIte,Int.reduceLE,Int.reduceLT,Int.reduceNeg,Int.reduceToNat,encQ,Int.reduceEq,if_false,if_true,or_true,or_false,true_or,false_or,List.map_cons,List.map_nil,List.length_cons,List.length_nil,Int.reduceAdd,hll,hg0,hg1,h1']
    rw [hR0,hfit,hz,h1']; rfl
end
section
attribute [local push_cast] encE_mk encE_take encE_len encV encE_one encEs_pure encE_pure
theorem rowsK_ok (n:Int):Quiet Go.Proofs.Tryz.prog 70 [.int n] (.int (rowsK n)):=by
 refine quiet_of (rs:=#[.tmp 2]) Go.Proofs.Tryz.func70 rfl rfl rfl mixed rfl rfl fun H hs=>?_
 simp -implicitDefEqProofs only [push_cast,Nat.reduceAdd,Nat.reduceSub,Nat.reduceMul,Nat.reduceLT,Nat.reduceLeDiff,Nat.reduceEqDiff,Nat.reduceBEq,reduceCtorEq,reduceIte,Int.reduceLE,Int.reduceLT,Int.reduceNeg,Int.reduceToNat]
 unfold rowsK
 (repeat' split) <;> omega
theorem timesK_ok (a b:Int) (a0:0 ≤ a) (a1:a ≤ 1099511627776) (b0:0 ≤ b) (b1:b ≤ 1099511627776):Quiet Go.Proofs.Tryz.prog 69 [.int a, .int b] (.int (leastK (a * b))):=by
 refine quiet_of (rs:=#[.tmp 4]) Go.Proofs.Tryz.func69 rfl rfl rfl mixed rfl rfl fun H hs=>?_
 simp -implicitDefEqProofs only [push_cast,Nat.reduceAdd,Nat.reduceSub,Nat.reduceMul,Nat.reduceLT,Nat.reduceLeDiff,Nat.reduceEqDiff,Nat.reduceBEq,reduceCtorEq,reduceIte,Int.reduceLE,Int.reduceLT,Int.reduceNeg,Int.reduceToNat]
 refine callq (mul64_ok _ _) ?_
 have e1:IntKind.wrap .u64 a = a:=by rw [IntKind.wrap_u64]; omega
 have e2:IntKind.wrap .u64 b = b:=by rw [IntKind.wrap_u64]; omega
 rw [e1,e2]
 have hmul:=mulHi_eq a b (by omega) (by omega) (by omega) (by omega)
 have hM0:0 ≤ a * b:=Int.mul_nonneg a0 b0
 rw [hmul]
 generalize a * b = M at hM0 ⊢
 simp -implicitDefEqProofs only [push_cast,Nat.reduceAdd,Nat.reduceSub,Nat.reduceMul,Nat.reduceLT,Nat.reduceLeDiff,Nat.reduceEqDiff,Nat.reduceBEq,reduceCtorEq,reduceIte,Int.reduceLE,Int.reduceLT,Int.reduceNeg,Int.reduceToNat]
 rw [IntKind.wrap_u64]
 unfold leastK capK
 refine ⟨fun h=>?_,fun h=>?_⟩
 ·simp only [Bool.or_eq_true,decide_eq_true_eq] at h
  omega
 ·simp only [Bool.or_eq_false_iff,decide_eq_false_iff_not] at h
  rw [wrap64 (by omega) (by omega)]
  omega
theorem ScanK_ok (n:Int):Quiet Go.Proofs.Tryz.prog 119 [.int n] (.int (scanK n)):=by
 have h:=rowsK_range n
 have ht:=timesK_ok 1 (rowsK n) (by omega) (by omega) h.1 h.2
 have e:leastK (1 * rowsK n) = scanK n:=by unfold leastK capK scanK; omega
 rw [e] at ht
 refine quiet_of (rs:=#[.tmp 2]) Go.Proofs.Tryz.func119 rfl rfl rfl mixed rfl rfl fun H hs=>?_
 simp -implicitDefEqProofs only [push_cast,Nat.reduceAdd,Nat.reduceSub,Nat.reduceMul,Nat.reduceLT,Nat.reduceLeDiff,Nat.reduceEqDiff,Nat.reduceBEq,reduceCtorEq,reduceIte,Int.reduceLE,Int.reduceLT,Int.reduceNeg,Int.reduceToNat]
 refine callq (rowsK_ok n) ?_
 simp -implicitDefEqProofs only [push_cast,Nat.reduceAdd,Nat.reduceSub,Nat.reduceMul,Nat.reduceLT,Nat.reduceLeDiff,Nat.reduceEqDiff,Nat.reduceBEq,reduceCtorEq,reduceIte,Int.reduceLE,Int.reduceLT,Int.reduceNeg,Int.reduceToNat]
 refine callq ht ?_
 simp -implicitDefEqProofs only [push_cast,Nat.reduceAdd,Nat.reduceSub,Nat.reduceMul,Nat.reduceLT,Nat.reduceLeDiff,Nat.reduceEqDiff,Nat.reduceBEq,reduceCtorEq,reduceIte,Int.reduceLE,Int.reduceLT,Int.reduceNeg,Int.reduceToNat]
theorem NestK_ok (a b:Int):Quiet Go.Proofs.Tryz.prog 23 [.int a, .int b] (.int (nestK a b)):=by
 have ha:=rowsK_range a
 have hb:=rowsK_range b
 have ht:=timesK_ok (rowsK a) (rowsK b) ha.1 ha.2 hb.1 hb.2
 refine quiet_of (rs:=#[.tmp 4]) Go.Proofs.Tryz.func23 rfl rfl rfl mixed rfl rfl fun H hs=>?_
 simp -implicitDefEqProofs only [push_cast,Nat.reduceAdd,Nat.reduceSub,Nat.reduceMul,Nat.reduceLT,Nat.reduceLeDiff,Nat.reduceEqDiff,Nat.reduceBEq,reduceCtorEq,reduceIte,Int.reduceLE,Int.reduceLT,Int.reduceNeg,Int.reduceToNat]
 refine callq (rowsK_ok a) ?_
 simp -implicitDefEqProofs only [push_cast,Nat.reduceAdd,Nat.reduceSub,Nat.reduceMul,Nat.reduceLT,Nat.reduceLeDiff,Nat.reduceEqDiff,Nat.reduceBEq,reduceCtorEq,reduceIte,Int.reduceLE,Int.reduceLT,Int.reduceNeg,Int.reduceToNat]
 refine callq (rowsK_ok b) ?_
 simp -implicitDefEqProofs only [push_cast,Nat.reduceAdd,Nat.reduceSub,Nat.reduceMul,Nat.reduceLT,Nat.reduceLeDiff,Nat.reduceEqDiff,Nat.reduceBEq,reduceCtorEq,reduceIte,Int.reduceLE,Int.reduceLT,Int.reduceNeg,Int.reduceToNat]
 refine callq ht ?_
 simp -implicitDefEqProofs only [push_cast,Nat.reduceAdd,Nat.reduceSub,Nat.reduceMul,Nat.reduceLT,Nat.reduceLeDiff,Nat.reduceEqDiff,Nat.reduceBEq,reduceCtorEq,reduceIte,Int.reduceLE,Int.reduceLT,Int.reduceNeg,Int.reduceToNat,nestK]
theorem addTo_snoc (l:List Int) (i:Nat) (h:i < l.length):addK (l.take (i + 1)) = min (addK (l.take i) + min (max l[i] 0) capK) capK:=by
 rw [List.take_succ_eq_append_getElem h,addK_snoc]
theorem AddK_ok (l:List Int) (hl:l.length ≤ 140737488355328):Quiet Go.Proofs.Tryz.prog 19 [.sl (l.map encI)] (.int (addK l)):=by
 refine quiet_of (rs:=#[.tmp 2]) Go.Proofs.Tryz.func19 rfl rfl rfl mixed rfl rfl fun H hs=>?_
 simp -implicitDefEqProofs only [push_cast,Nat.reduceAdd,Nat.reduceSub,Nat.reduceMul,Nat.reduceLT,Nat.reduceLeDiff,Nat.reduceEqDiff,Nat.reduceBEq,reduceCtorEq,reduceIte,Int.reduceLE,Int.reduceLT,Int.reduceNeg,Int.reduceToNat]
 refine loop_at hs (σ:=Nat) (fun i=>i ≤ l.length) (fun i=>l.length - i)
  (fun i=>[(8, .int i),(7, .int l.length),(6, .sl (l.map encI)),(3, .int (addK (l.take i)))]) (fun _=>[]) [] 0 (by omega) rfl ?_ ?_ ?_
 ·(try simp -implicitDefEqProofs only [push_cast,Nat.reduceAdd,Nat.reduceSub,Nat.reduceMul,Nat.reduceLT,Nat.reduceLeDiff,Nat.reduceEqDiff,Nat.reduceBEq,reduceCtorEq,reduceIte,Int.reduceLE,Int.reduceLT,Int.reduceNeg,Int.reduceToNat,encIs_pure,List.take_zero,addK_nil])
 ·(try simp -implicitDefEqProofs only [push_cast,Nat.reduceAdd,Nat.reduceSub,Nat.reduceMul,Nat.reduceLT,Nat.reduceLeDiff,Nat.reduceEqDiff,Nat.reduceBEq,reduceCtorEq,reduceIte,Int.reduceLE,Int.reduceLT,Int.reduceNeg,Int.reduceToNat])
 intro i hi2
 by_cases hi:i < l.length
 ·have hi':((i:Int) < (l.length:Int)) = True:=by simp; omega
  have hi0:(0 ≤ (i:Int)) = True:=by simp
  have hsn:=addTo_snoc l i hi
  have hr:=addK_range (l.take i)
  generalize addK (l.take i) = v at hsn hr ⊢
  generalize hx:l[i] = x at hsn
  unfold capK at hsn hr
  simp -implicitDefEqProofs only [push_cast,Nat.reduceAdd,Nat.reduceSub,Nat.reduceMul,Nat.reduceLT,Nat.reduceLeDiff,Nat.reduceEqDiff,Nat.reduceBEq,reduceCtorEq,reduceIte,Int.reduceLE,Int.reduceLT,Int.reduceNeg,Int.reduceToNat,hi',hi0,encIs_get l i hi,encI,hx]
  have e1:(if 1125899906842624 < if 0 > x then 0 else x then 1125899906842624 else if 0 > x then 0 else x) = min (max x 0) 1125899906842624:=by (repeat' split) <;> omega
  have hy:0 ≤ min (max x 0) 1125899906842624 ∧ min (max x 0) 1125899906842624 ≤ 1125899906842624:=by omega
  rw [e1]
  generalize min (max x 0) 1125899906842624 = y at hy hsn ⊢
  rw [wrap64 (n:=(i:Int) + 1) (by omega) (by omega),wrap64 (n:=v + y) (by omega) (by omega)]
  have hv:addK (l.take (i + 1)) = if 1125899906842624 < v + y then 1125899906842624 else v + y:=by rw [hsn]; split <;> omega
  refine next_at [] (i + 1) (by omega) (by omega) rfl ?_ ?_
  ·(try simp -implicitDefEqProofs only [push_cast,Nat.reduceAdd,Nat.reduceSub,Nat.reduceMul,Nat.reduceLT,Nat.reduceLeDiff,Nat.reduceEqDiff,Nat.reduceBEq,reduceCtorEq,reduceIte,Int.reduceLE,Int.reduceLT,Int.reduceNeg,Int.reduceToNat,hv,encIs_pure])
  ·(try simp -implicitDefEqProofs only [push_cast,Nat.reduceAdd,Nat.reduceSub,Nat.reduceMul,Nat.reduceLT,Nat.reduceLeDiff,Nat.reduceEqDiff,Nat.reduceBEq,reduceCtorEq,reduceIte,Int.reduceLE,Int.reduceLT,Int.reduceNeg,Int.reduceToNat])
 ·have hi':((i:Int) < (l.length:Int)) = False:=by simp; omega
  simp -implicitDefEqProofs only [push_cast,Nat.reduceAdd,Nat.reduceSub,Nat.reduceMul,Nat.reduceLT,Nat.reduceLeDiff,Nat.reduceEqDiff,Nat.reduceBEq,reduceCtorEq,reduceIte,Int.reduceLE,Int.reduceLT,Int.reduceNeg,Int.reduceToNat,hi']
  rw [List.take_of_length_le (by omega)]
theorem addK_two (a b:Int) (a0:0 ≤ a) (a1:a ≤ capK) (b0:0 ≤ b) (b1:b ≤ capK):addK [a,b] = leastK (a + b):=by
 have e:addK [a,b] = min (min (0 + min (max a 0) capK) capK + min (max b 0) capK) capK:=rfl
 rw [e]
 unfold leastK capK at *
 omega
theorem HashK_ok (a b:Int):Quiet Go.Proofs.Tryz.prog 55 [.int a, .int b] (.int (hashK a b)):=by
 have ha:=rowsK_range a
 have hb:=rowsK_range b
 have h1:=timesK_ok 1 (rowsK a) (by omega) (by omega) ha.1 ha.2
 have h2:=timesK_ok 2 (rowsK b) (by omega) (by omega) hb.1 hb.2
 have e1:leastK (1 * rowsK a) = rowsK a:=by unfold leastK capK; omega
 have e2:leastK (2 * rowsK b) = 2 * rowsK b:=by unfold leastK capK; omega
 rw [e1] at h1
 rw [e2] at h2
 have h3:=AddK_ok [rowsK a,2 * rowsK b] (by simp)
 rw [addK_two _ _ (by omega) (by unfold capK; omega) (by omega) (by unfold capK; omega)] at h3
 refine quiet_of (rs:=#[.tmp 4]) Go.Proofs.Tryz.func55 rfl rfl rfl mixed rfl rfl fun H hs=>?_
 simp -implicitDefEqProofs only [push_cast,Nat.reduceAdd,Nat.reduceSub,Nat.reduceMul,Nat.reduceLT,Nat.reduceLeDiff,Nat.reduceEqDiff,Nat.reduceBEq,reduceCtorEq,reduceIte,Int.reduceLE,Int.reduceLT,Int.reduceNeg,Int.reduceToNat]
 refine callq (rowsK_ok a) ?_
 simp -implicitDefEqProofs only [push_cast,Nat.reduceAdd,Nat.reduceSub,Nat.reduceMul,Nat.reduceLT,Nat.reduceLeDiff,Nat.reduceEqDiff,Nat.reduceBEq,reduceCtorEq,reduceIte,Int.reduceLE,Int.reduceLT,Int.reduceNeg,Int.reduceToNat]
 refine callq h1 ?_
 simp -implicitDefEqProofs only [push_cast,Nat.reduceAdd,Nat.reduceSub,Nat.reduceMul,Nat.reduceLT,Nat.reduceLeDiff,Nat.reduceEqDiff,Nat.reduceBEq,reduceCtorEq,reduceIte,Int.reduceLE,Int.reduceLT,Int.reduceNeg,Int.reduceToNat]
 refine callq (rowsK_ok b) ?_
 simp -implicitDefEqProofs only [push_cast,Nat.reduceAdd,Nat.reduceSub,Nat.reduceMul,Nat.reduceLT,Nat.reduceLeDiff,Nat.reduceEqDiff,Nat.reduceBEq,reduceCtorEq,reduceIte,Int.reduceLE,Int.reduceLT,Int.reduceNeg,Int.reduceToNat]
 refine callq h2 ?_
 simp -implicitDefEqProofs only [push_cast,Nat.reduceAdd,Nat.reduceSub,Nat.reduceMul,Nat.reduceLT,Nat.reduceLeDiff,Nat.reduceEqDiff,Nat.reduceBEq,reduceCtorEq,reduceIte,Int.reduceLE,Int.reduceLT,Int.reduceNeg,Int.reduceToNat]
 refine fzk H 0 2 [.sl ([rowsK a,2 * rowsK b].map encI)] (by rfl) (by omega) (by simp) ?_ ?_
 ·(try simp -implicitDefEqProofs only [push_cast,Nat.reduceAdd,Nat.reduceSub,Nat.reduceMul,Nat.reduceLT,Nat.reduceLeDiff,Nat.reduceEqDiff,Nat.reduceBEq,reduceCtorEq,reduceIte,Int.reduceLE,Int.reduceLT,Int.reduceNeg,Int.reduceToNat,encI,List.map_cons,List.map_nil])
 refine callq h3 ?_
 simp -implicitDefEqProofs only [push_cast,Nat.reduceAdd,Nat.reduceSub,Nat.reduceMul,Nat.reduceLT,Nat.reduceLeDiff,Nat.reduceEqDiff,Nat.reduceBEq,reduceCtorEq,reduceIte,Int.reduceLE,Int.reduceLT,Int.reduceNeg,Int.reduceToNat,hashK]
theorem MergeK_ok (a b:Int):Quiet Go.Proofs.Tryz.prog 165 [.int a, .int b] (.int (mergeK a b)):=by
 have ha:=rowsK_range a
 have hb:=rowsK_range b
 have h3:=AddK_ok [scanK a,scanK b] (by simp)
 rw [addK_two _ _ (by unfold scanK; omega) (by unfold scanK capK; omega) (by unfold scanK; omega) (by unfold scanK capK; omega)] at h3
 refine quiet_of (rs:=#[.tmp 4]) Go.Proofs.Tryz.func165 rfl rfl rfl mixed rfl rfl fun H hs=>?_
 simp -implicitDefEqProofs only [push_cast,Nat.reduceAdd,Nat.reduceSub,Nat.reduceMul,Nat.reduceLT,Nat.reduceLeDiff,Nat.reduceEqDiff,Nat.reduceBEq,reduceCtorEq,reduceIte,Int.reduceLE,Int.reduceLT,Int.reduceNeg,Int.reduceToNat]
 refine callq (ScanK_ok a) ?_
 simp -implicitDefEqProofs only [push_cast,Nat.reduceAdd,Nat.reduceSub,Nat.reduceMul,Nat.reduceLT,Nat.reduceLeDiff,Nat.reduceEqDiff,Nat.reduceBEq,reduceCtorEq,reduceIte,Int.reduceLE,Int.reduceLT,Int.reduceNeg,Int.reduceToNat]
 refine callq (ScanK_ok b) ?_
 simp -implicitDefEqProofs only [push_cast,Nat.reduceAdd,Nat.reduceSub,Nat.reduceMul,Nat.reduceLT,Nat.reduceLeDiff,Nat.reduceEqDiff,Nat.reduceBEq,reduceCtorEq,reduceIte,Int.reduceLE,Int.reduceLT,Int.reduceNeg,Int.reduceToNat]
 refine fzk H 0 2 [.sl ([scanK a,scanK b].map encI)] (by rfl) (by omega) (by simp) ?_ ?_
 ·(try simp -implicitDefEqProofs only [push_cast,Nat.reduceAdd,Nat.reduceSub,Nat.reduceMul,Nat.reduceLT,Nat.reduceLeDiff,Nat.reduceEqDiff,Nat.reduceBEq,reduceCtorEq,reduceIte,Int.reduceLE,Int.reduceLT,Int.reduceNeg,Int.reduceToNat,encI,List.map_cons,List.map_nil])
 refine callq h3 ?_
 simp -implicitDefEqProofs only [push_cast,Nat.reduceAdd,Nat.reduceSub,Nat.reduceMul,Nat.reduceLT,Nat.reduceLeDiff,Nat.reduceEqDiff,Nat.reduceBEq,reduceCtorEq,reduceIte,Int.reduceLE,Int.reduceLT,Int.reduceNeg,Int.reduceToNat,mergeK,scanK]
theorem prices_ok (op:Int):Quiet Go.Proofs.Tryz.prog 121 [.int op] (.agg [if op = 1 then .clo (.func 23) [] [] else if op = 2 then .clo (.func 55) [] [] else if op = 3 then .clo (.func 165) [] [] else .lit .nilFunc]):=by
 have hf:∀ (n:Int) (ks:List Value),(∀ v ∈ ks,∃ m,v = .int .i64 m) → FindAt Go.Proofs.Tryz.prog 3 (.int .i64 n) ks:=fun n ks h=>findAt_int Go.Proofs.Tryz.underlying3 n h
 have f0:=hf 1 [] (by simp)
 have f1:=hf 2 [.int .i64 1] (by simp)
 have f2:=hf 3 [.int .i64 1, .int .i64 2] (by simp)
 have f3:=hf op [.int .i64 1, .int .i64 2, .int .i64 3] (by simp)
 refine quiet_of (rs:=#[.cell 2 128]) Go.Proofs.Tryz.func121 rfl rfl rfl mixed rfl rfl fun H hs=>?_
 by_cases h1:op = 1
 ·subst h1
  simp -implicitDefEqProofs only [push_cast,Nat.reduceAdd,Nat.reduceSub,Nat.reduceMul,Nat.reduceLT,Nat.reduceLeDiff,Nat.reduceEqDiff,Nat.reduceBEq,reduceCtorEq,reduceIte,Int.reduceLE,Int.reduceLT,Int.reduceNeg,Int.reduceToNat,Int.reduceEq,if_false,if_true,List.map_cons,List.map_nil,f0,f1,f2,f3]
 ·have c1:(op = 1) = False:=by simp [h1]
  by_cases h2:op = 2
  ·subst h2
   simp -implicitDefEqProofs only [push_cast,Nat.reduceAdd,Nat.reduceSub,Nat.reduceMul,Nat.reduceLT,Nat.reduceLeDiff,Nat.reduceEqDiff,Nat.reduceBEq,reduceCtorEq,reduceIte,Int.reduceLE,Int.reduceLT,Int.reduceNeg,Int.reduceToNat,Int.reduceEq,if_false,if_true,List.map_cons,List.map_nil,f0,f1,f2,f3]
  ·have c2:(op = 2) = False:=by simp [h2]
   by_cases h3:op = 3
   ·subst h3
    simp -implicitDefEqProofs only [push_cast,Nat.reduceAdd,Nat.reduceSub,Nat.reduceMul,Nat.reduceLT,Nat.reduceLeDiff,Nat.reduceEqDiff,Nat.reduceBEq,reduceCtorEq,reduceIte,Int.reduceLE,Int.reduceLT,Int.reduceNeg,Int.reduceToNat,Int.reduceEq,if_false,if_true,List.map_cons,List.map_nil,f0,f1,f2,f3]
   ·have c3:(op = 3) = False:=by simp [h3]
    simp -implicitDefEqProofs only [push_cast,Nat.reduceAdd,Nat.reduceSub,Nat.reduceMul,Nat.reduceLT,Nat.reduceLeDiff,Nat.reduceEqDiff,Nat.reduceBEq,reduceCtorEq,reduceIte,Int.reduceLE,Int.reduceLT,Int.reduceNeg,Int.reduceToNat,c1,c2,c3,Int.reduceEq,if_false,if_true,List.map_cons,List.map_nil,f0,f1,f2,f3]
end
section
attribute [local push_cast] encE_mk encE_take encE_len encV encE_one encEs_pure encE_pure
theorem rows10_ok (n:Int):Quiet Go.Proofs.Tryz.prog 137 [.int n] (.int (rowsK n)):=by
 refine quiet_of (rs:=#[.tmp 2]) Go.Proofs.Tryz.func137 rfl rfl rfl mixed rfl rfl fun H hs=>?_
 simp -implicitDefEqProofs only [push_cast,Nat.reduceAdd,Nat.reduceSub,Nat.reduceMul,Nat.reduceLT,Nat.reduceLeDiff,Nat.reduceEqDiff,Nat.reduceBEq,reduceCtorEq,reduceIte,Int.reduceLE,Int.reduceLT,Int.reduceNeg,Int.reduceToNat]
 unfold rowsK
 refine ⟨fun h=>by omega,fun h=>⟨fun h=>by omega,fun h=>by omega⟩⟩
theorem least10_ok (n:Int):Quiet Go.Proofs.Tryz.prog 136 [.int n] (.int (leastK n)):=by
 refine quiet_of (rs:=#[.tmp 2]) Go.Proofs.Tryz.func136 rfl rfl rfl mixed rfl rfl fun H hs=>?_
 simp -implicitDefEqProofs only [push_cast,Nat.reduceAdd,Nat.reduceSub,Nat.reduceMul,Nat.reduceLT,Nat.reduceLeDiff,Nat.reduceEqDiff,Nat.reduceBEq,reduceCtorEq,reduceIte,Int.reduceLE,Int.reduceLT,Int.reduceNeg,Int.reduceToNat]
 unfold leastK capK
 exact ⟨fun h=>by omega,fun h=>by omega⟩
theorem Scan10_ok (n:Int):Quiet Go.Proofs.Tryz.prog 134 [.int n] (.int (scanK n)):=by
 refine quiet_of (rs:=#[.tmp 2]) Go.Proofs.Tryz.func134 rfl rfl rfl mixed rfl rfl fun H hs=>?_
 simp -implicitDefEqProofs only [push_cast,Nat.reduceAdd,Nat.reduceSub,Nat.reduceMul,Nat.reduceLT,Nat.reduceLeDiff,Nat.reduceEqDiff,Nat.reduceBEq,reduceCtorEq,reduceIte,Int.reduceLE,Int.reduceLT,Int.reduceNeg,Int.reduceToNat]
 refine callq (rows10_ok n) ?_
 simp -implicitDefEqProofs only [push_cast,Nat.reduceAdd,Nat.reduceSub,Nat.reduceMul,Nat.reduceLT,Nat.reduceLeDiff,Nat.reduceEqDiff,Nat.reduceBEq,reduceCtorEq,reduceIte,Int.reduceLE,Int.reduceLT,Int.reduceNeg,Int.reduceToNat,scanK]
theorem Hash10_ok (a b:Int):Quiet Go.Proofs.Tryz.prog 103 [.int a, .int b] (.int (hashK a b)):=by
 have ha:=rowsK_range a
 have hb:=rowsK_range b
 refine quiet_of (rs:=#[.tmp 4]) Go.Proofs.Tryz.func103 rfl rfl rfl mixed rfl rfl fun H hs=>?_
 simp -implicitDefEqProofs only [push_cast,Nat.reduceAdd,Nat.reduceSub,Nat.reduceMul,Nat.reduceLT,Nat.reduceLeDiff,Nat.reduceEqDiff,Nat.reduceBEq,reduceCtorEq,reduceIte,Int.reduceLE,Int.reduceLT,Int.reduceNeg,Int.reduceToNat]
 refine callq (rows10_ok a) ?_
 simp -implicitDefEqProofs only [push_cast,Nat.reduceAdd,Nat.reduceSub,Nat.reduceMul,Nat.reduceLT,Nat.reduceLeDiff,Nat.reduceEqDiff,Nat.reduceBEq,reduceCtorEq,reduceIte,Int.reduceLE,Int.reduceLT,Int.reduceNeg,Int.reduceToNat]
 refine callq (rows10_ok b) ?_
 simp -implicitDefEqProofs only [push_cast,Nat.reduceAdd,Nat.reduceSub,Nat.reduceMul,Nat.reduceLT,Nat.reduceLeDiff,Nat.reduceEqDiff,Nat.reduceBEq,reduceCtorEq,reduceIte,Int.reduceLE,Int.reduceLT,Int.reduceNeg,Int.reduceToNat]
 rw [wrap64 (n:=2 * rowsK b) (by omega) (by omega),wrap64 (n:=rowsK a + 2 * rowsK b) (by omega) (by omega)]
 refine callq (least10_ok _) ?_
 simp -implicitDefEqProofs only [push_cast,Nat.reduceAdd,Nat.reduceSub,Nat.reduceMul,Nat.reduceLT,Nat.reduceLeDiff,Nat.reduceEqDiff,Nat.reduceBEq,reduceCtorEq,reduceIte,Int.reduceLE,Int.reduceLT,Int.reduceNeg,Int.reduceToNat,hashK]
theorem Merge10_ok (a b:Int):Quiet Go.Proofs.Tryz.prog 104 [.int a, .int b] (.int (mergeK a b)):=by
 have ha:=rowsK_range a
 have hb:=rowsK_range b
 refine quiet_of (rs:=#[.tmp 4]) Go.Proofs.Tryz.func104 rfl rfl rfl mixed rfl rfl fun H hs=>?_
 simp -implicitDefEqProofs only [push_cast,Nat.reduceAdd,Nat.reduceSub,Nat.reduceMul,Nat.reduceLT,Nat.reduceLeDiff,Nat.reduceEqDiff,Nat.reduceBEq,reduceCtorEq,reduceIte,Int.reduceLE,Int.reduceLT,Int.reduceNeg,Int.reduceToNat]
 refine callq (rows10_ok a) ?_
 simp -implicitDefEqProofs only [push_cast,Nat.reduceAdd,Nat.reduceSub,Nat.reduceMul,Nat.reduceLT,Nat.reduceLeDiff,Nat.reduceEqDiff,Nat.reduceBEq,reduceCtorEq,reduceIte,Int.reduceLE,Int.reduceLT,Int.reduceNeg,Int.reduceToNat]
 refine callq (rows10_ok b) ?_
 simp -implicitDefEqProofs only [push_cast,Nat.reduceAdd,Nat.reduceSub,Nat.reduceMul,Nat.reduceLT,Nat.reduceLeDiff,Nat.reduceEqDiff,Nat.reduceBEq,reduceCtorEq,reduceIte,Int.reduceLE,Int.reduceLT,Int.reduceNeg,Int.reduceToNat]
 rw [wrap64 (n:=rowsK a + rowsK b) (by omega) (by omega)]
 refine callq (least10_ok _) ?_
 simp -implicitDefEqProofs only [push_cast,Nat.reduceAdd,Nat.reduceSub,Nat.reduceMul,Nat.reduceLT,Nat.reduceLeDiff,Nat.reduceEqDiff,Nat.reduceBEq,reduceCtorEq,reduceIte,Int.reduceLE,Int.reduceLT,Int.reduceNeg,Int.reduceToNat,mergeK]
theorem Add10_ok (l:List Int) (hl:l.length ≤ 140737488355328):Quiet Go.Proofs.Tryz.prog 93 [.sl (l.map encI)] (.int (addK l)):=by
 refine quiet_of (rs:=#[.tmp 2]) Go.Proofs.Tryz.func93 rfl rfl rfl mixed rfl rfl fun H hs=>?_
 simp -implicitDefEqProofs only [push_cast,Nat.reduceAdd,Nat.reduceSub,Nat.reduceMul,Nat.reduceLT,Nat.reduceLeDiff,Nat.reduceEqDiff,Nat.reduceBEq,reduceCtorEq,reduceIte,Int.reduceLE,Int.reduceLT,Int.reduceNeg,Int.reduceToNat]
 refine loop_at hs (σ:=Nat) (fun i=>i ≤ l.length) (fun i=>l.length - i)
  (fun i=>[(4, .int i),(0, .sl (l.map encI)),(3, .int (addK (l.take i)))]) (fun _=>[]) [] 0 (by omega) rfl ?_ ?_ ?_
 ·(try simp -implicitDefEqProofs only [push_cast,Nat.reduceAdd,Nat.reduceSub,Nat.reduceMul,Nat.reduceLT,Nat.reduceLeDiff,Nat.reduceEqDiff,Nat.reduceBEq,reduceCtorEq,reduceIte,Int.reduceLE,Int.reduceLT,Int.reduceNeg,Int.reduceToNat,encIs_pure,List.take_zero,addK_nil])
 ·(try simp -implicitDefEqProofs only [push_cast,Nat.reduceAdd,Nat.reduceSub,Nat.reduceMul,Nat.reduceLT,Nat.reduceLeDiff,Nat.reduceEqDiff,Nat.reduceBEq,reduceCtorEq,reduceIte,Int.reduceLE,Int.reduceLT,Int.reduceNeg,Int.reduceToNat])
 intro i hi2
 by_cases hi:i < l.length
 ·have hi':((i:Int) < (l.length:Int)) = True:=by simp; omega
  have hi0:(0 ≤ (i:Int)) = True:=by simp
  have hsn:=addTo_snoc l i hi
  have hr:=addK_range (l.take i)
  generalize addK (l.take i) = v at hsn hr ⊢
  generalize hx:l[i] = x at hsn
  by_cases hp:0 < x
  ·have hp':(0 < x) = True:=by simp [hp]
   simp -implicitDefEqProofs only [push_cast,Nat.reduceAdd,Nat.reduceSub,Nat.reduceMul,Nat.reduceLT,Nat.reduceLeDiff,Nat.reduceEqDiff,Nat.reduceBEq,reduceCtorEq,reduceIte,Int.reduceLE,Int.reduceLT,Int.reduceNeg,Int.reduceToNat,hi',hi0,encIs_get l i hi,encI,hx,hp']
   refine callq (least10_ok _) ?_
   simp -implicitDefEqProofs only [push_cast,Nat.reduceAdd,Nat.reduceSub,Nat.reduceMul,Nat.reduceLT,Nat.reduceLeDiff,Nat.reduceEqDiff,Nat.reduceBEq,reduceCtorEq,reduceIte,Int.reduceLE,Int.reduceLT,Int.reduceNeg,Int.reduceToNat]
   have hb:leastK x = min (max x 0) capK:=by unfold leastK capK; omega
   have hb2:0 ≤ leastK x ∧ leastK x ≤ capK:=by unfold leastK capK; omega
   rw [wrap64 (n:=v + leastK x) (by unfold capK at *; omega) (by unfold capK at *; omega)]
   refine callq (least10_ok _) ?_
   simp -implicitDefEqProofs only [push_cast,Nat.reduceAdd,Nat.reduceSub,Nat.reduceMul,Nat.reduceLT,Nat.reduceLeDiff,Nat.reduceEqDiff,Nat.reduceBEq,reduceCtorEq,reduceIte,Int.reduceLE,Int.reduceLT,Int.reduceNeg,Int.reduceToNat]
   rw [wrap64 (n:=(i:Int) + 1) (by omega) (by omega)]
   have hv:addK (l.take (i + 1)) = leastK (v + leastK x):=by rw [hsn,hb]; rfl
   refine next_at [] (i + 1) (by omega) (by omega) rfl ?_ ?_
   ·(try simp -implicitDefEqProofs only [push_cast,Nat.reduceAdd,Nat.reduceSub,Nat.reduceMul,Nat.reduceLT,Nat.reduceLeDiff,Nat.reduceEqDiff,Nat.reduceBEq,reduceCtorEq,reduceIte,Int.reduceLE,Int.reduceLT,Int.reduceNeg,Int.reduceToNat,hv,encIs_pure])
   ·(try simp -implicitDefEqProofs only [push_cast,Nat.reduceAdd,Nat.reduceSub,Nat.reduceMul,Nat.reduceLT,Nat.reduceLeDiff,Nat.reduceEqDiff,Nat.reduceBEq,reduceCtorEq,reduceIte,Int.reduceLE,Int.reduceLT,Int.reduceNeg,Int.reduceToNat])
  ·have hp':(0 < x) = False:=by simp; omega
   simp -implicitDefEqProofs only [push_cast,Nat.reduceAdd,Nat.reduceSub,Nat.reduceMul,Nat.reduceLT,Nat.reduceLeDiff,Nat.reduceEqDiff,Nat.reduceBEq,reduceCtorEq,reduceIte,Int.reduceLE,Int.reduceLT,Int.reduceNeg,Int.reduceToNat,hi',hi0,encIs_get l i hi,encI,hx,hp']
   rw [wrap64 (n:=(i:Int) + 1) (by omega) (by omega)]
   have hv:addK (l.take (i + 1)) = v:=by rw [hsn]; unfold capK at *; omega
   refine next_at [] (i + 1) (by omega) (by omega) rfl ?_ ?_
   ·(try simp -implicitDefEqProofs only [push_cast,Nat.reduceAdd,Nat.reduceSub,Nat.reduceMul,Nat.reduceLT,Nat.reduceLeDiff,Nat.reduceEqDiff,Nat.reduceBEq,reduceCtorEq,reduceIte,Int.reduceLE,Int.reduceLT,Int.reduceNeg,Int.reduceToNat,hv,encIs_pure])
   ·(try simp -implicitDefEqProofs only [push_cast,Nat.reduceAdd,Nat.reduceSub,Nat.reduceMul,Nat.reduceLT,Nat.reduceLeDiff,Nat.reduceEqDiff,Nat.reduceBEq,reduceCtorEq,reduceIte,Int.reduceLE,Int.reduceLT,Int.reduceNeg,Int.reduceToNat])
 ·have hi':((i:Int) < (l.length:Int)) = False:=by simp; omega
  simp -implicitDefEqProofs only [push_cast,Nat.reduceAdd,Nat.reduceSub,Nat.reduceMul,Nat.reduceLT,Nat.reduceLeDiff,Nat.reduceEqDiff,Nat.reduceBEq,reduceCtorEq,reduceIte,Int.reduceLE,Int.reduceLT,Int.reduceNeg,Int.reduceToNat,hi']
  rw [List.take_of_length_le (by omega)]
theorem nest_div {x y:Int} (hx:0 < x) (hy:0 ≤ y):(1125899906842624 / x < y ↔ 1125899906842624 < x * y):=by
 constructor
 ·intro h
  have h1:1125899906842624 / x + 1 ≤ y:=by omega
  have h2:=Int.mul_le_mul_of_nonneg_left h1 (Int.le_of_lt hx)
  have h3:=Int.lt_mul_ediv_self_add (x:=1125899906842624) hx
  rw [Int.mul_add] at h2
  omega
 ·intro h
  rw [Int.ediv_lt_iff_lt_mul hx,Int.mul_comm]
  exact h
theorem Nest10_ok (a b:Int):Quiet Go.Proofs.Tryz.prog 102 [.int a, .int b] (.int (nestK a b)):=by
 have ha:=rowsK_range a
 have hb:=rowsK_range b
 refine quiet_of (rs:=#[.tmp 4]) Go.Proofs.Tryz.func102 rfl rfl rfl mixed rfl rfl fun H hs=>?_
 simp -implicitDefEqProofs only [push_cast,Nat.reduceAdd,Nat.reduceSub,Nat.reduceMul,Nat.reduceLT,Nat.reduceLeDiff,Nat.reduceEqDiff,Nat.reduceBEq,reduceCtorEq,reduceIte,Int.reduceLE,Int.reduceLT,Int.reduceNeg,Int.reduceToNat]
 refine callq (rows10_ok a) ?_
 simp -implicitDefEqProofs only [push_cast,Nat.reduceAdd,Nat.reduceSub,Nat.reduceMul,Nat.reduceLT,Nat.reduceLeDiff,Nat.reduceEqDiff,Nat.reduceBEq,reduceCtorEq,reduceIte,Int.reduceLE,Int.reduceLT,Int.reduceNeg,Int.reduceToNat]
 refine callq (rows10_ok b) ?_
 unfold nestK leastK
 generalize rowsK a = x at *
 generalize rowsK b = y at *
 by_cases hx:0 < x
 ·have hx':(0 < x) = True:=by simp [hx]
  have hd:=nest_div hx hb.1
  have hxy:0 ≤ x * y:=Int.mul_nonneg ha.1 hb.1
  have hz:(x = 0) = False:=by simp; omega
  simp -implicitDefEqProofs only [push_cast,Nat.reduceAdd,Nat.reduceSub,Nat.reduceMul,Nat.reduceLT,Nat.reduceLeDiff,Nat.reduceEqDiff,Nat.reduceBEq,reduceCtorEq,reduceIte,Int.reduceLE,Int.reduceLT,Int.reduceNeg,Int.reduceToNat,hx',hz]
  have h1:0 ≤ 1125899906842624 / x:=Int.ediv_nonneg (by omega) (by omega)
  have h2:1125899906842624 / x ≤ 1125899906842624:=Int.ediv_le_self _ (by omega)
  rw [Int.tdiv_eq_ediv_of_nonneg (by omega),wrap64 (n:=1125899906842624 / x) (by omega) (by omega)]
  unfold capK
  refine ⟨fun h=>?_,fun h=>?_⟩
  ·have:=hd.1 h
   generalize x * y = M at *
   omega
  ·have h5:¬ 1125899906842624 < x * y:=fun h6=>h (hd.2 h6)
   generalize x * y = M at *
   rw [wrap64 (by omega) (by omega)]
   omega
 ·obtain rfl:x = 0:=by omega
  simp -implicitDefEqProofs only [push_cast,Nat.reduceAdd,Nat.reduceSub,Nat.reduceMul,Nat.reduceLT,Nat.reduceLeDiff,Nat.reduceEqDiff,Nat.reduceBEq,reduceCtorEq,reduceIte,Int.reduceLE,Int.reduceLT,Int.reduceNeg,Int.reduceToNat]
  rw [Int.zero_mul,wrap64 (by omega) (by omega)]
  unfold capK
  omega
end
section
attribute [local push_cast] encE_mk encE_take encE_len encV encE_one encEs_pure encE_pure
theorem log2_shift (n k:Nat) (h:2 ^ k ≤ n):n.log2 = (n / 2 ^ k).log2 + k:=by
 have hp:0 < 2 ^ k:=Nat.two_pow_pos k
 have hm:n / 2 ^ k ≠ 0:=by have:=Nat.div_pos h hp; omega
 have h1:=Nat.log2_self_le hm
 have h2:n / 2 ^ k < 2 ^ ((n / 2 ^ k).log2 + 1):=Nat.lt_log2_self
 rw [Nat.log2_eq_iff (by omega)]
 refine ⟨?_, ?_⟩
 ·rw [Nat.pow_add]
  exact Nat.le_trans (Nat.mul_le_mul_right _ h1) (Nat.div_mul_le_self _ _)
 ·have h3:n / 2 ^ k + 1 ≤ 2 ^ ((n / 2 ^ k).log2 + 1):=h2
  have h4:=Nat.mul_le_mul_right (2 ^ k) h3
  have h5:=Nat.lt_mul_div_succ n hp
  have e:2 ^ ((n / 2 ^ k).log2 + k + 1) = 2 ^ ((n / 2 ^ k).log2 + 1) * 2 ^ k:=by rw [← Nat.pow_add]; congr 1; omega
  rw [e]
  rw [Nat.mul_comm] at h5
  omega
theorem lenK_nat (n:Nat) (h:0 < n):lenK n = n.log2 + 1:=by
 unfold lenK
 rw [if_neg (by omega),Int.toNat_natCast]
theorem lenK_shift (n k:Nat) (h:2 ^ k ≤ n):lenK n = lenK ((n / 2 ^ k:Nat):Int) + k:=by
 have hp:0 < 2 ^ k:=Nat.two_pow_pos k
 have hm:0 < n / 2 ^ k:=Nat.div_pos h hp
 rw [lenK_nat n (by omega),lenK_nat _ hm,log2_shift n k h]
 omega
theorem lenK_count (x:Nat) (k:Nat):(2 ^ k ≤ x ↔ (k:Int) < lenK x):=by
 rcases Nat.eq_zero_or_pos x with rfl | hx
 ·have:0 < 2 ^ k:=Nat.two_pow_pos k
  have e:lenK ((0:Nat):Int) = 0:=by decide
  rw [e]
  omega
 ·rw [lenK_nat x hx,← Nat.le_log2 (by omega)]
  omega
theorem lenK_range {n:Int} (h0:0 ≤ n) (h1:n ≤ 1099511627776):0 ≤ lenK n ∧ lenK n ≤ 41:=by
 obtain ⟨m,rfl⟩:∃ m:Nat,n = m:=⟨n.toNat,by omega⟩
 rcases Nat.eq_zero_or_pos m with rfl | hm
 ·decide
 ·rw [lenK_nat m hm]
  have:m.log2 < 41:=(Nat.log2_lt (by omega)).2 (by omega)
  omega
theorem Sort10_ok (n:Int):Quiet Go.Proofs.Tryz.prog 91 [.int n] (.int (sortK n)):=by
 have hn:=rowsK_range n
 refine quiet_of (rs:=#[.tmp 2]) Go.Proofs.Tryz.func91 rfl rfl rfl mixed rfl rfl fun H hs=>?_
 simp -implicitDefEqProofs only [push_cast,Nat.reduceAdd,Nat.reduceSub,Nat.reduceMul,Nat.reduceLT,Nat.reduceLeDiff,Nat.reduceEqDiff,Nat.reduceBEq,reduceCtorEq,reduceIte,Int.reduceLE,Int.reduceLT,Int.reduceNeg,Int.reduceToNat]
 refine callq (rows10_ok n) ?_
 unfold sortK
 generalize rowsK n = x at hn ⊢
 obtain ⟨m,rfl⟩:∃ m:Nat,x = m:=⟨x.toNat,by omega⟩
 have hl:=lenK_range hn.1 hn.2
 simp -implicitDefEqProofs only [push_cast,Nat.reduceAdd,Nat.reduceSub,Nat.reduceMul,Nat.reduceLT,Nat.reduceLeDiff,Nat.reduceEqDiff,Nat.reduceBEq,reduceCtorEq,reduceIte,Int.reduceLE,Int.reduceLT,Int.reduceNeg,Int.reduceToNat]
 refine loop_at hs (σ:=Nat) (fun k=>(k:Int) ≤ lenK m) (fun k=>42 - k)
  (fun k=>[(5, .int (2 ^ k)),(4, .int k),(3, .int m)]) (fun _=>[]) [] 0 (by omega) rfl ?_ ?_ ?_
 ·(try simp -implicitDefEqProofs only [push_cast,Nat.reduceAdd,Nat.reduceSub,Nat.reduceMul,Nat.reduceLT,Nat.reduceLeDiff,Nat.reduceEqDiff,Nat.reduceBEq,reduceCtorEq,reduceIte,Int.reduceLE,Int.reduceLT,Int.reduceNeg,Int.reduceToNat,Int.pow_zero])
 ·(try simp -implicitDefEqProofs only [push_cast,Nat.reduceAdd,Nat.reduceSub,Nat.reduceMul,Nat.reduceLT,Nat.reduceLeDiff,Nat.reduceEqDiff,Nat.reduceBEq,reduceCtorEq,reduceIte,Int.reduceLE,Int.reduceLT,Int.reduceNeg,Int.reduceToNat])
 intro k hk
 have hc:=lenK_count m k
 have hcast:((2 ^ k:Nat):Int) = (2:Int) ^ k:=by simp
 by_cases hlt:2 ^ k ≤ m
 ·have hk1:=hc.1 hlt
  have hle:((2:Int) ^ k ≤ (m:Int)) = True:=by simp only [eq_iff_iff,iff_true]; omega
  have hps:(2:Int) ^ (k + 1) = 2 * 2 ^ k:=by rw [Int.pow_succ]; omega
  have hpos:0 < (2:Int) ^ k:=by rw [← hcast]; have:=Nat.two_pow_pos k; omega
  simp -implicitDefEqProofs only [push_cast,Nat.reduceAdd,Nat.reduceSub,Nat.reduceMul,Nat.reduceLT,Nat.reduceLeDiff,Nat.reduceEqDiff,Nat.reduceBEq,reduceCtorEq,reduceIte,Int.reduceLE,Int.reduceLT,Int.reduceNeg,Int.reduceToNat,hle]
  rw [wrap64 (n:=2 * 2 ^ k) (by omega) (by omega),wrap64 (n:=(k:Int) + 1) (by omega) (by omega)]
  refine next_at [] (k + 1) (by omega) (by omega) rfl ?_ ?_
  ·(try simp -implicitDefEqProofs only [push_cast,Nat.reduceAdd,Nat.reduceSub,Nat.reduceMul,Nat.reduceLT,Nat.reduceLeDiff,Nat.reduceEqDiff,Nat.reduceBEq,reduceCtorEq,reduceIte,Int.reduceLE,Int.reduceLT,Int.reduceNeg,Int.reduceToNat,hps])
  ·(try simp -implicitDefEqProofs only [push_cast,Nat.reduceAdd,Nat.reduceSub,Nat.reduceMul,Nat.reduceLT,Nat.reduceLeDiff,Nat.reduceEqDiff,Nat.reduceBEq,reduceCtorEq,reduceIte,Int.reduceLE,Int.reduceLT,Int.reduceNeg,Int.reduceToNat])
 ·have hk1:lenK m = k:=by have:=mt hc.2 hlt; omega
  have hle:((2:Int) ^ k ≤ (m:Int)) = False:=by simp only [eq_iff_iff,iff_false]; omega
  simp -implicitDefEqProofs only [push_cast,Nat.reduceAdd,Nat.reduceSub,Nat.reduceMul,Nat.reduceLT,Nat.reduceLeDiff,Nat.reduceEqDiff,Nat.reduceBEq,reduceCtorEq,reduceIte,Int.reduceLE,Int.reduceLT,Int.reduceNeg,Int.reduceToNat,hle]
  rw [← hk1]
  have hb:(m:Int) * lenK m ≤ 1099511627776 * 41:=Int.mul_le_mul hn.2 hl.2 hl.1 (by omega)
  have hb0:0 ≤ (m:Int) * lenK m:=Int.mul_nonneg hn.1 hl.1
  rw [wrap64 (n:=(m:Int) * lenK m) (by omega) (by omega)]
  refine callq (least10_ok _) ?_
  simp -implicitDefEqProofs only [push_cast,Nat.reduceAdd,Nat.reduceSub,Nat.reduceMul,Nat.reduceLT,Nat.reduceLeDiff,Nat.reduceEqDiff,Nat.reduceBEq,reduceCtorEq,reduceIte,Int.reduceLE,Int.reduceLT,Int.reduceNeg,Int.reduceToNat]
theorem bshr32 (x:Nat):bshr .u64 (x:Int) 32 = ((x / 4294967296:Nat):Int):=by
 have e:bshr .u64 (x:Int) 32 = Int.fdiv x 4294967296:=rfl
 rw [e,Int.fdiv_eq_ediv_of_nonneg _ (by omega)]
 rfl
theorem bshr16 (x:Nat):bshr .u64 (x:Int) 16 = ((x / 65536:Nat):Int):=by
 have e:bshr .u64 (x:Int) 16 = Int.fdiv x 65536:=rfl
 rw [e,Int.fdiv_eq_ediv_of_nonneg _ (by omega)]
 rfl
theorem bshr8 (x:Nat):bshr .u64 (x:Int) 8 = ((x / 256:Nat):Int):=by
 have e:bshr .u64 (x:Int) 8 = Int.fdiv x 256:=rfl
 rw [e,Int.fdiv_eq_ediv_of_nonneg _ (by omega)]
 rfl
theorem len_end (T:ByteArray) (hs:T.size = 256) (ht:∀ y:Fin 256,((T[y.val]?.getD 0).toNat:Int) = lenK (y.val:Int)) (y:Nat) (hy:y < 256) (c L:Int) (c0:0 ≤ c) (c1:c ≤ 56) (hL:L = lenK y + c) :
  (0 ≤ IntKind.wrap .u8 (y:Int) ∧ IntKind.wrap .u8 (y:Int) < T.size) ∧ IntKind.wrap .i64 (c + IntKind.wrap .i64 ((T[(IntKind.wrap .u8 (y:Int)).toNat]?.getD 0).toNat:Int)) = L:=by
 have e:IntKind.wrap .u8 (y:Int) = y:=by unfold IntKind.wrap; simp [IntKind.signed,IntKind.bits]; omega
 have h:=ht ⟨y,hy⟩
 have hr:=lenK_range (n:=(y:Int)) (by omega) (by omega)
 dsimp only at h
 rw [e,Int.toNat_natCast,h,wrap64 (n:=lenK y) (by omega) (by omega),wrap64 (n:=c + lenK y) (by omega) (by omega),hL,hs]
 omega
theorem Len64_ok (x:Nat) (hx:x < 18446744073709551616):Quiet Go.Proofs.Tryz.prog 76 [.lit (.int .u64 x)] (.int (lenK x)):=by
 refine quiet_of (rs:=#[.tmp 2]) Go.Proofs.Tryz.func76 rfl rfl rfl mixed rfl rfl fun H hs=>?_
 simp -implicitDefEqProofs only [push_cast,Nat.reduceAdd,Nat.reduceSub,Nat.reduceMul,Nat.reduceLT,Nat.reduceLeDiff,Nat.reduceEqDiff,Nat.reduceBEq,reduceCtorEq,reduceIte,Int.reduceLE,Int.reduceLT,Int.reduceNeg,Int.reduceToNat]
 generalize hT:(ByteArray.mk _) = T
 have hsz:T.size = 256:=by rw [← hT]; decide +kernel
 have htb:∀ y:Fin 256,((T[y.val]?.getD 0).toNat:Int) = lenK (y.val:Int):=by rw [← hT]; decide +kernel
 clear hT
 have w1:IntKind.wrap .i64 (IntKind.wrap .i64 (32 + 16) + 8) = 56:=by decide
 have w2:IntKind.wrap .i64 (32 + 16) = 48:=by decide
 have w3:IntKind.wrap .i64 (32 + 8) = 40:=by decide
 have w4:IntKind.wrap .i64 (IntKind.wrap .i64 (0 + 16) + 8) = 24:=by decide
 have w5:IntKind.wrap .i64 (0 + 16) = 16:=by decide
 have w6:IntKind.wrap .i64 (0 + 8) = 8:=by decide
 simp only [w1,w2,w3,w4,w5,w6,bshr32,bshr16,bshr8]
 have s32:∀ y:Nat,4294967296 ≤ y → lenK y = lenK ((y / 4294967296:Nat):Int) + 32:=fun y h=>lenK_shift y 32 h
 have s16:∀ y:Nat,65536 ≤ y → lenK y = lenK ((y / 65536:Nat):Int) + 16:=fun y h=>lenK_shift y 16 h
 have s8:∀ y:Nat,256 ≤ y → lenK y = lenK ((y / 256:Nat):Int) + 8:=fun y h=>lenK_shift y 8 h
 refine ⟨fun h1=>⟨fun h2=>⟨fun h3=>?_,fun h3=>?_⟩,fun h2=>⟨fun h3=>?_,fun h3=>?_⟩⟩,fun h1=>⟨fun h2=>⟨fun h3=>?_,fun h3=>?_⟩,fun h2=>⟨fun h3=>?_,fun h3=>?_⟩⟩⟩
 ·exact len_end T hsz htb _ (by omega) 56 _ (by omega) (by omega) (by rw [s32 x (by omega),s16 _ (by omega),s8 _ (by omega)]; omega)
 ·exact len_end T hsz htb _ (by omega) 48 _ (by omega) (by omega) (by rw [s32 x (by omega),s16 _ (by omega)]; omega)
 ·exact len_end T hsz htb _ (by omega) 40 _ (by omega) (by omega) (by rw [s32 x (by omega),s8 _ (by omega)]; omega)
 ·exact len_end T hsz htb _ (by omega) 32 _ (by omega) (by omega) (by rw [s32 x (by omega)])
 ·exact len_end T hsz htb _ (by omega) 24 _ (by omega) (by omega) (by rw [s16 x (by omega),s8 _ (by omega)]; omega)
 ·exact len_end T hsz htb _ (by omega) 16 _ (by omega) (by omega) (by rw [s16 x (by omega)])
 ·exact len_end T hsz htb _ (by omega) 8 _ (by omega) (by omega) (by rw [s8 x (by omega)])
 ·exact len_end T hsz htb _ (by omega) 0 _ (by omega) (by omega) (by omega)
theorem SortK_ok (n:Int):Quiet Go.Proofs.Tryz.prog 27 [.int n] (.int (sortK n)):=by
 have hn:=rowsK_range n
 have hl:=lenK_range hn.1 hn.2
 refine quiet_of (rs:=#[.tmp 2]) Go.Proofs.Tryz.func27 rfl rfl rfl mixed rfl rfl fun H hs=>?_
 simp -implicitDefEqProofs only [push_cast,Nat.reduceAdd,Nat.reduceSub,Nat.reduceMul,Nat.reduceLT,Nat.reduceLeDiff,Nat.reduceEqDiff,Nat.reduceBEq,reduceCtorEq,reduceIte,Int.reduceLE,Int.reduceLT,Int.reduceNeg,Int.reduceToNat]
 refine callq (rowsK_ok n) ?_
 simp -implicitDefEqProofs only [push_cast,Nat.reduceAdd,Nat.reduceSub,Nat.reduceMul,Nat.reduceLT,Nat.reduceLeDiff,Nat.reduceEqDiff,Nat.reduceBEq,reduceCtorEq,reduceIte,Int.reduceLE,Int.reduceLT,Int.reduceNeg,Int.reduceToNat]
 refine callq (rowsK_ok n) ?_
 unfold sortK
 generalize rowsK n = x at hn hl ⊢
 obtain ⟨m,rfl⟩:∃ m:Nat,x = m:=⟨x.toNat,by omega⟩
 have e1:IntKind.wrap .u64 (m:Int) = m:=by rw [IntKind.wrap_u64]; omega
 simp -implicitDefEqProofs only [push_cast,Nat.reduceAdd,Nat.reduceSub,Nat.reduceMul,Nat.reduceLT,Nat.reduceLeDiff,Nat.reduceEqDiff,Nat.reduceBEq,reduceCtorEq,reduceIte,Int.reduceLE,Int.reduceLT,Int.reduceNeg,Int.reduceToNat]
 rw [e1]
 refine callq (Len64_ok m (by omega)) ?_
 simp -implicitDefEqProofs only [push_cast,Nat.reduceAdd,Nat.reduceSub,Nat.reduceMul,Nat.reduceLT,Nat.reduceLeDiff,Nat.reduceEqDiff,Nat.reduceBEq,reduceCtorEq,reduceIte,Int.reduceLE,Int.reduceLT,Int.reduceNeg,Int.reduceToNat]
 refine callq (timesK_ok (m:Int) (lenK m) hn.1 hn.2 hl.1 (by omega)) ?_
 simp -implicitDefEqProofs only [push_cast,Nat.reduceAdd,Nat.reduceSub,Nat.reduceMul,Nat.reduceLT,Nat.reduceLeDiff,Nat.reduceEqDiff,Nat.reduceBEq,reduceCtorEq,reduceIte,Int.reduceLE,Int.reduceLT,Int.reduceNeg,Int.reduceToNat]
end
section
attribute [local push_cast] encPl_mk encPl_take encPl_len encPl_one encPls_pure encPl_pure encT_pure encT_len encT_one encT_take
def mayP (c:List Df) (q:Qy) (p:Pl):Bool:=p.tree.2 && q.may c && decide ((treeP p).set < 2 ^ q.occ.length) && (parts p).all (fitP c q)
def ownC (c:List Df) (q:Qy):Pl → Int
 | .mk op occ a b l =>
  match l with
  | []=>scanK (baseR c q occ)
  | [x]=>sortK (rowsQ c q (treeP x).set)
  | x :: y :: _=>if op = 1 then nestK (rowsQ c q (treeP x).set) (rowsQ c q (treeP y).set) else if op = 2 then hashK (rowsQ c q (treeP x).set) (rowsQ c q (treeP y).set) else mergeK (rowsQ c q (treeP x).set) (rowsQ c q (treeP y).set)
theorem leastK_range {n:Int} (h:0 ≤ n):0 ≤ leastK n ∧ leastK n ≤ capK:=by unfold leastK capK; omega
theorem lenK_pos (n:Int):0 ≤ lenK n:=by unfold lenK; split <;> omega
theorem nestK_range (a b:Int):0 ≤ nestK a b ∧ nestK a b ≤ capK:=leastK_range (Int.mul_nonneg (rowsK_range a).1 (rowsK_range b).1)
theorem hashK_range (a b:Int):0 ≤ hashK a b ∧ hashK a b ≤ capK:=leastK_range (by have:=rowsK_range a; have:=rowsK_range b; omega)
theorem mergeK_range (a b:Int):0 ≤ mergeK a b ∧ mergeK a b ≤ capK:=leastK_range (by have:=rowsK_range a; have:=rowsK_range b; omega)
theorem sortK_range (a:Int):0 ≤ sortK a ∧ sortK a ≤ capK:=leastK_range (Int.mul_nonneg (rowsK_range a).1 (lenK_pos _))
theorem scanK_range (a:Int):0 ≤ scanK a ∧ scanK a ≤ capK:=by unfold scanK capK; have:=rowsK_range a; omega
theorem ownC_range (c:List Df) (q:Qy) (p:Pl):0 ≤ ownC c q p ∧ ownC c q p ≤ capK:=by
 obtain ⟨op,occ,a,b,l⟩:=p
 match l with
 | []=>exact scanK_range _
 | [x]=>exact sortK_range _
 | x :: y :: l =>
  simp only [ownC]
  split
  ·exact nestK_range _ _
  ·split
   ·exact hashK_range _ _
   ·exact mergeK_range _ _
def costP (c:List Df) (q:Qy) (p:Pl):Int:=if mayP c q p then addK ((parts p).map (ownC c q)) else capK
theorem few_forms {p:Pl} (h:p.few = true):(parts p).all Pl.form = true:=by
 unfold Pl.few at h
 rw [Bool.and_eq_true] at h
 exact h.2
theorem form_len {p:Pl} (h:p.form = true):p.l.length ≤ 2:=by
 obtain ⟨op,occ,a,b,l⟩:=p
 rcases form_split h with ⟨_,rfl⟩ | ⟨_,x,rfl⟩ | ⟨_,x,y,rfl⟩ <;> simp [Pl.l]
theorem cost_tree {c:List Df} {q:Qy} {p:Pl} (h:p.few = true):addK ((parts p).map (ownC c q)) = costT (ownC c q) p :=
 cost_parts (ownC c q) (ownC_range c q) p fun x hx=>form_len (List.all_eq_true.1 (few_forms h) x hx)
theorem leaf_in {occ a b op:Int} (h:(treeP (.mk op occ a b [])).may = true):0 ≤ occ ∧ occ < 4:=by
 rw [treeP,leaf_may] at h
 simpa using h
set_option maxHeartbeats 4000000 in
theorem costsR_ok (c:List Df) (hcl:c.length ≤ 1000000) (q:Qy) (hq:q.Ok) (hqi:q.In) (p:Pl):p.Ok → p.few = true → (treeP p).may = true → Quiet Go.Proofs.Tryz.prog 86 [.agg [.sl (c.map encD)], .agg (encQ q), .agg (encPl p)] (.int (costT (ownC c q) p)):=by
 induction p using Pl.ind with
 | h op occ a b l ih =>
 intro hok hf hm
 obtain ⟨hl,hlo⟩:=hok
 have hmx:=part_may (few_own hf) hm
 have hfx:∀ x ∈ l,x.few = true:=fun x hx=>few_part hf hx
 have ih':=fun x hx=>ih x hx (hlo x hx) (hfx x hx) (hmx x hx)
 have hS:∀ x ∈ l,Quiet Go.Proofs.Tryz.prog 87 [.agg (encPl x)] (.int (treeP x).set):=fun x hx=>by
  rw [← setOf_may (hfx x hx) (hmx x hx)]; exact SetP_ok x (hlo x hx)
 refine quiet_of (rs:=#[.tmp 6]) Go.Proofs.Tryz.func86 rfl rfl rfl mixed rfl rfl fun H hs=>?_
 rcases form_split (few_own hf) with ⟨rfl,rfl⟩ | ⟨rfl,x,rfl⟩ | ⟨hop,x,y,rfl⟩
 ·have hlf:=leaf_in hm
  have hv:costT (ownC c q) (.mk 0 occ a b []) = scanK (baseR c q occ):=rfl
  rw [hv]
  simp -implicitDefEqProofs only [push_cast,Nat.reduceAdd,Nat.reduceSub,Nat.reduceMul,Nat.reduceLT,Nat.reduceLeDiff,Nat.reduceEqDiff,Nat.reduceBEq,reduceCtorEq,reduceIte,Int.reduceLE,Int.reduceLT,Int.reduceNeg,Int.reduceToNat,encQ,Int.reduceEq,if_true]
  refine callq (BaseR_ok c hcl q hq hqi occ (by unfold In64; omega)) ?_
  simp -implicitDefEqProofs only [push_cast,Nat.reduceAdd,Nat.reduceSub,Nat.reduceMul,Nat.reduceLT,Nat.reduceLeDiff,Nat.reduceEqDiff,Nat.reduceBEq,reduceCtorEq,reduceIte,Int.reduceLE,Int.reduceLT,Int.reduceNeg,Int.reduceToNat]
  refine callq (Scan10_ok _) ?_
  simp -implicitDefEqProofs only [push_cast,Nat.reduceAdd,Nat.reduceSub,Nat.reduceMul,Nat.reduceLT,Nat.reduceLeDiff,Nat.reduceEqDiff,Nat.reduceBEq,reduceCtorEq,reduceIte,Int.reduceLE,Int.reduceLT,Int.reduceNeg,Int.reduceToNat]
 ·have hx:=ih' x (by simp)
  have hSx:=hS x (by simp)
  have hv:costT (ownC c q) (.mk 4 occ a b [x]) = addK [costT (ownC c q) x,sortK (rowsQ c q (treeP x).set)]:=rfl
  have hA:=Add10_ok [costT (ownC c q) x,sortK (rowsQ c q (treeP x).set)] (by simp)
  rw [hv]
  simp -implicitDefEqProofs only [push_cast,Nat.reduceAdd,Nat.reduceSub,Nat.reduceMul,Nat.reduceLT,Nat.reduceLeDiff,Nat.reduceEqDiff,Nat.reduceBEq,reduceCtorEq,reduceIte,Int.reduceLE,Int.reduceLT,Int.reduceNeg,Int.reduceToNat,encQ,Int.reduceEq,if_false,if_true,or_true,or_false,true_or,false_or,List.map_cons,List.map_nil,List.length_cons,List.length_nil,Int.reduceAdd]
  refine areg_at 9 (by kernel_rfl) (by kernel_rfl) ?_
  simp -implicitDefEqProofs only [push_cast,Nat.reduceAdd,Nat.reduceSub,Nat.reduceMul,Nat.reduceLT,Nat.reduceLeDiff,Nat.reduceEqDiff,Nat.reduceBEq,reduceCtorEq,reduceIte,Int.reduceLE,Int.reduceLT,Int.reduceNeg,Int.reduceToNat,encQ,Int.reduceEq,if_false,if_true,or_true,or_false,true_or,false_or,List.map_cons,List.map_nil,List.length_cons,List.length_nil,Int.reduceAdd]
  refine ahdq hSx ?_
  simp -implicitDefEqProofs only [push_cast,Nat.reduceAdd,Nat.reduceSub,Nat.reduceMul,Nat.reduceLT,Nat.reduceLeDiff,Nat.reduceEqDiff,Nat.reduceBEq,reduceCtorEq,reduceIte,Int.reduceLE,Int.reduceLT,Int.reduceNeg,Int.reduceToNat,encQ,Int.reduceEq,if_false,if_true,or_true,or_false,true_or,false_or,List.map_cons,List.map_nil,List.length_cons,List.length_nil,Int.reduceAdd]
  refine ahdq (RowsR_ok c hcl q hq hqi _) ?_
  simp -implicitDefEqProofs only [push_cast,Nat.reduceAdd,Nat.reduceSub,Nat.reduceMul,Nat.reduceLT,Nat.reduceLeDiff,Nat.reduceEqDiff,Nat.reduceBEq,reduceCtorEq,reduceIte,Int.reduceLE,Int.reduceLT,Int.reduceNeg,Int.reduceToNat,encQ,Int.reduceEq,if_false,if_true,or_true,or_false,true_or,false_or,List.map_cons,List.map_nil,List.length_cons,List.length_nil,Int.reduceAdd]
  refine areg_im [39] 12 (by kernel_rfl) (by kernel_rfl) ?_
  simp -implicitDefEqProofs only [push_cast,Nat.reduceAdd,Nat.reduceSub,Nat.reduceMul,Nat.reduceLT,Nat.reduceLeDiff,Nat.reduceEqDiff,Nat.reduceBEq,reduceCtorEq,reduceIte,Int.reduceLE,Int.reduceLT,Int.reduceNeg,Int.reduceToNat,encQ,Int.reduceEq,if_false,if_true,or_true,or_false,true_or,false_or,List.map_cons,List.map_nil,List.length_cons,List.length_nil,Int.reduceAdd]
  refine ahdq hx ?_
  simp -implicitDefEqProofs only [push_cast,Nat.reduceAdd,Nat.reduceSub,Nat.reduceMul,Nat.reduceLT,Nat.reduceLeDiff,Nat.reduceEqDiff,Nat.reduceBEq,reduceCtorEq,reduceIte,Int.reduceLE,Int.reduceLT,Int.reduceNeg,Int.reduceToNat,encQ,Int.reduceEq,if_false,if_true,or_true,or_false,true_or,false_or,List.map_cons,List.map_nil,List.length_cons,List.length_nil,Int.reduceAdd]
  refine ahdq (Sort10_ok _) ?_
  simp -implicitDefEqProofs only [push_cast,Nat.reduceAdd,Nat.reduceSub,Nat.reduceMul,Nat.reduceLT,Nat.reduceLeDiff,Nat.reduceEqDiff,Nat.reduceBEq,reduceCtorEq,reduceIte,Int.reduceLE,Int.reduceLT,Int.reduceNeg,Int.reduceToNat,encQ,Int.reduceEq,if_false,if_true,or_true,or_false,true_or,false_or,List.map_cons,List.map_nil,List.length_cons,List.length_nil,Int.reduceAdd]
  refine ahdq hA ?_
  simp -implicitDefEqProofs only [push_cast,Nat.reduceAdd,Nat.reduceSub,Nat.reduceMul,Nat.reduceLT,Nat.reduceLeDiff,Nat.reduceEqDiff,Nat.reduceBEq,reduceCtorEq,reduceIte,Int.reduceLE,Int.reduceLT,Int.reduceNeg,Int.reduceToNat,encQ,Int.reduceEq,if_false,if_true,or_true,or_false,true_or,false_or,List.map_cons,List.map_nil,List.length_cons,List.length_nil,Int.reduceAdd]
 ·have hx:=ih' x (by simp)
  have hSx:=hS x (by simp)
  have hy:=ih' y (by simp)
  have hSy:=hS y (by simp)
  rcases hop with rfl | rfl | rfl
  ·have hv:costT (ownC c q) (.mk 1 occ a b [x,y]) = addK [costT (ownC c q) x,costT (ownC c q) y,nestK (rowsQ c q (treeP x).set) (rowsQ c q (treeP y).set)]:=rfl
   have hA:=Add10_ok [costT (ownC c q) x,costT (ownC c q) y,nestK (rowsQ c q (treeP x).set) (rowsQ c q (treeP y).set)] (by simp)
   rw [hv]
   simp -implicitDefEqProofs only [push_cast,Nat.reduceAdd,Nat.reduceSub,Nat.reduceMul,Nat.reduceLT,Nat.reduceLeDiff,Nat.reduceEqDiff,Nat.reduceBEq,reduceCtorEq,reduceIte,Int.reduceLE,Int.reduceLT,Int.reduceNeg,Int.reduceToNat,encQ,Int.reduceEq,if_false,if_true,or_true,or_false,true_or,false_or,List.map_cons,List.map_nil,List.length_cons,List.length_nil,Int.reduceAdd]
   refine areg_at 9 (by kernel_rfl) (by kernel_rfl) ?_
   simp -implicitDefEqProofs only [push_cast,Nat.reduceAdd,Nat.reduceSub,Nat.reduceMul,Nat.reduceLT,Nat.reduceLeDiff,Nat.reduceEqDiff,Nat.reduceBEq,reduceCtorEq,reduceIte,Int.reduceLE,Int.reduceLT,Int.reduceNeg,Int.reduceToNat,encQ,Int.reduceEq,if_false,if_true,or_true,or_false,true_or,false_or,List.map_cons,List.map_nil,List.length_cons,List.length_nil,Int.reduceAdd]
   refine ahdq hSx ?_
   simp -implicitDefEqProofs only [push_cast,Nat.reduceAdd,Nat.reduceSub,Nat.reduceMul,Nat.reduceLT,Nat.reduceLeDiff,Nat.reduceEqDiff,Nat.reduceBEq,reduceCtorEq,reduceIte,Int.reduceLE,Int.reduceLT,Int.reduceNeg,Int.reduceToNat,encQ,Int.reduceEq,if_false,if_true,or_true,or_false,true_or,false_or,List.map_cons,List.map_nil,List.length_cons,List.length_nil,Int.reduceAdd]
   refine ahdq (RowsR_ok c hcl q hq hqi _) ?_
   simp -implicitDefEqProofs only [push_cast,Nat.reduceAdd,Nat.reduceSub,Nat.reduceMul,Nat.reduceLT,Nat.reduceLeDiff,Nat.reduceEqDiff,Nat.reduceBEq,reduceCtorEq,reduceIte,Int.reduceLE,Int.reduceLT,Int.reduceNeg,Int.reduceToNat,encQ,Int.reduceEq,if_false,if_true,or_true,or_false,true_or,false_or,List.map_cons,List.map_nil,List.length_cons,List.length_nil,Int.reduceAdd]
   refine areg_at 9 (by kernel_rfl) (by kernel_rfl) ?_
   simp -implicitDefEqProofs only [push_cast,Nat.reduceAdd,Nat.reduceSub,Nat.reduceMul,Nat.reduceLT,Nat.reduceLeDiff,Nat.reduceEqDiff,Nat.reduceBEq,reduceCtorEq,reduceIte,Int.reduceLE,Int.reduceLT,Int.reduceNeg,Int.reduceToNat,encQ,Int.reduceEq,if_false,if_true,or_true,or_false,true_or,false_or,List.map_cons,List.map_nil,List.length_cons,List.length_nil,Int.reduceAdd]
   refine ahdq hSy ?_
   simp -implicitDefEqProofs only [push_cast,Nat.reduceAdd,Nat.reduceSub,Nat.reduceMul,Nat.reduceLT,Nat.reduceLeDiff,Nat.reduceEqDiff,Nat.reduceBEq,reduceCtorEq,reduceIte,Int.reduceLE,Int.reduceLT,Int.reduceNeg,Int.reduceToNat,encQ,Int.reduceEq,if_false,if_true,or_true,or_false,true_or,false_or,List.map_cons,List.map_nil,List.length_cons,List.length_nil,Int.reduceAdd]
   refine ahdq (RowsR_ok c hcl q hq hqi _) ?_
   simp -implicitDefEqProofs only [push_cast,Nat.reduceAdd,Nat.reduceSub,Nat.reduceMul,Nat.reduceLT,Nat.reduceLeDiff,Nat.reduceEqDiff,Nat.reduceBEq,reduceCtorEq,reduceIte,Int.reduceLE,Int.reduceLT,Int.reduceNeg,Int.reduceToNat,encQ,Int.reduceEq,if_false,if_true,or_true,or_false,true_or,false_or,List.map_cons,List.map_nil,List.length_cons,List.length_nil,Int.reduceAdd]
   refine callq (Nest10_ok _ _) ?_
   simp -implicitDefEqProofs only [push_cast,Nat.reduceAdd,Nat.reduceSub,Nat.reduceMul,Nat.reduceLT,Nat.reduceLeDiff,Nat.reduceEqDiff,Nat.reduceBEq,reduceCtorEq,reduceIte,Int.reduceLE,Int.reduceLT,Int.reduceNeg,Int.reduceToNat,encQ,Int.reduceEq,if_false,if_true,or_true,or_false,true_or,false_or,List.map_cons,List.map_nil,List.length_cons,List.length_nil,Int.reduceAdd]
   refine areg_im [79] 18 (by kernel_rfl) (by kernel_rfl) ?_
   simp -implicitDefEqProofs only [push_cast,Nat.reduceAdd,Nat.reduceSub,Nat.reduceMul,Nat.reduceLT,Nat.reduceLeDiff,Nat.reduceEqDiff,Nat.reduceBEq,reduceCtorEq,reduceIte,Int.reduceLE,Int.reduceLT,Int.reduceNeg,Int.reduceToNat,encQ,Int.reduceEq,if_false,if_true,or_true,or_false,true_or,false_or,List.map_cons,List.map_nil,List.length_cons,List.length_nil,Int.reduceAdd]
   refine ahdq hx ?_
   simp -implicitDefEqProofs only [push_cast,Nat.reduceAdd,Nat.reduceSub,Nat.reduceMul,Nat.reduceLT,Nat.reduceLeDiff,Nat.reduceEqDiff,Nat.reduceBEq,reduceCtorEq,reduceIte,Int.reduceLE,Int.reduceLT,Int.reduceNeg,Int.reduceToNat,encQ,Int.reduceEq,if_false,if_true,or_true,or_false,true_or,false_or,List.map_cons,List.map_nil,List.length_cons,List.length_nil,Int.reduceAdd]
   refine ahdq hy ?_
   simp -implicitDefEqProofs only [push_cast,Nat.reduceAdd,Nat.reduceSub,Nat.reduceMul,Nat.reduceLT,Nat.reduceLeDiff,Nat.reduceEqDiff,Nat.reduceBEq,reduceCtorEq,reduceIte,Int.reduceLE,Int.reduceLT,Int.reduceNeg,Int.reduceToNat,encQ,Int.reduceEq,if_false,if_true,or_true,or_false,true_or,false_or,List.map_cons,List.map_nil,List.length_cons,List.length_nil,Int.reduceAdd]
   refine ahdq hA ?_
   simp -implicitDefEqProofs only [push_cast,Nat.reduceAdd,Nat.reduceSub,Nat.reduceMul,Nat.reduceLT,Nat.reduceLeDiff,Nat.reduceEqDiff,Nat.reduceBEq,reduceCtorEq,reduceIte,Int.reduceLE,Int.reduceLT,Int.reduceNeg,Int.reduceToNat,encQ,Int.reduceEq,if_false,if_true,or_true,or_false,true_or,false_or,List.map_cons,List.map_nil,List.length_cons,List.length_nil,Int.reduceAdd]
  ·have hv:costT (ownC c q) (.mk 2 occ a b [x,y]) = addK [costT (ownC c q) x,costT (ownC c q) y,hashK (rowsQ c q (treeP x).set) (rowsQ c q (treeP y).set)]:=rfl
   have hA:=Add10_ok [costT (ownC c q) x,costT (ownC c q) y,hashK (rowsQ c q (treeP x).set) (rowsQ c q (treeP y).set)] (by simp)
   rw [hv]
   simp -implicitDefEqProofs only [push_cast,Nat.reduceAdd,Nat.reduceSub,Nat.reduceMul,Nat.reduceLT,Nat.reduceLeDiff,Nat.reduceEqDiff,Nat.reduceBEq,reduceCtorEq,reduceIte,Int.reduceLE,Int.reduceLT,Int.reduceNeg,Int.reduceToNat,encQ,Int.reduceEq,if_false,if_true,or_true,or_false,true_or,false_or,List.map_cons,List.map_nil,List.length_cons,List.length_nil,Int.reduceAdd]
   refine areg_at 9 (by kernel_rfl) (by kernel_rfl) ?_
   simp -implicitDefEqProofs only [push_cast,Nat.reduceAdd,Nat.reduceSub,Nat.reduceMul,Nat.reduceLT,Nat.reduceLeDiff,Nat.reduceEqDiff,Nat.reduceBEq,reduceCtorEq,reduceIte,Int.reduceLE,Int.reduceLT,Int.reduceNeg,Int.reduceToNat,encQ,Int.reduceEq,if_false,if_true,or_true,or_false,true_or,false_or,List.map_cons,List.map_nil,List.length_cons,List.length_nil,Int.reduceAdd]
   refine ahdq hSx ?_
   simp -implicitDefEqProofs only [push_cast,Nat.reduceAdd,Nat.reduceSub,Nat.reduceMul,Nat.reduceLT,Nat.reduceLeDiff,Nat.reduceEqDiff,Nat.reduceBEq,reduceCtorEq,reduceIte,Int.reduceLE,Int.reduceLT,Int.reduceNeg,Int.reduceToNat,encQ,Int.reduceEq,if_false,if_true,or_true,or_false,true_or,false_or,List.map_cons,List.map_nil,List.length_cons,List.length_nil,Int.reduceAdd]
   refine ahdq (RowsR_ok c hcl q hq hqi _) ?_
   simp -implicitDefEqProofs only [push_cast,Nat.reduceAdd,Nat.reduceSub,Nat.reduceMul,Nat.reduceLT,Nat.reduceLeDiff,Nat.reduceEqDiff,Nat.reduceBEq,reduceCtorEq,reduceIte,Int.reduceLE,Int.reduceLT,Int.reduceNeg,Int.reduceToNat,encQ,Int.reduceEq,if_false,if_true,or_true,or_false,true_or,false_or,List.map_cons,List.map_nil,List.length_cons,List.length_nil,Int.reduceAdd]
   refine areg_at 9 (by kernel_rfl) (by kernel_rfl) ?_
   simp -implicitDefEqProofs only [push_cast,Nat.reduceAdd,Nat.reduceSub,Nat.reduceMul,Nat.reduceLT,Nat.reduceLeDiff,Nat.reduceEqDiff,Nat.reduceBEq,reduceCtorEq,reduceIte,Int.reduceLE,Int.reduceLT,Int.reduceNeg,Int.reduceToNat,encQ,Int.reduceEq,if_false,if_true,or_true,or_false,true_or,false_or,List.map_cons,List.map_nil,List.length_cons,List.length_nil,Int.reduceAdd]
   refine ahdq hSy ?_
   simp -implicitDefEqProofs only [push_cast,Nat.reduceAdd,Nat.reduceSub,Nat.reduceMul,Nat.reduceLT,Nat.reduceLeDiff,Nat.reduceEqDiff,Nat.reduceBEq,reduceCtorEq,reduceIte,Int.reduceLE,Int.reduceLT,Int.reduceNeg,Int.reduceToNat,encQ,Int.reduceEq,if_false,if_true,or_true,or_false,true_or,false_or,List.map_cons,List.map_nil,List.length_cons,List.length_nil,Int.reduceAdd]
   refine ahdq (RowsR_ok c hcl q hq hqi _) ?_
   simp -implicitDefEqProofs only [push_cast,Nat.reduceAdd,Nat.reduceSub,Nat.reduceMul,Nat.reduceLT,Nat.reduceLeDiff,Nat.reduceEqDiff,Nat.reduceBEq,reduceCtorEq,reduceIte,Int.reduceLE,Int.reduceLT,Int.reduceNeg,Int.reduceToNat,encQ,Int.reduceEq,if_false,if_true,or_true,or_false,true_or,false_or,List.map_cons,List.map_nil,List.length_cons,List.length_nil,Int.reduceAdd]
   refine callq (Nest10_ok _ _) ?_
   simp -implicitDefEqProofs only [push_cast,Nat.reduceAdd,Nat.reduceSub,Nat.reduceMul,Nat.reduceLT,Nat.reduceLeDiff,Nat.reduceEqDiff,Nat.reduceBEq,reduceCtorEq,reduceIte,Int.reduceLE,Int.reduceLT,Int.reduceNeg,Int.reduceToNat,encQ,Int.reduceEq,if_false,if_true,or_true,or_false,true_or,false_or,List.map_cons,List.map_nil,List.length_cons,List.length_nil,Int.reduceAdd]
   refine callq (Hash10_ok _ _) ?_
   simp -implicitDefEqProofs only [push_cast,Nat.reduceAdd,Nat.reduceSub,Nat.reduceMul,Nat.reduceLT,Nat.reduceLeDiff,Nat.reduceEqDiff,Nat.reduceBEq,reduceCtorEq,reduceIte,Int.reduceLE,Int.reduceLT,Int.reduceNeg,Int.reduceToNat,encQ,Int.reduceEq,if_false,if_true,or_true,or_false,true_or,false_or,List.map_cons,List.map_nil,List.length_cons,List.length_nil,Int.reduceAdd]
   refine areg_im [79] 18 (by kernel_rfl) (by kernel_rfl) ?_
   simp -implicitDefEqProofs only [push_cast,Nat.reduceAdd,Nat.reduceSub,Nat.reduceMul,Nat.reduceLT,Nat.reduceLeDiff,Nat.reduceEqDiff,Nat.reduceBEq,reduceCtorEq,reduceIte,Int.reduceLE,Int.reduceLT,Int.reduceNeg,Int.reduceToNat,encQ,Int.reduceEq,if_false,if_true,or_true,or_false,true_or,false_or,List.map_cons,List.map_nil,List.length_cons,List.length_nil,Int.reduceAdd]
   refine ahdq hx ?_
   simp -implicitDefEqProofs only [push_cast,Nat.reduceAdd,Nat.reduceSub,Nat.reduceMul,Nat.reduceLT,Nat.reduceLeDiff,Nat.reduceEqDiff,Nat.reduceBEq,reduceCtorEq,reduceIte,Int.reduceLE,Int.reduceLT,Int.reduceNeg,Int.reduceToNat,encQ,Int.reduceEq,if_false,if_true,or_true,or_false,true_or,false_or,List.map_cons,List.map_nil,List.length_cons,List.length_nil,Int.reduceAdd]
   refine ahdq hy ?_
   simp -implicitDefEqProofs only [push_cast,Nat.reduceAdd,Nat.reduceSub,Nat.reduceMul,Nat.reduceLT,Nat.reduceLeDiff,Nat.reduceEqDiff,Nat.reduceBEq,reduceCtorEq,reduceIte,Int.reduceLE,Int.reduceLT,Int.reduceNeg,Int.reduceToNat,encQ,Int.reduceEq,if_false,if_true,or_true,or_false,true_or,false_or,List.map_cons,List.map_nil,List.length_cons,List.length_nil,Int.reduceAdd]
   refine ahdq hA ?_
   simp -implicitDefEqProofs only [push_cast,Nat.reduceAdd,Nat.reduceSub,Nat.reduceMul,Nat.reduceLT,Nat.reduceLeDiff,Nat.reduceEqDiff,Nat.reduceBEq,reduceCtorEq,reduceIte,Int.reduceLE,Int.reduceLT,Int.reduceNeg,Int.reduceToNat,encQ,Int.reduceEq,if_false,if_true,or_true,or_false,true_or,false_or,List.map_cons,List.map_nil,List.length_cons,List.length_nil,Int.reduceAdd]
  ·have hv:costT (ownC c q) (.mk 3 occ a b [x,y]) = addK [costT (ownC c q) x,costT (ownC c q) y,mergeK (rowsQ c q (treeP x).set) (rowsQ c q (treeP y).set)]:=rfl
   have hA:=Add10_ok [costT (ownC c q) x,costT (ownC c q) y,mergeK (rowsQ c q (treeP x).set) (rowsQ c q (treeP y).set)] (by simp)
   rw [hv]
   simp -implicitDefEqProofs only [push_cast,Nat.reduceAdd,Nat.reduceSub,Nat.reduceMul,Nat.reduceLT,Nat.reduceLeDiff,Nat.reduceEqDiff,Nat.reduceBEq,reduceCtorEq,reduceIte,Int.reduceLE,Int.reduceLT,Int.reduceNeg,Int.reduceToNat,encQ,Int.reduceEq,if_false,if_true,or_true,or_false,true_or,false_or,List.map_cons,List.map_nil,List.length_cons,List.length_nil,Int.reduceAdd]
   refine areg_at 9 (by kernel_rfl) (by kernel_rfl) ?_
   simp -implicitDefEqProofs only [push_cast,Nat.reduceAdd,Nat.reduceSub,Nat.reduceMul,Nat.reduceLT,Nat.reduceLeDiff,Nat.reduceEqDiff,Nat.reduceBEq,reduceCtorEq,reduceIte,Int.reduceLE,Int.reduceLT,Int.reduceNeg,Int.reduceToNat,encQ,Int.reduceEq,if_false,if_true,or_true,or_false,true_or,false_or,List.map_cons,List.map_nil,List.length_cons,List.length_nil,Int.reduceAdd]
   refine ahdq hSx ?_
   simp -implicitDefEqProofs only [push_cast,Nat.reduceAdd,Nat.reduceSub,Nat.reduceMul,Nat.reduceLT,Nat.reduceLeDiff,Nat.reduceEqDiff,Nat.reduceBEq,reduceCtorEq,reduceIte,Int.reduceLE,Int.reduceLT,Int.reduceNeg,Int.reduceToNat,encQ,Int.reduceEq,if_false,if_true,or_true,or_false,true_or,false_or,List.map_cons,List.map_nil,List.length_cons,List.length_nil,Int.reduceAdd]
   refine ahdq (RowsR_ok c hcl q hq hqi _) ?_
   simp -implicitDefEqProofs only [push_cast,Nat.reduceAdd,Nat.reduceSub,Nat.reduceMul,Nat.reduceLT,Nat.reduceLeDiff,Nat.reduceEqDiff,Nat.reduceBEq,reduceCtorEq,reduceIte,Int.reduceLE,Int.reduceLT,Int.reduceNeg,Int.reduceToNat,encQ,Int.reduceEq,if_false,if_true,or_true,or_false,true_or,false_or,List.map_cons,List.map_nil,List.length_cons,List.length_nil,Int.reduceAdd]
   refine areg_at 9 (by kernel_rfl) (by kernel_rfl) ?_
   simp -implicitDefEqProofs only [push_cast,Nat.reduceAdd,Nat.reduceSub,Nat.reduceMul,Nat.reduceLT,Nat.reduceLeDiff,Nat.reduceEqDiff,Nat.reduceBEq,reduceCtorEq,reduceIte,Int.reduceLE,Int.reduceLT,Int.reduceNeg,Int.reduceToNat,encQ,Int.reduceEq,if_false,if_true,or_true,or_false,true_or,false_or,List.map_cons,List.map_nil,List.length_cons,List.length_nil,Int.reduceAdd]
   refine ahdq hSy ?_
   simp -implicitDefEqProofs only [push_cast,Nat.reduceAdd,Nat.reduceSub,Nat.reduceMul,Nat.reduceLT,Nat.reduceLeDiff,Nat.reduceEqDiff,Nat.reduceBEq,reduceCtorEq,reduceIte,Int.reduceLE,Int.reduceLT,Int.reduceNeg,Int.reduceToNat,encQ,Int.reduceEq,if_false,if_true,or_true,or_false,true_or,false_or,List.map_cons,List.map_nil,List.length_cons,List.length_nil,Int.reduceAdd]
   refine ahdq (RowsR_ok c hcl q hq hqi _) ?_
   simp -implicitDefEqProofs only [push_cast,Nat.reduceAdd,Nat.reduceSub,Nat.reduceMul,Nat.reduceLT,Nat.reduceLeDiff,Nat.reduceEqDiff,Nat.reduceBEq,reduceCtorEq,reduceIte,Int.reduceLE,Int.reduceLT,Int.reduceNeg,Int.reduceToNat,encQ,Int.reduceEq,if_false,if_true,or_true,or_false,true_or,false_or,List.map_cons,List.map_nil,List.length_cons,List.length_nil,Int.reduceAdd]
   refine callq (Nest10_ok _ _) ?_
   simp -implicitDefEqProofs only [push_cast,Nat.reduceAdd,Nat.reduceSub,Nat.reduceMul,Nat.reduceLT,Nat.reduceLeDiff,Nat.reduceEqDiff,Nat.reduceBEq,reduceCtorEq,reduceIte,Int.reduceLE,Int.reduceLT,Int.reduceNeg,Int.reduceToNat,encQ,Int.reduceEq,if_false,if_true,or_true,or_false,true_or,false_or,List.map_cons,List.map_nil,List.length_cons,List.length_nil,Int.reduceAdd]
   refine callq (Merge10_ok _ _) ?_
   simp -implicitDefEqProofs only [push_cast,Nat.reduceAdd,Nat.reduceSub,Nat.reduceMul,Nat.reduceLT,Nat.reduceLeDiff,Nat.reduceEqDiff,Nat.reduceBEq,reduceCtorEq,reduceIte,Int.reduceLE,Int.reduceLT,Int.reduceNeg,Int.reduceToNat,encQ,Int.reduceEq,if_false,if_true,or_true,or_false,true_or,false_or,List.map_cons,List.map_nil,List.length_cons,List.length_nil,Int.reduceAdd]
   refine areg_im [79] 18 (by kernel_rfl) (by kernel_rfl) ?_
   simp -implicitDefEqProofs only [push_cast,Nat.reduceAdd,Nat.reduceSub,Nat.reduceMul,Nat.reduceLT,Nat.reduceLeDiff,Nat.reduceEqDiff,Nat.reduceBEq,reduceCtorEq,reduceIte,Int.reduceLE,Int.reduceLT,Int.reduceNeg,Int.reduceToNat,encQ,Int.reduceEq,if_false,if_true,or_true,or_false,true_or,false_or,List.map_cons,List.map_nil,List.length_cons,List.length_nil,Int.reduceAdd]
   refine ahdq hx ?_
   simp -implicitDefEqProofs only [push_cast,Nat.reduceAdd,Nat.reduceSub,Nat.reduceMul,Nat.reduceLT,Nat.reduceLeDiff,Nat.reduceEqDiff,Nat.reduceBEq,reduceCtorEq,reduceIte,Int.reduceLE,Int.reduceLT,Int.reduceNeg,Int.reduceToNat,encQ,Int.reduceEq,if_false,if_true,or_true,or_false,true_or,false_or,List.map_cons,List.map_nil,List.length_cons,List.length_nil,Int.reduceAdd]
   refine ahdq hy ?_
   simp -implicitDefEqProofs only [push_cast,Nat.reduceAdd,Nat.reduceSub,Nat.reduceMul,Nat.reduceLT,Nat.reduceLeDiff,Nat.reduceEqDiff,Nat.reduceBEq,reduceCtorEq,reduceIte,Int.reduceLE,Int.reduceLT,Int.reduceNeg,Int.reduceToNat,encQ,Int.reduceEq,if_false,if_true,or_true,or_false,true_or,false_or,List.map_cons,List.map_nil,List.length_cons,List.length_nil,Int.reduceAdd]
   refine ahdq hA ?_
   simp -implicitDefEqProofs only [push_cast,Nat.reduceAdd,Nat.reduceSub,Nat.reduceMul,Nat.reduceLT,Nat.reduceLeDiff,Nat.reduceEqDiff,Nat.reduceBEq,reduceCtorEq,reduceIte,Int.reduceLE,Int.reduceLT,Int.reduceNeg,Int.reduceToNat,encQ,Int.reduceEq,if_false,if_true,or_true,or_false,true_or,false_or,List.map_cons,List.map_nil,List.length_cons,List.length_nil,Int.reduceAdd]
theorem MayPR_ok (c:List Df) (hcl:c.length ≤ 1000000) (q:Qy) (hq:q.Ok) (hqi:q.In) (p:Pl) (hok:p.Ok):Quiet Go.Proofs.Tryz.prog 36 [.agg [.sl (c.map encD)], .agg (encQ q), .agg (encPl p)] (.bool (mayP c q p)):=by
 have hT:=TreeR_ok p hok
 have hM:=MayRQ_ok c hcl q hq hqi
 refine quiet_of (rs:=#[.tmp 6]) Go.Proofs.Tryz.func36 rfl rfl rfl mixed rfl rfl fun H hs=>?_
 simp -implicitDefEqProofs only [push_cast,Nat.reduceAdd,Nat.reduceSub,Nat.reduceMul,Nat.reduceLT,Nat.reduceLeDiff,Nat.reduceEqDiff,Nat.reduceBEq,reduceCtorEq,reduceIte,Int.reduceLE,Int.reduceLT,Int.reduceNeg,Int.reduceToNat,encQ]
 refine callq hT ?_
 simp -implicitDefEqProofs only [push_cast,Nat.reduceAdd,Nat.reduceSub,Nat.reduceMul,Nat.reduceLT,Nat.reduceLeDiff,Nat.reduceEqDiff,Nat.reduceBEq,reduceCtorEq,reduceIte,Int.reduceLE,Int.reduceLT,Int.reduceNeg,Int.reduceToNat,encQ]
 refine callq hM ?_
 unfold mayP
 cases ht:p.tree.2
 ·simp -implicitDefEqProofs only [push_cast,Nat.reduceAdd,Nat.reduceSub,Nat.reduceMul,Nat.reduceLT,Nat.reduceLeDiff,Nat.reduceEqDiff,Nat.reduceBEq,reduceCtorEq,reduceIte,Int.reduceLE,Int.reduceLT,Int.reduceNeg,Int.reduceToNat,encQ,Bool.false_and,Bool.false_eq_true,if_false]
 cases hm:q.may c
 ·simp -implicitDefEqProofs only [push_cast,Nat.reduceAdd,Nat.reduceSub,Nat.reduceMul,Nat.reduceLT,Nat.reduceLeDiff,Nat.reduceEqDiff,Nat.reduceBEq,reduceCtorEq,reduceIte,Int.reduceLE,Int.reduceLT,Int.reduceNeg,Int.reduceToNat,encQ,Bool.false_and,Bool.and_false,Bool.false_eq_true,if_false]
 have hfm:p.few = true ∧ (treeP p).may = true:=by rw [tree_iff,Bool.and_eq_true] at ht; exact ht
 have hF:=fitsR_ok c hcl q hq hqi p hok hfm.1 hfm.2
 have hL:=LeavesR_ok (treeP p) (treeP_ok p)
 have h4:q.occ.length ≤ 4:=(may_split hm).2.2.1
 have hb:=set_below hfm.2 q.occ.length h4
 have hl16:=lvsT_len 4 (treeP p) (by omega)
 rw [tree_1 ht]
 simp -implicitDefEqProofs only [push_cast,Nat.reduceAdd,Nat.reduceSub,Nat.reduceMul,Nat.reduceLT,Nat.reduceLeDiff,Nat.reduceEqDiff,Nat.reduceBEq,reduceCtorEq,reduceIte,Int.reduceLE,Int.reduceLT,Int.reduceNeg,Int.reduceToNat,encQ,Bool.true_and]
 refine callq hL ?_
 simp -implicitDefEqProofs only [push_cast,Nat.reduceAdd,Nat.reduceSub,Nat.reduceMul,Nat.reduceLT,Nat.reduceLeDiff,Nat.reduceEqDiff,Nat.reduceBEq,reduceCtorEq,reduceIte,Int.reduceLE,Int.reduceLT,Int.reduceNeg,Int.reduceToNat,encQ]
 generalize (lvsT 4 (treeP p)).1 = lv at hb hl16 ⊢
 refine loop_at hs (σ:=Nat) (fun i=>i ≤ lv.length ∧ ∀ (j:Nat) (h:j < lv.length),j < i → lv[j] < q.occ.length) (fun i=>lv.length - i)
  (fun i=>[(11, .int i),(10, .sl (lv.map encI)),(3, .ptr (H.nxt + 0) 1 0 0),(4, .ptr (H.nxt + 1) 6 0 0),(5, .ptr (H.nxt + 2) 5 0 0)]) (fun i=>[some (.cells 1 [[.sl (c.map encD)]] 0),some (.cells 6 [encQ q] 0),some (.cells 5 [encPl p] 0)]) [some 0,some 1,some 2] 0 ⟨by omega,fun j _ h=>by omega⟩ rfl ?_ ?_ ?_
 ·(try simp -implicitDefEqProofs only [push_cast,Nat.reduceAdd,Nat.reduceSub,Nat.reduceMul,Nat.reduceLT,Nat.reduceLeDiff,Nat.reduceEqDiff,Nat.reduceBEq,reduceCtorEq,reduceIte,Int.reduceLE,Int.reduceLT,Int.reduceNeg,Int.reduceToNat,encDs_pure,encEs_pure,encIs_pure,encQ])
 ·(try simp -implicitDefEqProofs only [push_cast,Nat.reduceAdd,Nat.reduceSub,Nat.reduceMul,Nat.reduceLT,Nat.reduceLeDiff,Nat.reduceEqDiff,Nat.reduceBEq,reduceCtorEq,reduceIte,Int.reduceLE,Int.reduceLT,Int.reduceNeg,Int.reduceToNat,encDs_pure,encEs_pure,encIs_pure,encQ])
 rintro i ⟨hi2,hai⟩
 by_cases hi:i < lv.length
 ·have hi':((i:Int) < (lv.length:Int)) = True:=by simp; omega
  have hi0:(0 ≤ (i:Int)) = True:=by simp
  simp -implicitDefEqProofs only [push_cast,Nat.reduceAdd,Nat.reduceSub,Nat.reduceMul,Nat.reduceLT,Nat.reduceLeDiff,Nat.reduceEqDiff,Nat.reduceBEq,reduceCtorEq,reduceIte,Int.reduceLE,Int.reduceLT,Int.reduceNeg,Int.reduceToNat,hi',hi0,encIs_get lv i hi,encI,encQ]
  refine areg_at 8 (by kernel_rfl) (by kernel_rfl) ?_
  simp -implicitDefEqProofs only [push_cast,Nat.reduceAdd,Nat.reduceSub,Nat.reduceMul,Nat.reduceLT,Nat.reduceLeDiff,Nat.reduceEqDiff,Nat.reduceBEq,reduceCtorEq,reduceIte,Int.reduceLE,Int.reduceLT,Int.reduceNeg,Int.reduceToNat,hi',hi0,encIs_get lv i hi,encI,encQ]
  refine ⟨fun h=>?_,fun h=>?_⟩
  ·have hn:¬ (treeP p).set < 2 ^ q.occ.length:=fun h2=>by have:=hb.1 h2 lv[i] (List.getElem_mem hi); omega
   rw [decide_eq_false hn]
   try rfl
  ·rw [wrap64 (n:=(i:Int) + 1) (by omega) (by omega)]
   refine next_at [some 0,some 1,some 2] (i + 1) ⟨by omega,fun j hj hji=>?_⟩ (by omega) rfl ?_ ?_
   ·rcases Nat.lt_or_ge j i with h4 | h4
    ·exact hai j hj h4
    ·obtain rfl:j = i:=by omega
     omega
   ·(try simp -implicitDefEqProofs only [push_cast,Nat.reduceAdd,Nat.reduceSub,Nat.reduceMul,Nat.reduceLT,Nat.reduceLeDiff,Nat.reduceEqDiff,Nat.reduceBEq,reduceCtorEq,reduceIte,Int.reduceLE,Int.reduceLT,Int.reduceNeg,Int.reduceToNat,encDs_pure,encEs_pure,encIs_pure,encQ])
   ·(try simp -implicitDefEqProofs only [push_cast,Nat.reduceAdd,Nat.reduceSub,Nat.reduceMul,Nat.reduceLT,Nat.reduceLeDiff,Nat.reduceEqDiff,Nat.reduceBEq,reduceCtorEq,reduceIte,Int.reduceLE,Int.reduceLT,Int.reduceNeg,Int.reduceToNat,encDs_pure,encEs_pure,encIs_pure,encQ])
 ·have hi':((i:Int) < (lv.length:Int)) = False:=by simp; omega
  have hy:(treeP p).set < 2 ^ q.occ.length:=hb.2 fun o ho=>by
   obtain ⟨j,hj,rfl⟩:=List.getElem_of_mem ho
   exact hai j hj (by omega)
  rw [decide_eq_true hy]
  simp -implicitDefEqProofs only [push_cast,Nat.reduceAdd,Nat.reduceSub,Nat.reduceMul,Nat.reduceLT,Nat.reduceLeDiff,Nat.reduceEqDiff,Nat.reduceBEq,reduceCtorEq,reduceIte,Int.reduceLE,Int.reduceLT,Int.reduceNeg,Int.reduceToNat,hi',encQ,Bool.true_and]
  refine callq hF ?_
  simp -implicitDefEqProofs only [push_cast,Nat.reduceAdd,Nat.reduceSub,Nat.reduceMul,Nat.reduceLT,Nat.reduceLeDiff,Nat.reduceEqDiff,Nat.reduceBEq,reduceCtorEq,reduceIte,Int.reduceLE,Int.reduceLT,Int.reduceNeg,Int.reduceToNat,encQ]
theorem CostR_ok (c:List Df) (hcl:c.length ≤ 1000000) (q:Qy) (hq:q.Ok) (hqi:q.In) (p:Pl) (hok:p.Ok):Quiet Go.Proofs.Tryz.prog 37 [.agg [.sl (c.map encD)], .agg (encQ q), .agg (encPl p)] (.int (costP c q p)):=by
 have hM:=MayPR_ok c hcl q hq hqi p hok
 unfold costP
 refine quiet_of (rs:=#[.tmp 6]) Go.Proofs.Tryz.func37 rfl rfl rfl mixed rfl rfl fun H hs=>?_
 simp -implicitDefEqProofs only [push_cast,Nat.reduceAdd,Nat.reduceSub,Nat.reduceMul,Nat.reduceLT,Nat.reduceLeDiff,Nat.reduceEqDiff,Nat.reduceBEq,reduceCtorEq,reduceIte,Int.reduceLE,Int.reduceLT,Int.reduceNeg,Int.reduceToNat,encQ]
 refine callq hM ?_
 cases hm:mayP c q p
 ·simp -implicitDefEqProofs only [push_cast,Nat.reduceAdd,Nat.reduceSub,Nat.reduceMul,Nat.reduceLT,Nat.reduceLeDiff,Nat.reduceEqDiff,Nat.reduceBEq,reduceCtorEq,reduceIte,Int.reduceLE,Int.reduceLT,Int.reduceNeg,Int.reduceToNat,encQ,Bool.false_eq_true,if_false,capK]
 ·have hfm:p.few = true ∧ (treeP p).may = true:=by
   unfold mayP at hm
   simp only [Bool.and_eq_true] at hm
   have:=hm.1.1.1
   rw [tree_iff,Bool.and_eq_true] at this
   exact this
  have hC:=costsR_ok c hcl q hq hqi p hok hfm.1 hfm.2
  rw [cost_tree hfm.1]
  simp -implicitDefEqProofs only [push_cast,Nat.reduceAdd,Nat.reduceSub,Nat.reduceMul,Nat.reduceLT,Nat.reduceLeDiff,Nat.reduceEqDiff,Nat.reduceBEq,reduceCtorEq,reduceIte,Int.reduceLE,Int.reduceLT,Int.reduceNeg,Int.reduceToNat,encQ,if_true]
  refine callq hC ?_
  simp -implicitDefEqProofs only [push_cast,Nat.reduceAdd,Nat.reduceSub,Nat.reduceMul,Nat.reduceLT,Nat.reduceLeDiff,Nat.reduceEqDiff,Nat.reduceBEq,reduceCtorEq,reduceIte,Int.reduceLE,Int.reduceLT,Int.reduceNeg,Int.reduceToNat,encQ]
end
section
attribute [local push_cast] encPl_mk encPl_take encPl_len encPl_one encPls_pure encPl_pure encT_pure encT_len encT_one encT_take
theorem indexP_ok (l:List (Int × Int)) (hl:l.length ≤ 140737488355328) (a b:Int):Quiet Go.Proofs.Tryz.prog 166 [.sl (l.map encP), .agg [.int a, .int b]] (.int (idx (fun p=>decide (a = p.1) && decide (b = p.2)) l)):=by
 refine quiet_of (rs:=#[.tmp 4]) Go.Proofs.Tryz.func166 rfl rfl rfl mixed rfl rfl fun H hs=>?_
 simp -implicitDefEqProofs only [push_cast,Nat.reduceAdd,Nat.reduceSub,Nat.reduceMul,Nat.reduceLT,Nat.reduceLeDiff,Nat.reduceEqDiff,Nat.reduceBEq,reduceCtorEq,reduceIte,Int.reduceLE,Int.reduceLT,Int.reduceNeg,Int.reduceToNat]
 refine loop_at hs (σ:=Nat) (fun i=>i ≤ l.length ∧ ∀ (j:Nat) (h:j < l.length),j < i → (decide (a = l[j].1) && decide (b = l[j].2)) = false) (fun i=>l.length - i)
  (fun i=>[(0, .sl (l.map encP)),(3, .ptr (H.nxt + 0) 2 0 0),(7, .int l.length),(8, .int i)]) (fun i=>[some (.cells 2 [[.int a, .int b]] 0)]) [some 0] 0 ⟨by omega,fun j _ h=>by omega⟩ rfl ?_ ?_ ?_
 ·(try simp -implicitDefEqProofs only [push_cast,Nat.reduceAdd,Nat.reduceSub,Nat.reduceMul,Nat.reduceLT,Nat.reduceLeDiff,Nat.reduceEqDiff,Nat.reduceBEq,reduceCtorEq,reduceIte,Int.reduceLE,Int.reduceLT,Int.reduceNeg,Int.reduceToNat,rowP_pure])
 ·(try simp -implicitDefEqProofs only [push_cast,Nat.reduceAdd,Nat.reduceSub,Nat.reduceMul,Nat.reduceLT,Nat.reduceLeDiff,Nat.reduceEqDiff,Nat.reduceBEq,reduceCtorEq,reduceIte,Int.reduceLE,Int.reduceLT,Int.reduceNeg,Int.reduceToNat])
 rintro i ⟨h2,h3⟩
 by_cases hi:i < l.length
 ·have hi':((i:Int) < (l.length:Int)) = True:=by simp; omega
  have hi0:(0 ≤ (i:Int)) = True:=by simp
  have hps:=encPs_get l i hi
  rw [encP] at hps
  simp -implicitDefEqProofs only [push_cast,Nat.reduceAdd,Nat.reduceSub,Nat.reduceMul,Nat.reduceLT,Nat.reduceLeDiff,Nat.reduceEqDiff,Nat.reduceBEq,reduceCtorEq,reduceIte,Int.reduceLE,Int.reduceLT,Int.reduceNeg,Int.reduceToNat,hi',hi0]
  refine areg_at 6 (by kernel_rfl) (by kernel_rfl) ?_
  simp -implicitDefEqProofs only [push_cast,Nat.reduceAdd,Nat.reduceSub,Nat.reduceMul,Nat.reduceLT,Nat.reduceLeDiff,Nat.reduceEqDiff,Nat.reduceBEq,reduceCtorEq,reduceIte,Int.reduceLE,Int.reduceLT,Int.reduceNeg,Int.reduceToNat,hi',hi0,hps,lits,cellsEq,cellEq,cmpPl]
  refine ⟨fun h=>?_,fun h=>?_⟩
  ·exact (idx_hit (p:=fun p:Int × Int=>decide (a = p.1) && decide (b = p.2)) hi h3 h).symm
  ·rw [wrap64 (n:=(i:Int) + 1) (by omega) (by omega)]
   refine next_at [some 0] (i + 1) ⟨by omega,fun j hj hji=>?_⟩ (by omega) rfl ?_ ?_
   ·rcases Nat.lt_or_ge j i with h4 | h4
    ·exact h3 j hj h4
    ·obtain rfl:j = i:=by omega
     exact h
   ·(try simp -implicitDefEqProofs only [push_cast,Nat.reduceAdd,Nat.reduceSub,Nat.reduceMul,Nat.reduceLT,Nat.reduceLeDiff,Nat.reduceEqDiff,Nat.reduceBEq,reduceCtorEq,reduceIte,Int.reduceLE,Int.reduceLT,Int.reduceNeg,Int.reduceToNat,rowP_pure])
   ·(try simp -implicitDefEqProofs only [push_cast,Nat.reduceAdd,Nat.reduceSub,Nat.reduceMul,Nat.reduceLT,Nat.reduceLeDiff,Nat.reduceEqDiff,Nat.reduceBEq,reduceCtorEq,reduceIte,Int.reduceLE,Int.reduceLT,Int.reduceNeg,Int.reduceToNat])
 ·have hi':((i:Int) < (l.length:Int)) = False:=by simp; omega
  simp -implicitDefEqProofs only [push_cast,Nat.reduceAdd,Nat.reduceSub,Nat.reduceMul,Nat.reduceLT,Nat.reduceLeDiff,Nat.reduceEqDiff,Nat.reduceBEq,reduceCtorEq,reduceIte,Int.reduceLE,Int.reduceLT,Int.reduceNeg,Int.reduceToNat,hi']
  exact (idx_miss (p:=fun p:Int × Int=>decide (a = p.1) && decide (b = p.2)) fun j hj=>h3 j hj (by omega)).symm
theorem any_pair (l:List (Int × Int)) (a b:Int):l.any (fun p=>decide (a = p.1) && decide (b = p.2)) = l.contains (a,b):=by
 induction l with
 | nil=>rfl
 | cons p l ih =>
  rw [List.any_cons,List.contains_cons,ih]
  congr 1
theorem containsP_ok (l:List (Int × Int)) (hl:l.length ≤ 1000000) (a b:Int):Quiet Go.Proofs.Tryz.prog 122 [.sl (l.map encP), .agg [.int a, .int b]] (.bool (l.contains (a,b))):=by
 rw [← any_pair]
 refine quiet_of (rs:=#[.tmp 4]) Go.Proofs.Tryz.func122 rfl rfl rfl mixed rfl rfl fun H hs=>?_
 simp -implicitDefEqProofs only [push_cast,Nat.reduceAdd,Nat.reduceSub,Nat.reduceMul,Nat.reduceLT,Nat.reduceLeDiff,Nat.reduceEqDiff,Nat.reduceBEq,reduceCtorEq,reduceIte,Int.reduceLE,Int.reduceLT,Int.reduceNeg,Int.reduceToNat]
 refine callq (indexP_ok l (by omega) a b) ?_
 simp -implicitDefEqProofs only [push_cast,Nat.reduceAdd,Nat.reduceSub,Nat.reduceMul,Nat.reduceLT,Nat.reduceLeDiff,Nat.reduceEqDiff,Nat.reduceBEq,reduceCtorEq,reduceIte,Int.reduceLE,Int.reduceLT,Int.reduceNeg,Int.reduceToNat,idx_nonneg]
def Pl.good (p:Pl):Prop:=p.Ok ∧ p.few = true ∧ (treeP p).may = true
theorem good_part {op occ a b:Int} {l:List Pl} (h:Pl.good (.mk op occ a b l)):∀ x ∈ l,Pl.good x:=by
 obtain ⟨⟨hl,hlo⟩,hf,hm⟩:=h
 exact fun x hx=>⟨hlo x hx,few_part hf hx,part_may (few_own hf) hm x hx⟩
set_option maxHeartbeats 4000000 in
theorem fits_ok (c:List Df) (hcl:c.length ≤ 1000000) (q:Qy) (hq:q.Ok) (p:Pl) (hp:Pl.good p):Quiet Go.Proofs.Tryz.prog 64 [.agg (encPl p), .agg [.sl (c.map encD)], .agg (encQ q)] (.bool (fitP c q p)):=by
 obtain ⟨op,occ,a,b,l⟩:=p
 have hsub:=good_part hp
 have hSp:=partSet_ok _ (few_forms hp.2.1)
 rcases form_split (few_own hp.2.1) with ⟨rfl,rfl⟩ | ⟨rfl,x,rfl⟩ | ⟨hop,x,y,rfl⟩
 ·refine quiet_of (rs:=#[.tmp 6]) Go.Proofs.Tryz.func64 rfl rfl rfl mixed rfl rfl fun H hs=>?_
  simp -implicitDefEqProofs only [push_cast,Nat.reduceAdd,Nat.reduceSub,Nat.reduceMul,Nat.reduceLT,Nat.reduceLeDiff,Nat.reduceEqDiff,Nat.reduceBEq,reduceCtorEq,reduceIte,Int.reduceLE,Int.reduceLT,Int.reduceNeg,Int.reduceToNat,encQ,Int.reduceEq,if_false,if_true,or_true,or_false,true_or,false_or,List.map_cons,List.map_nil,List.length_cons,List.length_nil,Int.reduceAdd]
  try rfl
 ·have hv:fitP c q (.mk 4 occ a b [x]) = (q.cols c (treeP (.mk 4 occ a b [x])).set).contains a:=by rw [treeP]; rfl
  have hcl2:(q.cols c (treeP (.mk 4 occ a b [x])).set).length ≤ 1000000:=by
   unfold Qy.cols
   split
   ·have:=colsIn_le c q (bitI (treeP (.mk 4 occ a b [x])).set); omega
   ·simp
  rw [hv]
  refine quiet_of (rs:=#[.tmp 6]) Go.Proofs.Tryz.func64 rfl rfl rfl mixed rfl rfl fun H hs=>?_
  rw [encPl_mk] at hSp
  simp -implicitDefEqProofs only [push_cast,Nat.reduceAdd,Nat.reduceSub,Nat.reduceMul,Nat.reduceLT,Nat.reduceLeDiff,Nat.reduceEqDiff,Nat.reduceBEq,reduceCtorEq,reduceIte,Int.reduceLE,Int.reduceLT,Int.reduceNeg,Int.reduceToNat,encQ,Int.reduceEq,if_false,if_true,or_true,or_false,true_or,false_or,List.map_cons,List.map_nil,List.length_cons,List.length_nil,Int.reduceAdd]
  refine areg_at 11 (by kernel_rfl) (by kernel_rfl) ?_
  simp -implicitDefEqProofs only [push_cast,Nat.reduceAdd,Nat.reduceSub,Nat.reduceMul,Nat.reduceLT,Nat.reduceLeDiff,Nat.reduceEqDiff,Nat.reduceBEq,reduceCtorEq,reduceIte,Int.reduceLE,Int.reduceLT,Int.reduceNeg,Int.reduceToNat,encQ,Int.reduceEq,if_false,if_true,or_true,or_false,true_or,false_or,List.map_cons,List.map_nil,List.length_cons,List.length_nil,Int.reduceAdd]
  refine ahdq hSp ?_
  simp -implicitDefEqProofs only [push_cast,Nat.reduceAdd,Nat.reduceSub,Nat.reduceMul,Nat.reduceLT,Nat.reduceLeDiff,Nat.reduceEqDiff,Nat.reduceBEq,reduceCtorEq,reduceIte,Int.reduceLE,Int.reduceLT,Int.reduceNeg,Int.reduceToNat,encQ,Int.reduceEq,if_false,if_true,or_true,or_false,true_or,false_or,List.map_cons,List.map_nil,List.length_cons,List.length_nil,Int.reduceAdd]
  refine ahdq (ColsQ_ok c hcl q hq _) ?_
  simp -implicitDefEqProofs only [push_cast,Nat.reduceAdd,Nat.reduceSub,Nat.reduceMul,Nat.reduceLT,Nat.reduceLeDiff,Nat.reduceEqDiff,Nat.reduceBEq,reduceCtorEq,reduceIte,Int.reduceLE,Int.reduceLT,Int.reduceNeg,Int.reduceToNat,encQ,Int.reduceEq,if_false,if_true,or_true,or_false,true_or,false_or,List.map_cons,List.map_nil,List.length_cons,List.length_nil,Int.reduceAdd]
  refine ahdq (containsI_ok _ hcl2 a) ?_
  simp -implicitDefEqProofs only [push_cast,Nat.reduceAdd,Nat.reduceSub,Nat.reduceMul,Nat.reduceLT,Nat.reduceLeDiff,Nat.reduceEqDiff,Nat.reduceBEq,reduceCtorEq,reduceIte,Int.reduceLE,Int.reduceLT,Int.reduceNeg,Int.reduceToNat,encQ,Int.reduceEq,if_false,if_true,or_true,or_false,true_or,false_or,List.map_cons,List.map_nil,List.length_cons,List.length_nil,Int.reduceAdd]
 ·have hx:=hsub x (by simp)
  have hy:=hsub y (by simp)
  have hSx:=partSet_ok x (few_forms hx.2.1)
  have hSy:=partSet_ok y (few_forms hy.2.1)
  have hOx:=Order_ok x hx.1
  have hOy:=Order_ok y hy.1
  have hg0:∀ z:List AV,([x,y].map encPl).getD 0 z = encPl x:=fun _=>rfl
  have hg1:∀ z:List AV,([x,y].map encPl).getD 1 z = encPl y:=fun _=>rfl
  have hv:fitP c q (.mk op occ a b [x,y]) = (if op = 1 then true else (q.pairs (treeP x).set (treeP y).set).contains (a,b) && (decide (op = 2) || (decide (x.order = a) && decide (y.order = b)))):=rfl
  rw [hv]
  have hple:=pairs_le q hq (treeP x).set (treeP y).set
  have hP:=Pairs_ok q hq (treeP x).set (treeP y).set
  generalize q.pairs (treeP x).set (treeP y).set = ps at hple hP ⊢
  refine quiet_of (rs:=#[.tmp 6]) Go.Proofs.Tryz.func64 rfl rfl rfl mixed rfl rfl fun H hs=>?_
  rcases hop with rfl | rfl | rfl
  ·simp -implicitDefEqProofs only [push_cast,Nat.reduceAdd,Nat.reduceSub,Nat.reduceMul,Nat.reduceLT,Nat.reduceLeDiff,Nat.reduceEqDiff,Nat.reduceBEq,reduceCtorEq,reduceIte,Int.reduceLE,Int.reduceLT,Int.reduceNeg,Int.reduceToNat,encQ,Int.reduceEq,if_false,if_true,or_true,or_false,true_or,false_or,List.map_cons,List.map_nil,List.length_cons,List.length_nil,Int.reduceAdd]
  ·simp -implicitDefEqProofs only [push_cast,Nat.reduceAdd,Nat.reduceSub,Nat.reduceMul,Nat.reduceLT,Nat.reduceLeDiff,Nat.reduceEqDiff,Nat.reduceBEq,reduceCtorEq,reduceIte,Int.reduceLE,Int.reduceLT,Int.reduceNeg,Int.reduceToNat,encQ,Int.reduceEq,if_false,if_true,or_true,or_false,true_or,false_or,List.map_cons,List.map_nil,List.length_cons,List.length_nil,Int.reduceAdd]
   refine areg_at 16 (by kernel_rfl) (by kernel_rfl) ?_
   simp -implicitDefEqProofs only [push_cast,Nat.reduceAdd,Nat.reduceSub,Nat.reduceMul,Nat.reduceLT,Nat.reduceLeDiff,Nat.reduceEqDiff,Nat.reduceBEq,reduceCtorEq,reduceIte,Int.reduceLE,Int.reduceLT,Int.reduceNeg,Int.reduceToNat,encQ,Int.reduceEq,if_false,if_true,or_true,or_false,true_or,false_or,List.map_cons,List.map_nil,List.length_cons,List.length_nil,Int.reduceAdd]
   refine areg_at 11 (by kernel_rfl) (by kernel_rfl) ?_
   simp -implicitDefEqProofs only [push_cast,Nat.reduceAdd,Nat.reduceSub,Nat.reduceMul,Nat.reduceLT,Nat.reduceLeDiff,Nat.reduceEqDiff,Nat.reduceBEq,reduceCtorEq,reduceIte,Int.reduceLE,Int.reduceLT,Int.reduceNeg,Int.reduceToNat,encQ,Int.reduceEq,if_false,if_true,or_true,or_false,true_or,false_or,List.map_cons,List.map_nil,List.length_cons,List.length_nil,Int.reduceAdd]
   refine ahdq hSx ?_
   simp -implicitDefEqProofs only [push_cast,Nat.reduceAdd,Nat.reduceSub,Nat.reduceMul,Nat.reduceLT,Nat.reduceLeDiff,Nat.reduceEqDiff,Nat.reduceBEq,reduceCtorEq,reduceIte,Int.reduceLE,Int.reduceLT,Int.reduceNeg,Int.reduceToNat,encQ,Int.reduceEq,if_false,if_true,or_true,or_false,true_or,false_or,List.map_cons,List.map_nil,List.length_cons,List.length_nil,Int.reduceAdd]
   refine ahdq hSy ?_
   simp -implicitDefEqProofs only [push_cast,Nat.reduceAdd,Nat.reduceSub,Nat.reduceMul,Nat.reduceLT,Nat.reduceLeDiff,Nat.reduceEqDiff,Nat.reduceBEq,reduceCtorEq,reduceIte,Int.reduceLE,Int.reduceLT,Int.reduceNeg,Int.reduceToNat,encQ,Int.reduceEq,if_false,if_true,or_true,or_false,true_or,false_or,List.map_cons,List.map_nil,List.length_cons,List.length_nil,Int.reduceAdd]
   refine ahdq hP ?_
   simp -implicitDefEqProofs only [push_cast,Nat.reduceAdd,Nat.reduceSub,Nat.reduceMul,Nat.reduceLT,Nat.reduceLeDiff,Nat.reduceEqDiff,Nat.reduceBEq,reduceCtorEq,reduceIte,Int.reduceLE,Int.reduceLT,Int.reduceNeg,Int.reduceToNat,encQ,Int.reduceEq,if_false,if_true,or_true,or_false,true_or,false_or,List.map_cons,List.map_nil,List.length_cons,List.length_nil,Int.reduceAdd]
   refine ahdq (containsP_ok ps hple a b) ?_
   simp -implicitDefEqProofs only [push_cast,Nat.reduceAdd,Nat.reduceSub,Nat.reduceMul,Nat.reduceLT,Nat.reduceLeDiff,Nat.reduceEqDiff,Nat.reduceBEq,reduceCtorEq,reduceIte,Int.reduceLE,Int.reduceLT,Int.reduceNeg,Int.reduceToNat,encQ,Int.reduceEq,if_false,if_true,or_true,or_false,true_or,false_or,List.map_cons,List.map_nil,List.length_cons,List.length_nil,Int.reduceAdd]
   refine areg_at 28 (by kernel_rfl) (by kernel_rfl) ?_
   simp -implicitDefEqProofs only [push_cast,Nat.reduceAdd,Nat.reduceSub,Nat.reduceMul,Nat.reduceLT,Nat.reduceLeDiff,Nat.reduceEqDiff,Nat.reduceBEq,reduceCtorEq,reduceIte,Int.reduceLE,Int.reduceLT,Int.reduceNeg,Int.reduceToNat,encQ,Int.reduceEq,if_false,if_true,or_true,or_false,true_or,false_or,List.map_cons,List.map_nil,List.length_cons,List.length_nil,Int.reduceAdd]
   refine gcallq (.int x.order) (fun _=>hOx) ?_
   simp -implicitDefEqProofs only [push_cast,Nat.reduceAdd,Nat.reduceSub,Nat.reduceMul,Nat.reduceLT,Nat.reduceLeDiff,Nat.reduceEqDiff,Nat.reduceBEq,reduceCtorEq,reduceIte,Int.reduceLE,Int.reduceLT,Int.reduceNeg,Int.reduceToNat,encQ,Int.reduceEq,if_false,if_true,or_true,or_false,true_or,false_or,List.map_cons,List.map_nil,List.length_cons,List.length_nil,Int.reduceAdd]
   refine gcallq (.int y.order) (fun _=>hOy) ?_
   simp -implicitDefEqProofs only [push_cast,Nat.reduceAdd,Nat.reduceSub,Nat.reduceMul,Nat.reduceLT,Nat.reduceLeDiff,Nat.reduceEqDiff,Nat.reduceBEq,reduceCtorEq,reduceIte,Int.reduceLE,Int.reduceLT,Int.reduceNeg,Int.reduceToNat,encQ,Int.reduceEq,if_false,if_true,or_true,or_false,true_or,false_or,List.map_cons,List.map_nil,List.length_cons,List.length_nil,Int.reduceAdd]
  ·simp -implicitDefEqProofs only [push_cast,Nat.reduceAdd,Nat.reduceSub,Nat.reduceMul,Nat.reduceLT,Nat.reduceLeDiff,Nat.reduceEqDiff,Nat.reduceBEq,reduceCtorEq,reduceIte,Int.reduceLE,Int.reduceLT,Int.reduceNeg,Int.reduceToNat,encQ,Int.reduceEq,if_false,if_true,or_true,or_false,true_or,false_or,List.map_cons,List.map_nil,List.length_cons,List.length_nil,Int.reduceAdd]
   refine areg_at 16 (by kernel_rfl) (by kernel_rfl) ?_
   simp -implicitDefEqProofs only [push_cast,Nat.reduceAdd,Nat.reduceSub,Nat.reduceMul,Nat.reduceLT,Nat.reduceLeDiff,Nat.reduceEqDiff,Nat.reduceBEq,reduceCtorEq,reduceIte,Int.reduceLE,Int.reduceLT,Int.reduceNeg,Int.reduceToNat,encQ,Int.reduceEq,if_false,if_true,or_true,or_false,true_or,false_or,List.map_cons,List.map_nil,List.length_cons,List.length_nil,Int.reduceAdd]
   refine areg_at 11 (by kernel_rfl) (by kernel_rfl) ?_
   simp -implicitDefEqProofs only [push_cast,Nat.reduceAdd,Nat.reduceSub,Nat.reduceMul,Nat.reduceLT,Nat.reduceLeDiff,Nat.reduceEqDiff,Nat.reduceBEq,reduceCtorEq,reduceIte,Int.reduceLE,Int.reduceLT,Int.reduceNeg,Int.reduceToNat,encQ,Int.reduceEq,if_false,if_true,or_true,or_false,true_or,false_or,List.map_cons,List.map_nil,List.length_cons,List.length_nil,Int.reduceAdd]
   refine ahdq hSx ?_
   simp -implicitDefEqProofs only [push_cast,Nat.reduceAdd,Nat.reduceSub,Nat.reduceMul,Nat.reduceLT,Nat.reduceLeDiff,Nat.reduceEqDiff,Nat.reduceBEq,reduceCtorEq,reduceIte,Int.reduceLE,Int.reduceLT,Int.reduceNeg,Int.reduceToNat,encQ,Int.reduceEq,if_false,if_true,or_true,or_false,true_or,false_or,List.map_cons,List.map_nil,List.length_cons,List.length_nil,Int.reduceAdd]
   refine ahdq hSy ?_
   simp -implicitDefEqProofs only [push_cast,Nat.reduceAdd,Nat.reduceSub,Nat.reduceMul,Nat.reduceLT,Nat.reduceLeDiff,Nat.reduceEqDiff,Nat.reduceBEq,reduceCtorEq,reduceIte,Int.reduceLE,Int.reduceLT,Int.reduceNeg,Int.reduceToNat,encQ,Int.reduceEq,if_false,if_true,or_true,or_false,true_or,false_or,List.map_cons,List.map_nil,List.length_cons,List.length_nil,Int.reduceAdd]
   refine ahdq hP ?_
   simp -implicitDefEqProofs only [push_cast,Nat.reduceAdd,Nat.reduceSub,Nat.reduceMul,Nat.reduceLT,Nat.reduceLeDiff,Nat.reduceEqDiff,Nat.reduceBEq,reduceCtorEq,reduceIte,Int.reduceLE,Int.reduceLT,Int.reduceNeg,Int.reduceToNat,encQ,Int.reduceEq,if_false,if_true,or_true,or_false,true_or,false_or,List.map_cons,List.map_nil,List.length_cons,List.length_nil,Int.reduceAdd]
   refine ahdq (containsP_ok ps hple a b) ?_
   simp -implicitDefEqProofs only [push_cast,Nat.reduceAdd,Nat.reduceSub,Nat.reduceMul,Nat.reduceLT,Nat.reduceLeDiff,Nat.reduceEqDiff,Nat.reduceBEq,reduceCtorEq,reduceIte,Int.reduceLE,Int.reduceLT,Int.reduceNeg,Int.reduceToNat,encQ,Int.reduceEq,if_false,if_true,or_true,or_false,true_or,false_or,List.map_cons,List.map_nil,List.length_cons,List.length_nil,Int.reduceAdd]
   refine areg_at 28 (by kernel_rfl) (by kernel_rfl) ?_
   simp -implicitDefEqProofs only [push_cast,Nat.reduceAdd,Nat.reduceSub,Nat.reduceMul,Nat.reduceLT,Nat.reduceLeDiff,Nat.reduceEqDiff,Nat.reduceBEq,reduceCtorEq,reduceIte,Int.reduceLE,Int.reduceLT,Int.reduceNeg,Int.reduceToNat,encQ,Int.reduceEq,if_false,if_true,or_true,or_false,true_or,false_or,List.map_cons,List.map_nil,List.length_cons,List.length_nil,Int.reduceAdd]
   refine gcallq (.int x.order) (fun _=>hOx) ?_
   simp -implicitDefEqProofs only [push_cast,Nat.reduceAdd,Nat.reduceSub,Nat.reduceMul,Nat.reduceLT,Nat.reduceLeDiff,Nat.reduceEqDiff,Nat.reduceBEq,reduceCtorEq,reduceIte,Int.reduceLE,Int.reduceLT,Int.reduceNeg,Int.reduceToNat,encQ,Int.reduceEq,if_false,if_true,or_true,or_false,true_or,false_or,List.map_cons,List.map_nil,List.length_cons,List.length_nil,Int.reduceAdd]
   refine gcallq (.int y.order) (fun _=>hOy) ?_
   simp -implicitDefEqProofs only [push_cast,Nat.reduceAdd,Nat.reduceSub,Nat.reduceMul,Nat.reduceLT,Nat.reduceLeDiff,Nat.reduceEqDiff,Nat.reduceBEq,reduceCtorEq,reduceIte,Int.reduceLE,Int.reduceLT,Int.reduceNeg,Int.reduceToNat,encQ,Int.reduceEq,if_false,if_true,or_true,or_false,true_or,false_or,List.map_cons,List.map_nil,List.length_cons,List.length_nil,Int.reduceAdd]
   exact fun h1 h2=>by rw [h1,decide_eq_true h2]; rfl
end
section
attribute [local push_cast] encPl_mk encPl_take encPl_len encPl_one encPls_pure encPl_pure encT_pure encT_len encT_one encT_take
def stNone:St Unit where
 inv _ _ B:=B = fun _=>False
 stable:=by rintro s H H' B rfl _ _; rfl
 low:=by rintro s H B rfl q hq; exact hq.elim
def allStep (f:Pl → Bool) (s:Unit) (p:Pl):Unit × Bool:=((),f p)
mutual
theorem eachP_all (f:Pl → Bool):∀ (p:Pl) (s:Unit),(eachP (allStep f) p s).2 = (parts p).all f
 | .mk op occ a b l,s=>by
  rw [eachP,parts_mk,List.all_cons]
  have h:=eachPL_all f l ()
  by_cases hf:f (.mk op occ a b l) = true
  ·simp only [allStep,hf,if_true,Bool.true_and]; exact h
  ·rw [Bool.not_eq_true] at hf
   simp [allStep,hf]
theorem eachPL_all (f:Pl → Bool):∀ (l:List Pl) (s:Unit),(eachPL (allStep f) l s).2 = (partsPl l).all f
 | [],s=>by rw [eachPL,partsPl]; rfl
 | x :: l,s=>by
  rw [eachPL,partsPl_cons,List.all_append,← eachP_all f x s]
  cases hx:(eachP (allStep f) x s).2
  ·simp
  ·rw [if_pos rfl,Bool.true_and]; exact eachPL_all f l _
end
def addStep (f:Pl → Int) (s:List Int) (p:Pl):List Int × Bool:=(s ++ [f p],true)
mutual
theorem eachP_add (f:Pl → Int):∀ (p:Pl) (s:List Int),eachP (addStep f) p s = (s ++ (parts p).map f,true)
 | .mk op occ a b l,s=>by
  rw [eachP,parts_mk,List.map_cons]
  simp only [addStep,if_true]
  have h:=eachPL_add f l (s ++ [f (.mk op occ a b l)])
  rw [h,List.append_assoc]
  rfl
theorem eachPL_add (f:Pl → Int):∀ (l:List Pl) (s:List Int),eachPL (addStep f) l s = (s ++ (partsPl l).map f,true)
 | [],s=>by rw [eachPL,partsPl,List.map_nil,List.append_nil]
 | x :: l,s=>by
  rw [eachPL,partsPl_cons,List.map_append,eachP_add f x s]
  simp only [if_true]
  rw [eachPL_add f l,List.append_assoc]
end
mutual
theorem cntP_parts:∀ p:Pl,cntP p = (parts p).length
 | .mk op occ a b l=>by rw [cntP,parts_mk,List.length_cons,cntPL_parts l]; omega
theorem cntPL_parts:∀ l:List Pl,cntPL l = (partsPl l).length
 | []=>by rw [cntPL,partsPl]; rfl
 | x :: l=>by rw [cntPL,partsPl_cons,List.length_append,cntP_parts x,cntPL_parts l]
end
theorem mayPl1_ok (c:List Df) (hcl:c.length ≤ 1000000) (q:Qy) (hq:q.Ok) (p:Pl) (hp:Pl.good p) (s:Unit) (H:AH) (B:Nat → Prop) (hI:stNone.inv s H B) :
  ACalls Go.Proofs.Tryz.prog 63 [.agg (encPl p), .iptr [.sl (c.map encD)], .iptr (encQ q)] H (fun r H'=>r = .bool (allStep (fitP c q) s p).2 ∧ Moves stNone (allStep (fitP c q) s p).1 H B H'):=by
 have hF:=fits_ok c hcl q hq p hp
 obtain ⟨op,occ,a,b,l⟩:=p
 rw [encPl_mk] at hF
 refine acalls_sc (rs:=#[.tmp 4]) Go.Proofs.Tryz.func63 rfl rfl rfl mixed rfl (Nat.le_of_ble_eq_true rfl) fun hs _=>?_
 simp -implicitDefEqProofs only [push_cast,Nat.reduceAdd,Nat.reduceSub,Nat.reduceMul,Nat.reduceLT,Nat.reduceLeDiff,Nat.reduceEqDiff,Nat.reduceBEq,reduceCtorEq,reduceIte,Int.reduceLE,Int.reduceLT,Int.reduceNeg,Int.reduceToNat,encQ]
 refine callq hF ?_
 simp -implicitDefEqProofs only [push_cast,Nat.reduceAdd,Nat.reduceSub,Nat.reduceMul,Nat.reduceLT,Nat.reduceLeDiff,Nat.reduceEqDiff,Nat.reduceBEq,reduceCtorEq,reduceIte,Int.reduceLE,Int.reduceLT,Int.reduceNeg,Int.reduceToNat,encQ]
 exact retk trivial ⟨rfl,Moves.new hI _⟩
theorem mayP_split {c:List Df} {q:Qy} {p:Pl} (h:mayP c q p = true):q.may c = true ∧ p.tree.2 = true ∧ (p.few = true ∧ (treeP p).may = true) ∧ (treeP p).set < 2 ^ q.occ.length:=by
 unfold mayP at h
 simp only [Bool.and_eq_true,decide_eq_true_eq] at h
 obtain ⟨⟨⟨h1,h2⟩,h3⟩,h4⟩:=h
 refine ⟨h2,h1, ?_,h3⟩
 rw [tree_iff,Bool.and_eq_true] at h1
 exact h1
theorem shr_iff {t:Tr} {n:Nat} (hn:n ≤ 4):¬ 0 < bshr .i64 t.set n ↔ t.set < 2 ^ n:=by
 have hs:=t.set_range
 generalize t.set = s at hs ⊢
 obtain ⟨i,rfl⟩:∃ i:Fin 16,s = (i.val:Int):=⟨⟨s.toNat,by omega⟩,by simp; omega⟩
 obtain ⟨j,rfl⟩:∃ j:Fin 5,n = j.val:=⟨⟨n,by omega⟩,rfl⟩
 clear hs hn
 revert i j
 decide +kernel
theorem shr_below {t:Tr} {n:Nat} (h:t.set < 2 ^ n) (hn:n ≤ 4):¬ 0 < bshr .i64 t.set n:=(shr_iff hn).2 h
theorem below_shr {t:Tr} {n:Nat} (h:¬ 0 < bshr .i64 t.set n) (hn:n ≤ 4):t.set < 2 ^ n:=(shr_iff hn).1 h
theorem MayPl_ok (c:List Df) (hcl:c.length ≤ 1000000) (q:Qy) (hq:q.Ok) (p:Pl) (hok:p.Ok):Quiet Go.Proofs.Tryz.prog 18 [.agg [.sl (c.map encD)], .agg (encQ q), .agg (encPl p)] (.bool (mayP c q p)):=by
 have hT:=Tree_ok p hok
 have hM:=MayQ_ok c hcl q hq
 refine quiet_of (rs:=#[.tmp 6]) Go.Proofs.Tryz.func18 rfl rfl rfl mixed rfl rfl fun H hs=>?_
 simp -implicitDefEqProofs only [push_cast,Nat.reduceAdd,Nat.reduceSub,Nat.reduceMul,Nat.reduceLT,Nat.reduceLeDiff,Nat.reduceEqDiff,Nat.reduceBEq,reduceCtorEq,reduceIte,Int.reduceLE,Int.reduceLT,Int.reduceNeg,Int.reduceToNat,encQ]
 refine callq hT ?_
 simp -implicitDefEqProofs only [push_cast,Nat.reduceAdd,Nat.reduceSub,Nat.reduceMul,Nat.reduceLT,Nat.reduceLeDiff,Nat.reduceEqDiff,Nat.reduceBEq,reduceCtorEq,reduceIte,Int.reduceLE,Int.reduceLT,Int.reduceNeg,Int.reduceToNat,encQ]
 refine areg_at 17 (by kernel_rfl) (by kernel_rfl) ?_
 simp -implicitDefEqProofs only [push_cast,Nat.reduceAdd,Nat.reduceSub,Nat.reduceMul,Nat.reduceLT,Nat.reduceLeDiff,Nat.reduceEqDiff,Nat.reduceBEq,reduceCtorEq,reduceIte,Int.reduceLE,Int.reduceLT,Int.reduceNeg,Int.reduceToNat,encQ]
 refine gcallq (.bool (q.may c)) (fun _=>hM) ?_
 simp -implicitDefEqProofs only [push_cast,Nat.reduceAdd,Nat.reduceSub,Nat.reduceMul,Nat.reduceLT,Nat.reduceLeDiff,Nat.reduceEqDiff,Nat.reduceBEq,reduceCtorEq,reduceIte,Int.reduceLE,Int.reduceLT,Int.reduceNeg,Int.reduceToNat,encQ]
 refine gcallq (.int p.tree.1.set) (fun _=>SetT_ok _ (tree_ok p)) ?_
 simp -implicitDefEqProofs only [push_cast,Nat.reduceAdd,Nat.reduceSub,Nat.reduceMul,Nat.reduceLT,Nat.reduceLeDiff,Nat.reduceEqDiff,Nat.reduceBEq,reduceCtorEq,reduceIte,Int.reduceLE,Int.reduceLT,Int.reduceNeg,Int.reduceToNat,encQ]
 refine ⟨fun _=>by omega,fun h=>?_,fun h=>?_⟩
 ·cases hm:mayP c q p
  ·rfl
  have h1:=mayP_split hm
  rw [tree_1 h1.2.1,h1.2.1,h1.1] at h
  have:=shr_below h1.2.2.2 (may_split h1.1).2.2.1
  simp only [Bool.not_true,Bool.false_or,decide_eq_true_eq] at h
  exact absurd h this
 simp only [Bool.or_eq_false_iff,Bool.not_eq_false',decide_eq_false_iff_not] at h
 obtain ⟨⟨ht,hm⟩,hb⟩:=h
 have hfm:p.few = true ∧ (treeP p).may = true:=by rw [tree_iff,Bool.and_eq_true] at ht; exact ht
 rw [tree_1 ht] at hb
 have hv:mayP c q p = (parts p).all (fitP c q):=by
  rw [mayP,ht,hm,decide_eq_true (below_shr hb (may_split hm).2.2.1)]
  rfl
 rw [hv,← eachP_all (fitP c q) p ()]
 refine fzk H 0 1 [.agg (encPl p), .clo (.func 63) [] [.iptr [.sl (c.map encD)], .ptr (H.nxt + 1) 6 0 0]] (by rfl) (by omega) (by simp) ?_ ?_
 ·(try simp -implicitDefEqProofs only [push_cast,Nat.reduceAdd,Nat.reduceSub,Nat.reduceMul,Nat.reduceLT,Nat.reduceLeDiff,Nat.reduceEqDiff,Nat.reduceBEq,reduceCtorEq,reduceIte,Int.reduceLE,Int.reduceLT,Int.reduceNeg,Int.reduceToNat,encDs_pure])
 refine fzk H 1 1 [.agg (encPl p), .clo (.func 63) [] [.iptr [.sl (c.map encD)], .iptr (encQ q)]] (by rfl) (by omega) (by simp) ?_ ?_
 ·(try simp -implicitDefEqProofs only [push_cast,Nat.reduceAdd,Nat.reduceSub,Nat.reduceMul,Nat.reduceLT,Nat.reduceLeDiff,Nat.reduceEqDiff,Nat.reduceBEq,reduceCtorEq,reduceIte,Int.reduceLE,Int.reduceLT,Int.reduceNeg,Int.reduceToNat,encDs_pure,encIs_pure,encEs_pure,encQ])
 refine ((eachQ_ok Pl.good (fun e h=>h.1) (fun _ _ _ _ _ h=>good_part h) stNone (allStep (fitP c q)) _ [.iptr [.sl (c.map encD)], .iptr (encQ q)] (fun _=>0) (fun _ _=>by omega) (cntP p) (fun s e H B he _ hI=>mayPl1_ok c hcl q hq e he s H B hI) p () _ (fun _=>False) ⟨hok,hfm⟩ (by omega) rfl).hsc).mono ?_
 rintro r H2 ⟨⟨rfl,hm⟩,hsc2,hle2,-⟩
 obtain ⟨l',rfl⟩:=hm.is_plus (fun q hq=>hq.elim) hsc2
 simp -implicitDefEqProofs only [push_cast,Nat.reduceAdd,Nat.reduceSub,Nat.reduceMul,Nat.reduceLT,Nat.reduceLeDiff,Nat.reduceEqDiff,Nat.reduceBEq,reduceCtorEq,reduceIte,Int.reduceLE,Int.reduceLT,Int.reduceNeg,Int.reduceToNat]
set_option maxHeartbeats 4000000 in
theorem partCost_ok (c:List Df) (hcl:c.length ≤ 1000000) (q:Qy) (hq:q.Ok) (p:Pl) (hp:Pl.good p):Quiet Go.Proofs.Tryz.prog 62 [.agg (encPl p), .agg [.sl (c.map encD)], .agg (encQ q)] (.int (ownC c q p)):=by
 obtain ⟨op,occ,a,b,l⟩:=p
 have hsub:=good_part hp
 have hSp:=partSet_ok _ (few_forms hp.2.1)
 rcases form_split (few_own hp.2.1) with ⟨rfl,rfl⟩ | ⟨rfl,x,rfl⟩ | ⟨hop,x,y,rfl⟩
 ·have hlf:=leaf_in hp.2.2
  refine quiet_of (rs:=#[.tmp 6]) Go.Proofs.Tryz.func62 rfl rfl rfl mixed rfl rfl fun H hs=>?_
  simp -implicitDefEqProofs only [push_cast,Nat.reduceAdd,Nat.reduceSub,Nat.reduceMul,Nat.reduceLT,Nat.reduceLeDiff,Nat.reduceEqDiff,Nat.reduceBEq,reduceCtorEq,reduceIte,Int.reduceLE,Int.reduceLT,Int.reduceNeg,Int.reduceToNat,encQ,Int.reduceEq,if_false,if_true,or_true,or_false,true_or,false_or,List.map_cons,List.map_nil,List.length_cons,List.length_nil,Int.reduceAdd]
  refine callq (Base_ok c hcl q hq occ (by unfold In64; omega)) ?_
  simp -implicitDefEqProofs only [push_cast,Nat.reduceAdd,Nat.reduceSub,Nat.reduceMul,Nat.reduceLT,Nat.reduceLeDiff,Nat.reduceEqDiff,Nat.reduceBEq,reduceCtorEq,reduceIte,Int.reduceLE,Int.reduceLT,Int.reduceNeg,Int.reduceToNat,encQ,Int.reduceEq,if_false,if_true,or_true,or_false,true_or,false_or,List.map_cons,List.map_nil,List.length_cons,List.length_nil,Int.reduceAdd]
  refine callq (ScanK_ok _) ?_
  simp -implicitDefEqProofs only [push_cast,Nat.reduceAdd,Nat.reduceSub,Nat.reduceMul,Nat.reduceLT,Nat.reduceLeDiff,Nat.reduceEqDiff,Nat.reduceBEq,reduceCtorEq,reduceIte,Int.reduceLE,Int.reduceLT,Int.reduceNeg,Int.reduceToNat,encQ,Int.reduceEq,if_false,if_true,or_true,or_false,true_or,false_or,List.map_cons,List.map_nil,List.length_cons,List.length_nil,Int.reduceAdd,ownC]
 ·have hv:ownC c q (.mk 4 occ a b [x]) = sortK (rowsQ c q (treeP (.mk 4 occ a b [x])).set):=by rw [treeP]; rfl
  rw [hv]
  rw [encPl_mk] at hSp
  refine quiet_of (rs:=#[.tmp 6]) Go.Proofs.Tryz.func62 rfl rfl rfl mixed rfl rfl fun H hs=>?_
  simp -implicitDefEqProofs only [push_cast,Nat.reduceAdd,Nat.reduceSub,Nat.reduceMul,Nat.reduceLT,Nat.reduceLeDiff,Nat.reduceEqDiff,Nat.reduceBEq,reduceCtorEq,reduceIte,Int.reduceLE,Int.reduceLT,Int.reduceNeg,Int.reduceToNat,encQ,Int.reduceEq,if_false,if_true,or_true,or_false,true_or,false_or,List.map_cons,List.map_nil,List.length_cons,List.length_nil,Int.reduceAdd]
  refine areg_at 7 (by kernel_rfl) (by kernel_rfl) ?_
  simp -implicitDefEqProofs only [push_cast,Nat.reduceAdd,Nat.reduceSub,Nat.reduceMul,Nat.reduceLT,Nat.reduceLeDiff,Nat.reduceEqDiff,Nat.reduceBEq,reduceCtorEq,reduceIte,Int.reduceLE,Int.reduceLT,Int.reduceNeg,Int.reduceToNat,encQ,Int.reduceEq,if_false,if_true,or_true,or_false,true_or,false_or,List.map_cons,List.map_nil,List.length_cons,List.length_nil,Int.reduceAdd]
  refine ahdq hSp ?_
  simp -implicitDefEqProofs only [push_cast,Nat.reduceAdd,Nat.reduceSub,Nat.reduceMul,Nat.reduceLT,Nat.reduceLeDiff,Nat.reduceEqDiff,Nat.reduceBEq,reduceCtorEq,reduceIte,Int.reduceLE,Int.reduceLT,Int.reduceNeg,Int.reduceToNat,encQ,Int.reduceEq,if_false,if_true,or_true,or_false,true_or,false_or,List.map_cons,List.map_nil,List.length_cons,List.length_nil,Int.reduceAdd]
  refine ahdq (Rows_ok c hcl q hq _) ?_
  simp -implicitDefEqProofs only [push_cast,Nat.reduceAdd,Nat.reduceSub,Nat.reduceMul,Nat.reduceLT,Nat.reduceLeDiff,Nat.reduceEqDiff,Nat.reduceBEq,reduceCtorEq,reduceIte,Int.reduceLE,Int.reduceLT,Int.reduceNeg,Int.reduceToNat,encQ,Int.reduceEq,if_false,if_true,or_true,or_false,true_or,false_or,List.map_cons,List.map_nil,List.length_cons,List.length_nil,Int.reduceAdd]
  refine ahdq (SortK_ok _) ?_
  simp -implicitDefEqProofs only [push_cast,Nat.reduceAdd,Nat.reduceSub,Nat.reduceMul,Nat.reduceLT,Nat.reduceLeDiff,Nat.reduceEqDiff,Nat.reduceBEq,reduceCtorEq,reduceIte,Int.reduceLE,Int.reduceLT,Int.reduceNeg,Int.reduceToNat,encQ,Int.reduceEq,if_false,if_true,or_true,or_false,true_or,false_or,List.map_cons,List.map_nil,List.length_cons,List.length_nil,Int.reduceAdd]
 ·have hx:=hsub x (by simp)
  have hy:=hsub y (by simp)
  have hSx:=partSet_ok x (few_forms hx.2.1)
  have hSy:=partSet_ok y (few_forms hy.2.1)
  have hg0:∀ z:List AV,([x,y].map encPl).getD 0 z = encPl x:=fun _=>rfl
  have hg1:∀ z:List AV,([x,y].map encPl).getD 1 z = encPl y:=fun _=>rfl
  have hPr:=prices_ok op
  refine quiet_of (rs:=#[.tmp 6]) Go.Proofs.Tryz.func62 rfl rfl rfl mixed rfl rfl fun H hs=>?_
  rcases hop with rfl | rfl | rfl
  ·simp -implicitDefEqProofs only [push_cast,Nat.reduceAdd,Nat.reduceSub,Nat.reduceMul,Nat.reduceLT,Nat.reduceLeDiff,Nat.reduceEqDiff,Nat.reduceBEq,reduceCtorEq,reduceIte,Int.reduceLE,Int.reduceLT,Int.reduceNeg,Int.reduceToNat,encQ,Int.reduceEq,if_false,if_true,or_true,or_false,true_or,false_or,List.map_cons,List.map_nil,List.length_cons,List.length_nil,Int.reduceAdd]
   refine areg_at 16 (by kernel_rfl) (by kernel_rfl) ?_
   simp -implicitDefEqProofs only [push_cast,Nat.reduceAdd,Nat.reduceSub,Nat.reduceMul,Nat.reduceLT,Nat.reduceLeDiff,Nat.reduceEqDiff,Nat.reduceBEq,reduceCtorEq,reduceIte,Int.reduceLE,Int.reduceLT,Int.reduceNeg,Int.reduceToNat,encQ,Int.reduceEq,if_false,if_true,or_true,or_false,true_or,false_or,List.map_cons,List.map_nil,List.length_cons,List.length_nil,Int.reduceAdd]
   refine areg_at 17 (by kernel_rfl) (by kernel_rfl) ?_
   simp -implicitDefEqProofs only [push_cast,Nat.reduceAdd,Nat.reduceSub,Nat.reduceMul,Nat.reduceLT,Nat.reduceLeDiff,Nat.reduceEqDiff,Nat.reduceBEq,reduceCtorEq,reduceIte,Int.reduceLE,Int.reduceLT,Int.reduceNeg,Int.reduceToNat,encQ,Int.reduceEq,if_false,if_true,or_true,or_false,true_or,false_or,List.map_cons,List.map_nil,List.length_cons,List.length_nil,Int.reduceAdd]
   refine ahdq hPr ?_
   simp -implicitDefEqProofs only [push_cast,Nat.reduceAdd,Nat.reduceSub,Nat.reduceMul,Nat.reduceLT,Nat.reduceLeDiff,Nat.reduceEqDiff,Nat.reduceBEq,reduceCtorEq,reduceIte,Int.reduceLE,Int.reduceLT,Int.reduceNeg,Int.reduceToNat,encQ,Int.reduceEq,if_false,if_true,or_true,or_false,true_or,false_or,List.map_cons,List.map_nil,List.length_cons,List.length_nil,Int.reduceAdd]
   refine ahdq hSx ?_
   simp -implicitDefEqProofs only [push_cast,Nat.reduceAdd,Nat.reduceSub,Nat.reduceMul,Nat.reduceLT,Nat.reduceLeDiff,Nat.reduceEqDiff,Nat.reduceBEq,reduceCtorEq,reduceIte,Int.reduceLE,Int.reduceLT,Int.reduceNeg,Int.reduceToNat,encQ,Int.reduceEq,if_false,if_true,or_true,or_false,true_or,false_or,List.map_cons,List.map_nil,List.length_cons,List.length_nil,Int.reduceAdd]
   refine ahdq (Rows_ok c hcl q hq _) ?_
   simp -implicitDefEqProofs only [push_cast,Nat.reduceAdd,Nat.reduceSub,Nat.reduceMul,Nat.reduceLT,Nat.reduceLeDiff,Nat.reduceEqDiff,Nat.reduceBEq,reduceCtorEq,reduceIte,Int.reduceLE,Int.reduceLT,Int.reduceNeg,Int.reduceToNat,encQ,Int.reduceEq,if_false,if_true,or_true,or_false,true_or,false_or,List.map_cons,List.map_nil,List.length_cons,List.length_nil,Int.reduceAdd]
   refine ahdq hSy ?_
   simp -implicitDefEqProofs only [push_cast,Nat.reduceAdd,Nat.reduceSub,Nat.reduceMul,Nat.reduceLT,Nat.reduceLeDiff,Nat.reduceEqDiff,Nat.reduceBEq,reduceCtorEq,reduceIte,Int.reduceLE,Int.reduceLT,Int.reduceNeg,Int.reduceToNat,encQ,Int.reduceEq,if_false,if_true,or_true,or_false,true_or,false_or,List.map_cons,List.map_nil,List.length_cons,List.length_nil,Int.reduceAdd]
   refine ahdq (Rows_ok c hcl q hq _) ?_
   simp -implicitDefEqProofs only [push_cast,Nat.reduceAdd,Nat.reduceSub,Nat.reduceMul,Nat.reduceLT,Nat.reduceLeDiff,Nat.reduceEqDiff,Nat.reduceBEq,reduceCtorEq,reduceIte,Int.reduceLE,Int.reduceLT,Int.reduceNeg,Int.reduceToNat,encQ,Int.reduceEq,if_false,if_true,or_true,or_false,true_or,false_or,List.map_cons,List.map_nil,List.length_cons,List.length_nil,Int.reduceAdd]
   refine ahdq (NestK_ok _ _) ?_
   simp -implicitDefEqProofs only [push_cast,Nat.reduceAdd,Nat.reduceSub,Nat.reduceMul,Nat.reduceLT,Nat.reduceLeDiff,Nat.reduceEqDiff,Nat.reduceBEq,reduceCtorEq,reduceIte,Int.reduceLE,Int.reduceLT,Int.reduceNeg,Int.reduceToNat,encQ,Int.reduceEq,if_false,if_true,or_true,or_false,true_or,false_or,List.map_cons,List.map_nil,List.length_cons,List.length_nil,Int.reduceAdd,ownC]
  ·simp -implicitDefEqProofs only [push_cast,Nat.reduceAdd,Nat.reduceSub,Nat.reduceMul,Nat.reduceLT,Nat.reduceLeDiff,Nat.reduceEqDiff,Nat.reduceBEq,reduceCtorEq,reduceIte,Int.reduceLE,Int.reduceLT,Int.reduceNeg,Int.reduceToNat,encQ,Int.reduceEq,if_false,if_true,or_true,or_false,true_or,false_or,List.map_cons,List.map_nil,List.length_cons,List.length_nil,Int.reduceAdd]
   refine areg_at 16 (by kernel_rfl) (by kernel_rfl) ?_
   simp -implicitDefEqProofs only [push_cast,Nat.reduceAdd,Nat.reduceSub,Nat.reduceMul,Nat.reduceLT,Nat.reduceLeDiff,Nat.reduceEqDiff,Nat.reduceBEq,reduceCtorEq,reduceIte,Int.reduceLE,Int.reduceLT,Int.reduceNeg,Int.reduceToNat,encQ,Int.reduceEq,if_false,if_true,or_true,or_false,true_or,false_or,List.map_cons,List.map_nil,List.length_cons,List.length_nil,Int.reduceAdd]
   refine areg_at 17 (by kernel_rfl) (by kernel_rfl) ?_
   simp -implicitDefEqProofs only [push_cast,Nat.reduceAdd,Nat.reduceSub,Nat.reduceMul,Nat.reduceLT,Nat.reduceLeDiff,Nat.reduceEqDiff,Nat.reduceBEq,reduceCtorEq,reduceIte,Int.reduceLE,Int.reduceLT,Int.reduceNeg,Int.reduceToNat,encQ,Int.reduceEq,if_false,if_true,or_true,or_false,true_or,false_or,List.map_cons,List.map_nil,List.length_cons,List.length_nil,Int.reduceAdd]
   refine ahdq hPr ?_
   simp -implicitDefEqProofs only [push_cast,Nat.reduceAdd,Nat.reduceSub,Nat.reduceMul,Nat.reduceLT,Nat.reduceLeDiff,Nat.reduceEqDiff,Nat.reduceBEq,reduceCtorEq,reduceIte,Int.reduceLE,Int.reduceLT,Int.reduceNeg,Int.reduceToNat,encQ,Int.reduceEq,if_false,if_true,or_true,or_false,true_or,false_or,List.map_cons,List.map_nil,List.length_cons,List.length_nil,Int.reduceAdd]
   refine ahdq hSx ?_
   simp -implicitDefEqProofs only [push_cast,Nat.reduceAdd,Nat.reduceSub,Nat.reduceMul,Nat.reduceLT,Nat.reduceLeDiff,Nat.reduceEqDiff,Nat.reduceBEq,reduceCtorEq,reduceIte,Int.reduceLE,Int.reduceLT,Int.reduceNeg,Int.reduceToNat,encQ,Int.reduceEq,if_false,if_true,or_true,or_false,true_or,false_or,List.map_cons,List.map_nil,List.length_cons,List.length_nil,Int.reduceAdd]
   refine ahdq (Rows_ok c hcl q hq _) ?_
   simp -implicitDefEqProofs only [push_cast,Nat.reduceAdd,Nat.reduceSub,Nat.reduceMul,Nat.reduceLT,Nat.reduceLeDiff,Nat.reduceEqDiff,Nat.reduceBEq,reduceCtorEq,reduceIte,Int.reduceLE,Int.reduceLT,Int.reduceNeg,Int.reduceToNat,encQ,Int.reduceEq,if_false,if_true,or_true,or_false,true_or,false_or,List.map_cons,List.map_nil,List.length_cons,List.length_nil,Int.reduceAdd]
   refine ahdq hSy ?_
   simp -implicitDefEqProofs only [push_cast,Nat.reduceAdd,Nat.reduceSub,Nat.reduceMul,Nat.reduceLT,Nat.reduceLeDiff,Nat.reduceEqDiff,Nat.reduceBEq,reduceCtorEq,reduceIte,Int.reduceLE,Int.reduceLT,Int.reduceNeg,Int.reduceToNat,encQ,Int.reduceEq,if_false,if_true,or_true,or_false,true_or,false_or,List.map_cons,List.map_nil,List.length_cons,List.length_nil,Int.reduceAdd]
   refine ahdq (Rows_ok c hcl q hq _) ?_
   simp -implicitDefEqProofs only [push_cast,Nat.reduceAdd,Nat.reduceSub,Nat.reduceMul,Nat.reduceLT,Nat.reduceLeDiff,Nat.reduceEqDiff,Nat.reduceBEq,reduceCtorEq,reduceIte,Int.reduceLE,Int.reduceLT,Int.reduceNeg,Int.reduceToNat,encQ,Int.reduceEq,if_false,if_true,or_true,or_false,true_or,false_or,List.map_cons,List.map_nil,List.length_cons,List.length_nil,Int.reduceAdd]
   refine ahdq (HashK_ok _ _) ?_
   simp -implicitDefEqProofs only [push_cast,Nat.reduceAdd,Nat.reduceSub,Nat.reduceMul,Nat.reduceLT,Nat.reduceLeDiff,Nat.reduceEqDiff,Nat.reduceBEq,reduceCtorEq,reduceIte,Int.reduceLE,Int.reduceLT,Int.reduceNeg,Int.reduceToNat,encQ,Int.reduceEq,if_false,if_true,or_true,or_false,true_or,false_or,List.map_cons,List.map_nil,List.length_cons,List.length_nil,Int.reduceAdd,ownC]
  ·simp -implicitDefEqProofs only [push_cast,Nat.reduceAdd,Nat.reduceSub,Nat.reduceMul,Nat.reduceLT,Nat.reduceLeDiff,Nat.reduceEqDiff,Nat.reduceBEq,reduceCtorEq,reduceIte,Int.reduceLE,Int.reduceLT,Int.reduceNeg,Int.reduceToNat,encQ,Int.reduceEq,if_false,if_true,or_true,or_false,true_or,false_or,List.map_cons,List.map_nil,List.length_cons,List.length_nil,Int.reduceAdd]
   refine areg_at 16 (by kernel_rfl) (by kernel_rfl) ?_
   simp -implicitDefEqProofs only [push_cast,Nat.reduceAdd,Nat.reduceSub,Nat.reduceMul,Nat.reduceLT,Nat.reduceLeDiff,Nat.reduceEqDiff,Nat.reduceBEq,reduceCtorEq,reduceIte,Int.reduceLE,Int.reduceLT,Int.reduceNeg,Int.reduceToNat,encQ,Int.reduceEq,if_false,if_true,or_true,or_false,true_or,false_or,List.map_cons,List.map_nil,List.length_cons,List.length_nil,Int.reduceAdd]
   refine areg_at 17 (by kernel_rfl) (by kernel_rfl) ?_
   simp -implicitDefEqProofs only [push_cast,Nat.reduceAdd,Nat.reduceSub,Nat.reduceMul,Nat.reduceLT,Nat.reduceLeDiff,Nat.reduceEqDiff,Nat.reduceBEq,reduceCtorEq,reduceIte,Int.reduceLE,Int.reduceLT,Int.reduceNeg,Int.reduceToNat,encQ,Int.reduceEq,if_false,if_true,or_true,or_false,true_or,false_or,List.map_cons,List.map_nil,List.length_cons,List.length_nil,Int.reduceAdd]
   refine ahdq hPr ?_
   simp -implicitDefEqProofs only [push_cast,Nat.reduceAdd,Nat.reduceSub,Nat.reduceMul,Nat.reduceLT,Nat.reduceLeDiff,Nat.reduceEqDiff,Nat.reduceBEq,reduceCtorEq,reduceIte,Int.reduceLE,Int.reduceLT,Int.reduceNeg,Int.reduceToNat,encQ,Int.reduceEq,if_false,if_true,or_true,or_false,true_or,false_or,List.map_cons,List.map_nil,List.length_cons,List.length_nil,Int.reduceAdd]
   refine ahdq hSx ?_
   simp -implicitDefEqProofs only [push_cast,Nat.reduceAdd,Nat.reduceSub,Nat.reduceMul,Nat.reduceLT,Nat.reduceLeDiff,Nat.reduceEqDiff,Nat.reduceBEq,reduceCtorEq,reduceIte,Int.reduceLE,Int.reduceLT,Int.reduceNeg,Int.reduceToNat,encQ,Int.reduceEq,if_false,if_true,or_true,or_false,true_or,false_or,List.map_cons,List.map_nil,List.length_cons,List.length_nil,Int.reduceAdd]
   refine ahdq (Rows_ok c hcl q hq _) ?_
   simp -implicitDefEqProofs only [push_cast,Nat.reduceAdd,Nat.reduceSub,Nat.reduceMul,Nat.reduceLT,Nat.reduceLeDiff,Nat.reduceEqDiff,Nat.reduceBEq,reduceCtorEq,reduceIte,Int.reduceLE,Int.reduceLT,Int.reduceNeg,Int.reduceToNat,encQ,Int.reduceEq,if_false,if_true,or_true,or_false,true_or,false_or,List.map_cons,List.map_nil,List.length_cons,List.length_nil,Int.reduceAdd]
   refine ahdq hSy ?_
   simp -implicitDefEqProofs only [push_cast,Nat.reduceAdd,Nat.reduceSub,Nat.reduceMul,Nat.reduceLT,Nat.reduceLeDiff,Nat.reduceEqDiff,Nat.reduceBEq,reduceCtorEq,reduceIte,Int.reduceLE,Int.reduceLT,Int.reduceNeg,Int.reduceToNat,encQ,Int.reduceEq,if_false,if_true,or_true,or_false,true_or,false_or,List.map_cons,List.map_nil,List.length_cons,List.length_nil,Int.reduceAdd]
   refine ahdq (Rows_ok c hcl q hq _) ?_
   simp -implicitDefEqProofs only [push_cast,Nat.reduceAdd,Nat.reduceSub,Nat.reduceMul,Nat.reduceLT,Nat.reduceLeDiff,Nat.reduceEqDiff,Nat.reduceBEq,reduceCtorEq,reduceIte,Int.reduceLE,Int.reduceLT,Int.reduceNeg,Int.reduceToNat,encQ,Int.reduceEq,if_false,if_true,or_true,or_false,true_or,false_or,List.map_cons,List.map_nil,List.length_cons,List.length_nil,Int.reduceAdd]
   refine ahdq (MergeK_ok _ _) ?_
   simp -implicitDefEqProofs only [push_cast,Nat.reduceAdd,Nat.reduceSub,Nat.reduceMul,Nat.reduceLT,Nat.reduceLeDiff,Nat.reduceEqDiff,Nat.reduceBEq,reduceCtorEq,reduceIte,Int.reduceLE,Int.reduceLT,Int.reduceNeg,Int.reduceToNat,encQ,Int.reduceEq,if_false,if_true,or_true,or_false,true_or,false_or,List.map_cons,List.map_nil,List.length_cons,List.length_nil,Int.reduceAdd,ownC]
end
section
attribute [local push_cast] encPl_mk encPl_take encPl_len encPl_one encPls_pure encPl_pure encT_pure encT_len encT_one encT_take
theorem cost1_ok (c:List Df) (hcl:c.length ≤ 1000000) (q:Qy) (hq:q.Ok) (i:Nat) (p:Pl) (hp:Pl.good p) (s:List Int) (H:AH) (B:Nat → Prop) (hs1:s.length < 1000000) (hI:(stRow i).inv s H B) :
  ACalls Go.Proofs.Tryz.prog 61 [.agg (encPl p), .ptr i 1 0 0, .iptr [.sl (c.map encD)], .iptr (encQ q)] H (fun r H'=>r = .bool (addStep (ownC c q) s p).2 ∧ Moves (stRow i) (addStep (ownC c q) s p).1 H B H'):=by
 have hC:=partCost_ok c hcl q hq p hp
 have hpl:=encPl_len p
 refine acalls_sc (rs:=#[.tmp 5]) Go.Proofs.Tryz.func61 rfl rfl rfl mixed rfl (Nat.le_of_ble_eq_true rfl) fun hs _=>?_
 have hIc:=hI
 rcases hI with ⟨rfl,h2,h3,rfl⟩ | ⟨j,h1,h2,h3,h4,h5,rfl⟩
 ·have hob:∀ l,(H.plus l).obj i = some (.cells 1 [[.nilS]] 0):=fun l=>by rw [plus_low H l h2]; exact h3
  have hset:∀ l o,(H.plus l).set i o = (H.set i o).plus l:=fun l o=>plus_setlow H l h2 o
  simp -implicitDefEqProofs only [push_cast,Nat.reduceAdd,Nat.reduceSub,Nat.reduceMul,Nat.reduceLT,Nat.reduceLeDiff,Nat.reduceEqDiff,Nat.reduceBEq,reduceCtorEq,reduceIte,Int.reduceLE,Int.reduceLT,Int.reduceNeg,Int.reduceToNat,hob,hset,encQ]
  refine areg_grow [some (.cells 5 [encPl p] 0)] 7 ?_ (by kernel_rfl) (by kernel_rfl) (by kernel_rfl) ?_
  ·intro j o hj
   exact hj
  simp -implicitDefEqProofs only [push_cast,Nat.reduceAdd,Nat.reduceSub,Nat.reduceMul,Nat.reduceLT,Nat.reduceLeDiff,Nat.reduceEqDiff,Nat.reduceBEq,reduceCtorEq,reduceIte,Int.reduceLE,Int.reduceLT,Int.reduceNeg,Int.reduceToNat,hob,hset,encQ]
  refine ⟨_,hC, ?_⟩
  simp -implicitDefEqProofs only [push_cast,Nat.reduceAdd,Nat.reduceSub,Nat.reduceMul,Nat.reduceLT,Nat.reduceLeDiff,Nat.reduceEqDiff,Nat.reduceBEq,reduceCtorEq,reduceIte,Int.reduceLE,Int.reduceLT,Int.reduceNeg,Int.reduceToNat,hob,hset,encQ]
  refine retk trivial ⟨rfl, ?_⟩
  simp only [addStep,List.nil_append]
  refine stRow_push rfl rfl (fun q hq hb=>?_) h2 1 rfl ?_
  ·show (if q = i then _ else H.obj q) = _
   rw [if_neg hb]
  ·show (if i = i then _ else H.obj i) = _
   rw [if_pos rfl]
   rfl
 ·have hob:∀ l,(H.plus l).obj i = some (.cells 1 [[.rsl j 1 0 s.length]] 0):=fun l=>by rw [plus_low H l h2]; exact h4
  have hoj:∀ l,(H.plus l).obj j = some (.cells 1 (rowI s) 0):=fun l=>by rw [plus_low H l h3]; exact h5
  have hdel:∀ l,(H.plus l).del j = (H.del j).plus l:=fun l=>plus_dellow H l h3
  have hob2:∀ l,((H.del j).plus l).obj i = some (.cells 1 [[.rsl j 1 0 s.length]] 0):=fun l=>by
   rw [plus_low (H.del j) l h2]
   show (if i = j then none else H.obj i) = _
   rw [if_neg (Ne.symm h1),h4]
  have hoj2:∀ l,((H.del j).plus l).obj j = none:=fun l=>by
   rw [plus_low (H.del j) l h3]
   show (if j = j then none else H.obj j) = _
   rw [if_pos rfl]
  have hpo:∀ l k,((H.del j).plus l).obj (H.nxt + k) = (l[k]?).join:=fun l k=>plus_obj (H.del j) l k
  have hset2:∀ l o,((H.del j).plus l).set i o = ((H.del j).set i o).plus l:=fun l o=>plus_setlow (H.del j) l h2 o
  simp -implicitDefEqProofs only [push_cast,Nat.reduceAdd,Nat.reduceSub,Nat.reduceMul,Nat.reduceLT,Nat.reduceLeDiff,Nat.reduceEqDiff,Nat.reduceBEq,reduceCtorEq,reduceIte,Int.reduceLE,Int.reduceLT,Int.reduceNeg,Int.reduceToNat,hob,hoj,hdel,hob2,hset2,del_nxt,encQ]
  refine .inl (aregE_chain ((H.del j).plus [some (.cells 5 [encPl p] 0)]) 7 (by kernel_rfl) (by kernel_rfl) (by kernel_rfl) (fun k o hk=>?_) ?_)
  ·rw [← hdel] at hk
   change (if k = j then none else _) = _ at hk
   split at hk
   ·cases hk
   ·exact hk
  simp -implicitDefEqProofs only [push_cast,Nat.reduceAdd,Nat.reduceSub,Nat.reduceMul,Nat.reduceLT,Nat.reduceLeDiff,Nat.reduceEqDiff,Nat.reduceBEq,reduceCtorEq,reduceIte,Int.reduceLE,Int.reduceLT,Int.reduceNeg,Int.reduceToNat,hob,hoj,hdel,hob2,hoj2,hset2,hpo,del_nxt,encQ]
  refine ⟨_,hC, ?_⟩
  simp -implicitDefEqProofs only [push_cast,Nat.reduceAdd,Nat.reduceSub,Nat.reduceMul,Nat.reduceLT,Nat.reduceLeDiff,Nat.reduceEqDiff,Nat.reduceBEq,reduceCtorEq,reduceIte,Int.reduceLE,Int.reduceLT,Int.reduceNeg,Int.reduceToNat,hob,hoj,hdel,hob2,hoj2,hset2,hpo,del_nxt,encQ]
  refine ⟨by omega,retk trivial ⟨rfl, ?_⟩⟩
  simp only [addStep]
  refine stRow_push rfl (.inl rfl) (fun q hq hb=>?_) h2 1 ?_ ?_
  ·show (if q = i then _ else (if q = j then none else H.obj q)) = _
   rw [if_neg (fun e=>hb (.inl e)),if_neg (fun e=>hb (.inr e))]
  ·simp only [List.getElem?_cons_succ,List.getElem?_cons_zero]
   rw [List.take_of_length_le (by simp [rowI]),rowI,rowI,List.map_append]
   rfl
  ·show (if i = i then _ else _) = _
   rw [if_pos rfl,List.length_append]
   rfl
theorem CostPl_ok (c:List Df) (hcl:c.length ≤ 1000000) (q:Qy) (hq:q.Ok) (p:Pl) (hok:p.Ok):Quiet Go.Proofs.Tryz.prog 17 [.agg [.sl (c.map encD)], .agg (encQ q), .agg (encPl p)] (.int (costP c q p)):=by
 have hM:=MayPl_ok c hcl q hq p hok
 unfold costP
 refine quiet_of (rs:=#[.tmp 6]) Go.Proofs.Tryz.func17 rfl rfl rfl mixed rfl rfl fun H hs=>?_
 simp -implicitDefEqProofs only [push_cast,Nat.reduceAdd,Nat.reduceSub,Nat.reduceMul,Nat.reduceLT,Nat.reduceLeDiff,Nat.reduceEqDiff,Nat.reduceBEq,reduceCtorEq,reduceIte,Int.reduceLE,Int.reduceLT,Int.reduceNeg,Int.reduceToNat,encQ]
 refine callq hM ?_
 cases hm:mayP c q p
 ·simp -implicitDefEqProofs only [push_cast,Nat.reduceAdd,Nat.reduceSub,Nat.reduceMul,Nat.reduceLT,Nat.reduceLeDiff,Nat.reduceEqDiff,Nat.reduceBEq,reduceCtorEq,reduceIte,Int.reduceLE,Int.reduceLT,Int.reduceNeg,Int.reduceToNat,encQ,Bool.false_eq_true,if_false,capK]
 have h1:=mayP_split hm
 have hgood:Pl.good p:=⟨hok,h1.2.2.1⟩
 have hpl:(parts p).length ≤ 20:=by
  have:=h1.2.2.1.1
  unfold Pl.few at this
  simp only [Bool.and_eq_true,decide_eq_true_eq] at this
  exact this.1
 have hpp:1 ≤ (parts p).length:=by obtain ⟨op,occ,a,b,l⟩:=p; rw [parts_mk]; simp
 have hA:=AddK_ok ((parts p).map (ownC c q)) (by rw [List.length_map]; omega)
 have hst:=eachP_add (ownC c q) p []
 rw [List.nil_append] at hst
 simp -implicitDefEqProofs only [push_cast,Nat.reduceAdd,Nat.reduceSub,Nat.reduceMul,Nat.reduceLT,Nat.reduceLeDiff,Nat.reduceEqDiff,Nat.reduceBEq,reduceCtorEq,reduceIte,Int.reduceLE,Int.reduceLT,Int.reduceNeg,Int.reduceToNat,encQ,if_true]
 refine fzk H 0 1 [.agg (encPl p), .clo (.func 61) [] [.ptr (H.nxt + 3) 1 0 0, .iptr [.sl (c.map encD)], .ptr (H.nxt + 1) 6 0 0]] (by rfl) (by omega) (by simp) ?_ ?_
 ·(try simp -implicitDefEqProofs only [push_cast,Nat.reduceAdd,Nat.reduceSub,Nat.reduceMul,Nat.reduceLT,Nat.reduceLeDiff,Nat.reduceEqDiff,Nat.reduceBEq,reduceCtorEq,reduceIte,Int.reduceLE,Int.reduceLT,Int.reduceNeg,Int.reduceToNat,encDs_pure])
 refine fzk H 1 1 [.agg (encPl p), .clo (.func 61) [] [.ptr (H.nxt + 3) 1 0 0, .iptr [.sl (c.map encD)], .iptr (encQ q)]] (by rfl) (by omega) (by simp) ?_ ?_
 ·(try simp -implicitDefEqProofs only [push_cast,Nat.reduceAdd,Nat.reduceSub,Nat.reduceMul,Nat.reduceLT,Nat.reduceLeDiff,Nat.reduceEqDiff,Nat.reduceBEq,reduceCtorEq,reduceIte,Int.reduceLE,Int.reduceLT,Int.reduceNeg,Int.reduceToNat,encDs_pure,encIs_pure,encEs_pure,encQ])
 refine ((eachQ_ok Pl.good (fun e h=>h.1) (fun _ _ _ _ _ h=>good_part h) (stRow (H.nxt + 3)) (addStep (ownC c q)) _ [.ptr (H.nxt + 3) 1 0 0, .iptr [.sl (c.map encD)], .iptr (encQ q)] List.length (fun _ _=>by simp [addStep]) 1000000 (fun s e H B he hw hI=>cost1_ok c hcl q hq _ e he s H B hw hI) p [] _ (fun q=>q = H.nxt + 3) hgood (by rw [cntP_parts]; simp; omega) (.inl ⟨rfl,by simp [plus_nxt],by rw [plus_obj]; rfl,rfl⟩)).hsc).mono ?_
 rintro r H2 ⟨⟨rfl,hm⟩,hsc2,hle2,-⟩
 rw [hst] at hm ⊢
 obtain ⟨l',rfl⟩:=hm.is_plus (fun q hq=>by omega) hsc2
 obtain ⟨hm1,hm2,B',hB',hBB⟩:=hm
 rcases hB' with ⟨hnil,_,hv,rfl⟩ | ⟨j,hj1,hj2,hj3,hv,hrow,rfl⟩
 ·have:((parts p).map (ownC c q)).length = 0:=by dsimp only at hnil; rw [hnil]; rfl
  rw [List.length_map] at this
  omega
 have hjn:H.nxt ≤ j:=by
  rcases hBB j (.inr rfl) with h1 | h1
  ·omega
  ·rw [plus_nxt] at h1; omega
 obtain ⟨k,rfl⟩:∃ k,j = H.nxt + k:=⟨j - H.nxt,by omega⟩
 have hkl:k < l'.length:=by rw [plus_nxt] at hj3; omega
 rw [plus_obj] at hv hrow
 simp -implicitDefEqProofs only [push_cast,Nat.reduceAdd,Nat.reduceSub,Nat.reduceMul,Nat.reduceLT,Nat.reduceLeDiff,Nat.reduceEqDiff,Nat.reduceBEq,reduceCtorEq,reduceIte,Int.reduceLE,Int.reduceLT,Int.reduceNeg,Int.reduceToNat,hv,hrow]
 have hk:l'[k]? = some (some (.cells 1 (rowI ((parts p).map (ownC c q))) 0)):=by
  cases hx:l'[k]? with
  | none=>rw [hx] at hrow; cases hrow
  | some x=>rw [hx] at hrow; simp only [Option.join_some] at hrow; rw [hrow]
 have htk:List.take (parts p).length (rowI ((parts p).map (ownC c q))) = ((parts p).map (ownC c q)).map encI:=List.take_of_length_le (by simp [rowI])
 refine fzk H k (parts p).length [.sl (((parts p).map (ownC c q)).map encI)] hk (by omega) (by simp [rowI]) ?_ ?_
 ·(try simp -implicitDefEqProofs only [push_cast,Nat.reduceAdd,Nat.reduceSub,Nat.reduceMul,Nat.reduceLT,Nat.reduceLeDiff,Nat.reduceEqDiff,Nat.reduceBEq,reduceCtorEq,reduceIte,Int.reduceLE,Int.reduceLT,Int.reduceNeg,Int.reduceToNat,hrow,htk,encIs_pure])
  rw [List.getElem?_set_self hkl]
  exact Nat.le_refl (parts p).length
 refine callq hA ?_
 simp -implicitDefEqProofs only [push_cast,Nat.reduceAdd,Nat.reduceSub,Nat.reduceMul,Nat.reduceLT,Nat.reduceLeDiff,Nat.reduceEqDiff,Nat.reduceBEq,reduceCtorEq,reduceIte,Int.reduceLE,Int.reduceLT,Int.reduceNeg,Int.reduceToNat]
end
section
theorem bor_lt {a b:Int} (a0:0 ≤ a) (a1:a ≤ 15) (b0:0 ≤ b) (b1:b ≤ 15) {n:Nat} (hn:n ≤ 4):bor .i64 a b < 2 ^ n ↔ a < 2 ^ n ∧ b < 2 ^ n:=by
 obtain ⟨i,rfl⟩:∃ i:Fin 16,a = (i.val:Int):=⟨⟨a.toNat,by omega⟩,by simp; omega⟩
 obtain ⟨j,rfl⟩:∃ j:Fin 16,b = (j.val:Int):=⟨⟨b.toNat,by omega⟩,by simp; omega⟩
 obtain ⟨k,rfl⟩:∃ k:Fin 5,n = k.val:=⟨⟨n,by omega⟩,rfl⟩
 clear a0 a1 b0 b1 hn
 revert i j k
 decide +kernel
theorem mayP_iff {c:List Df} {q:Qy} {p:Pl}:mayP c q p = true ↔ q.may c = true ∧ p.few = true ∧ (treeP p).may = true ∧ (treeP p).set < 2 ^ q.occ.length ∧ (parts p).all (fitP c q) = true:=by
 unfold mayP
 rw [tree_iff]
 simp only [Bool.and_eq_true,decide_eq_true_eq]
 constructor
 ·rintro ⟨⟨⟨⟨h1,h2⟩,h3⟩,h4⟩,h5⟩
  exact ⟨h3,h1,h2,h4,h5⟩
 ·rintro ⟨h3,h1,h2,h4,h5⟩
  exact ⟨⟨⟨⟨h1,h2⟩,h3⟩,h4⟩,h5⟩
theorem may_len {c:List Df} {q:Qy} (h:q.may c = true):q.occ.length ≤ 4:=(may_split h).2.2.1
theorem mayP_part {c:List Df} {q:Qy} {op occ a b:Int} {l:List Pl} (h:mayP c q (.mk op occ a b l) = true):∀ x ∈ l,mayP c q x = true:=by
 obtain ⟨h1,h2,h3,h4,h5⟩:=mayP_iff.1 h
 intro x hx
 have hn:=may_len h1
 refine mayP_iff.2 ⟨h1,few_part h2 hx,part_may (few_own h2) h3 x hx, ?_, ?_⟩
 ·rcases form_split (few_own h2) with ⟨_,rfl⟩ | ⟨_,y,rfl⟩ | ⟨_,y,z,rfl⟩
  ·cases hx
  ·simp only [List.mem_singleton] at hx
   subst hx
   rwa [treeP] at h4
  ·rw [treeP] at h3 h4
   obtain ⟨_,_,_,hs⟩:=join_may h3
   have ry:=(treeP y).set_range
   have rz:=(treeP z).set_range
   rw [hs,bor_lt ry.1 ry.2 rz.1 rz.2 hn] at h4
   simp only [List.mem_cons,List.not_mem_nil,or_false] at hx
   rcases hx with rfl | rfl
   ·exact h4.1
   ·exact h4.2
 ·rw [parts_mk] at h5
  simp only [List.all_cons,Bool.and_eq_true,List.all_eq_true] at h5 ⊢
  exact fun y hy=>h5.2 y (partsPl_mem hx y hy)
theorem costP_tree {c:List Df} {q:Qy} {p:Pl} (h:mayP c q p = true):costP c q p = costT (ownC c q) p:=by
 rw [costP,if_pos h]
 exact cost_tree (mayP_iff.1 h).2.1
theorem costP_mk {c:List Df} {q:Qy} {op occ a b:Int} {l:List Pl} (h:mayP c q (.mk op occ a b l) = true):costP c q (.mk op occ a b l) = addK (l.map (costP c q) ++ [ownC c q (.mk op occ a b l)]):=by
 have hs:=mayP_part h
 rw [costP_tree h]
 rcases form_split (few_own (mayP_iff.1 h).2.1) with ⟨_,rfl⟩ | ⟨_,x,rfl⟩ | ⟨_,x,y,rfl⟩
 ·have ho:=ownC_range c q (.mk op occ a b [])
  rw [costT,List.map_nil,List.nil_append,addK_eq]
  simp only [sumK,List.map_cons,List.map_nil,List.foldr_cons,List.foldr_nil]
  omega
 ·rw [costT,List.map_cons,List.map_nil,costP_tree (hs x (by simp))]
  rfl
 ·rw [costT,List.map_cons,List.map_cons,List.map_nil,costP_tree (hs x (by simp)),costP_tree (hs y (by simp))]
  rfl
theorem nest_order {a b:Pl} (h:(Pl.mk 1 0 0 0 [a,b]).few = true):(Pl.mk 1 0 0 0 [a,b]).order = a.order:=by
 rw [Pl.order,Pl.order,if_pos h,if_pos (few_part h (by simp)),orderL,if_pos rfl]
theorem sort_may {c:List Df} {q:Qy} {x:Pl} {col:Int} (hx:mayP c q x = true) (hf:(Pl.mk 4 0 col 0 [x]).few = true):mayP c q (.mk 4 0 col 0 [x]) = (q.cols c (treeP x).set).contains col:=by
 obtain ⟨h1,_,h3,h4,h5⟩:=mayP_iff.1 hx
 rw [Bool.eq_iff_iff,mayP_iff,treeP,parts_all,partsPl_cons,partsPl,List.append_nil,h5,Bool.and_true]
 exact ⟨fun h=>h.2.2.2.2,fun h=>⟨h1,hf,h3,h4,h⟩⟩
theorem sort_cost {c:List Df} {q:Qy} {x:Pl} {col b:Int} (h:mayP c q (.mk 4 0 col b [x]) = true):costP c q (.mk 4 0 col b [x]) = addK [costP c q x,sortK (rowsQ c q (treeP x).set)]:=by
 rw [costP_mk h]
 rfl
theorem sort_order {x:Pl} {col b:Int} (h:(Pl.mk 4 0 col b [x]).few = true):(Pl.mk 4 0 col b [x]).order = col:=by
 rw [Pl.order,if_pos h,orderL,if_neg (by decide),if_pos (.inl rfl)]
theorem form_two {op a b:Int} {x y:Pl} (ho:op = 2 ∨ op = 3):(Pl.mk op 0 a b [x,y]).form = true:=by
 rcases ho with rfl | rfl <;> simp [Pl.form,Pl.op,Pl.l,Pl.occ,plansP]
theorem fit_of {c:List Df} {q:Qy} {op occ a b:Int} {x y:Pl} (h1:(q.pairs (treeP x).set (treeP y).set).contains (a,b) = true) (h2:op = 2 ∨ (x.order = a ∧ y.order = b)):fitP c q (.mk op occ a b [x,y]) = true:=by
 have e:fitP c q (.mk op occ a b [x,y]) = (if op = 1 then true else (q.pairs (treeP x).set (treeP y).set).contains (a,b) && (decide (op = 2) || (decide (x.order = a) && decide (y.order = b)))):=rfl
 rw [e,h1]
 split
 ·rfl
 ·simpa only [Bool.and_eq_true,Bool.or_eq_true,decide_eq_true_eq,Bool.true_and] using h2
end
section
def innerL (op col:Int) (ps:List (Int × Int)):List Pl:=(ps.filter fun p=>decide (col = -1) || (decide (op = 3) && decide (col = p.1))).map fun p=>.mk op 0 p.1 p.2 []
def nestW:Pl:=.mk 1 0 0 0 []
def waysP (q:Qy) (a b col:Int):List Pl:=[nestW] ++ innerL 2 col (q.pairs a b) ++ innerL 3 col (q.pairs a b)
def mustP (w:Pl) (col:Int):Int × Int:=if w.op = 1 then (col,-1) else if w.op = 3 then (w.a,w.b) else (-1,-1)
def sortedC (c:List Df) (q:Qy) (s n:Int):Int:=addK [n,sortK (rowsQ c q s)]
def ownW (c:List Df) (q:Qy) (w:Pl) (a b:Int):Int:=if w.op = 1 then nestK (rowsQ c q a) (rowsQ c q b) else if w.op = 2 then hashK (rowsQ c q a) (rowsQ c q b) else mergeK (rowsQ c q a) (rowsQ c q b)
abbrev Ch:=Int × Pl
def plO:Pl:=.mk 0 0 0 0 []
def leastC:List Ch → Ch
 | []=>(0,plO)
 | x :: l=>l.foldl (fun out y=>if y.1 < out.1 then y else out) x
def wayC (c:List Df) (q:Qy) (f g:Int → Ch) (a b col:Int) (w:Pl):List Ch :=
 if (mustP w col).1 ≠ -1 ∧ (q.cols c a).contains (mustP w col).1 = false then []
 else [(addK [(f (mustP w col).1).1,(g (mustP w col).2).1,ownW c q w a b], .mk w.op w.occ w.a w.b [(f (mustP w col).1).2,(g (mustP w col).2).2])]
def candC (c:List Df) (q:Qy) (f:Tr → Int → Ch) (t:Tr) (col:Int):List Ch :=
 match t with
 | .mk o l =>
  match l with
  | []=>if col = -1 then [(costP c q (.mk 0 o 0 0 []), .mk 0 o 0 0 [])] else []
  | [x,y]=>(waysP q x.set y.set col).flatMap (wayC c q (f x) (f y) x.set y.set col)
  | _=>[]
def sortC (c:List Df) (q:Qy) (t:Tr) (col:Int) (x:Ch):Ch:=(sortedC c q t.set x.1, .mk 4 0 col 0 [x.2])
def bestF (c:List Df) (q:Qy):Nat → Tr → Int → Ch
 | 0,_,_=>(0,plO)
 | d + 1,t,col=>if col = -1 then leastC (candC c q (bestF c q d) t (-1)) else leastC (candC c q (bestF c q d) t col ++ [sortC c q t col (leastC (candC c q (bestF c q d) t (-1)))])
theorem innerL_snoc (op col:Int) (ps:List (Int × Int)) (i:Nat) (h:i < ps.length):innerL op col (ps.take (i + 1)) = innerL op col (ps.take i) ++ (if (decide (col = -1) || (decide (op = 3) && decide (col = ps[i].1))) = true then [.mk op 0 ps[i].1 ps[i].2 []] else []):=by
 unfold innerL
 rw [List.take_succ_eq_append_getElem h,List.filter_append,List.map_append]
 congr 1
 cases hc:(decide (col = -1) || (decide (op = 3) && decide (col = ps[i].1)))
 ·rw [List.filter_cons,hc]; rfl
 ·rw [List.filter_cons,hc]; rfl
theorem innerL_len (op col:Int) (ps:List (Int × Int)):(innerL op col ps).length ≤ ps.length:=by
 unfold innerL
 rw [List.length_map]
 exact List.length_filter_le _ _
end
section
attribute [local push_cast] encPl_mk encPl_take encPl_len encPl_one encPls_pure encPl_pure encT_pure encT_len encT_one encT_take
theorem encPls_all5 (l:List Pl):∀ e ∈ l.map encPl,e.length = 5:=by
 simp only [List.mem_map]
 rintro _ ⟨x,_,rfl⟩
 exact encPl_len x
theorem sealLL_snoc {π:Nat → Option Nat} {H H':AH} {v u:List AV}:∀ {vs us:List (List AV)},SealLL π H H' vs us → SealL π H H' v u → SealLL π H H' (vs ++ [v]) (us ++ [u])
 | [],[],_,h=>by rw [List.nil_append,List.nil_append,slll_cons,slll_nil]; exact ⟨h,trivial⟩
 | a :: vs,b :: us,h0,h=>by
  rw [slll_cons] at h0
  rw [List.cons_append,List.cons_append,slll_cons]
  exact ⟨h0.1,sealLL_snoc h0.2 h⟩
 | [],b :: us,h0,_=>by simp [SealLL] at h0
 | a :: vs,[],h0,_=>by simp [SealLL] at h0
def outW (col:Int) (ps:List (Int × Int)):Nat → List Pl
 | 0=>[nestW]
 | 1=>[nestW] ++ innerL 2 col ps
 | _=>[nestW] ++ innerL 2 col ps ++ innerL 3 col ps
def curW (B:List Pl) (op col:Int) (ps:List (Int × Int)) (i:Nat):List Pl:=B ++ innerL op col (ps.take i)
theorem curW_zero (B:List Pl) (op col:Int) (ps:List (Int × Int)):curW B op col ps 0 = B:=by rw [curW,List.take_zero]; exact List.append_nil B
theorem curW_len (B:List Pl) (op col:Int) (ps:List (Int × Int)) (i:Nat):(curW B op col ps i).length ≤ B.length + ps.length:=by
 rw [curW,List.length_append]
 have:=innerL_len op col (ps.take i)
 rw [List.length_take] at this
 omega
theorem outW_len (col:Int) (ps:List (Int × Int)) (k:Nat):(outW col ps k).length ≤ 1 + ps.length + ps.length:=by
 have h2:=innerL_len 2 col ps
 have h3:=innerL_len 3 col ps
 match k with
 | 0=>rw [outW,List.length_singleton]; omega
 | 1=>rw [outW,List.length_append,List.length_singleton]; omega
 | _ + 2=>rw [outW,List.length_append,List.length_append,List.length_singleton]; omega; all_goals simp
set_option maxHeartbeats 4000000 in
theorem Ways_ok (q:Qy) (hq:q.Ok) (a b col:Int):Quiet Go.Proofs.Tryz.prog 47 [.agg (encQ q), .int a, .int b, .int col] (.sl ((waysP q a b col).map encPl)):=by
 have hP:=Pairs_ok q hq a b
 have hple:=pairs_le q hq a b
 unfold waysP
 generalize q.pairs a b = ps at hP hple ⊢
 have e1:[nestW] ++ innerL 2 col ps ++ innerL 3 col ps = outW col ps 2:=rfl
 rw [e1]
 refine quiet_of (rs:=#[.tmp 8]) Go.Proofs.Tryz.func47 rfl rfl rfl mixed rfl rfl fun H hs=>?_
 simp -implicitDefEqProofs only [push_cast,Nat.reduceAdd,Nat.reduceSub,Nat.reduceMul,Nat.reduceLT,Nat.reduceLeDiff,Nat.reduceEqDiff,Nat.reduceBEq,reduceCtorEq,reduceIte,Int.reduceLE,Int.reduceLT,Int.reduceNeg,Int.reduceToNat,encQ]
 refine callq hP ?_
 simp -implicitDefEqProofs only [push_cast,Nat.reduceAdd,Nat.reduceSub,Nat.reduceMul,Nat.reduceLT,Nat.reduceLeDiff,Nat.reduceEqDiff,Nat.reduceBEq,reduceCtorEq,reduceIte,Int.reduceLE,Int.reduceLT,Int.reduceNeg,Int.reduceToNat,encQ]
 refine loop_at hs (σ:=Nat) (fun k=>k ≤ 2) (fun k=>2 - k)
  (fun k=>[(23, .int k),(22, .int 2),(21, .rsl (H.nxt + 2) 1 0 2),(10, .sl (ps.map encP)),(3, .int col),(9, .rsl (H.nxt + 1) 5 0 (outW col ps k).length)])
  (fun k=>[none,some (.cells 5 ((outW col ps k).map encPl) 0),some (.cells 1 [[.int 2],[.int 3]] 0)]) [none,some 1,some 2] 0 (by omega) rfl ?_ ?_ ?_
 ·(try simp -implicitDefEqProofs only [push_cast,Nat.reduceAdd,Nat.reduceSub,Nat.reduceMul,Nat.reduceLT,Nat.reduceLeDiff,Nat.reduceEqDiff,Nat.reduceBEq,reduceCtorEq,reduceIte,Int.reduceLE,Int.reduceLT,Int.reduceNeg,Int.reduceToNat,outW,rowP_pure,Int.reduceAdd,List.length_singleton])
 ·(try simp -implicitDefEqProofs only [push_cast,Nat.reduceAdd,Nat.reduceSub,Nat.reduceMul,Nat.reduceLT,Nat.reduceLeDiff,Nat.reduceEqDiff,Nat.reduceBEq,reduceCtorEq,reduceIte,Int.reduceLE,Int.reduceLT,Int.reduceNeg,Int.reduceToNat,outW,nestW,List.map_cons,List.map_nil])
 intro k hk
 have hol:=outW_len col ps k
 by_cases hk2:k < 2
 ·have hk':((k:Int) < 2) = True:=by simp; omega
  have hk0:(0 ≤ (k:Int)) = True:=by simp
  obtain ⟨op,hop,hopk,hend⟩:∃ op:Int,([[AV.int 2],[AV.int 3]]:List (List AV)).getD k [] = [.int op] ∧ op = 2 + k ∧ curW (outW col ps k) op col ps ps.length = outW col ps (k + 1):=by
   have hc:k = 0 ∨ k = 1:=by omega
   rcases hc with rfl | rfl
   ·exact ⟨2,rfl,rfl,by rw [curW,List.take_length]; rfl⟩
   ·exact ⟨3,rfl,rfl,by rw [curW,List.take_length]; rfl⟩
  simp -implicitDefEqProofs only [push_cast,Nat.reduceAdd,Nat.reduceSub,Nat.reduceMul,Nat.reduceLT,Nat.reduceLeDiff,Nat.reduceEqDiff,Nat.reduceBEq,reduceCtorEq,reduceIte,Int.reduceLE,Int.reduceLT,Int.reduceNeg,Int.reduceToNat,hk',hk0,hop]
  refine ⟨by omega,by omega, ?_⟩
  refine loop_at hs (σ:=Nat) (fun i=>i ≤ ps.length) (fun i=>ps.length - i)
   (fun i=>[(29, .int i),(28, .int ps.length),(27, .sl (ps.map encP)),(12, .int op),(23, .int k),(22, .int 2),(21, .rsl (H.nxt + 2) 1 0 2),(10, .sl (ps.map encP)),(3, .int col),(9, .rsl (H.nxt + 1) 5 0 (curW (outW col ps k) op col ps i).length)])
   (fun i=>[none,some (.cells 5 ((curW (outW col ps k) op col ps i).map encPl) 0),some (.cells 1 [[.int 2],[.int 3]] 0)]) [none,some 1,some 2] 0 (by omega) rfl ?_ ?_ ?_
  ·(try simp -implicitDefEqProofs only [push_cast,Nat.reduceAdd,Nat.reduceSub,Nat.reduceMul,Nat.reduceLT,Nat.reduceLeDiff,Nat.reduceEqDiff,Nat.reduceBEq,reduceCtorEq,reduceIte,Int.reduceLE,Int.reduceLT,Int.reduceNeg,Int.reduceToNat,hop,curW_zero,rowP_pure,Int.reduceAdd])
  ·(try simp -implicitDefEqProofs only [push_cast,Nat.reduceAdd,Nat.reduceSub,Nat.reduceMul,Nat.reduceLT,Nat.reduceLeDiff,Nat.reduceEqDiff,Nat.reduceBEq,reduceCtorEq,reduceIte,Int.reduceLE,Int.reduceLT,Int.reduceNeg,Int.reduceToNat,curW_zero,encPls_pure])
   exact encPls_all5 _
  intro i hi2
  have hcl:=curW_len (outW col ps k) op col ps i
  by_cases hi:i < ps.length
  ·have hi':((i:Int) < (ps.length:Int)) = True:=by simp; omega
   have hi0:(0 ≤ (i:Int)) = True:=by simp
   have hps:=encPs_get ps i hi
   rw [encP] at hps
   have hsn:=innerL_snoc op col ps i hi
   have hcs:curW (outW col ps k) op col ps (i + 1) = curW (outW col ps k) op col ps i ++ (if (decide (col = -1) || (decide (op = 3) && decide (col = ps[i].1))) = true then [.mk op 0 ps[i].1 ps[i].2 []] else []):=by
    rw [curW,hsn,← List.append_assoc]; rfl
   generalize ps[i].1 = u at hps hcs
   generalize ps[i].2 = v at hps hcs
   generalize hrow:curW (outW col ps k) op col ps i = row at hcs hcl ⊢
   have hnext:∀ row',row' = curW (outW col ps k) op col ps (i + 1) → True:=fun _ _=>trivial
   simp -implicitDefEqProofs only [push_cast,Nat.reduceAdd,Nat.reduceSub,Nat.reduceMul,Nat.reduceLT,Nat.reduceLeDiff,Nat.reduceEqDiff,Nat.reduceBEq,reduceCtorEq,reduceIte,Int.reduceLE,Int.reduceLT,Int.reduceNeg,Int.reduceToNat,hi',hi0,hps]
   refine ⟨fun _=>by decide,fun h1 h2=>by rw [decide_eq_false h1,decide_eq_true h2]; rfl,fun h=>?_,fun h=>?_⟩
   ·rw [h,if_pos rfl] at hcs
    have hrw:(curW (outW col ps k) op col ps (i + 1)).map encPl = row.map encPl ++ [encPl (.mk op 0 u v [])]:=by rw [hcs,List.map_append]; rfl
    have hln:(curW (outW col ps k) op col ps (i + 1)).length = row.length + 1:=by rw [hcs,List.length_append]; rfl
    have hcap:List.take row.length (row.map encPl) = row.map encPl:=List.take_of_length_le (by simp)
    rw [wrap64 (n:=(i:Int) + 1) (by omega) (by omega)]
    refine ⟨by omega,next_at [none,some 5,some 2] (i + 1) (by omega) (by omega) rfl ?_ ?_⟩
    ·(try simp -implicitDefEqProofs only [push_cast,Nat.reduceAdd,Nat.reduceSub,Nat.reduceMul,Nat.reduceLT,Nat.reduceLeDiff,Nat.reduceEqDiff,Nat.reduceBEq,reduceCtorEq,reduceIte,Int.reduceLE,Int.reduceLT,Int.reduceNeg,Int.reduceToNat,hln,rowP_pure])
    ·(try simp -implicitDefEqProofs only [push_cast,Nat.reduceAdd,Nat.reduceSub,Nat.reduceMul,Nat.reduceLT,Nat.reduceLeDiff,Nat.reduceEqDiff,Nat.reduceBEq,reduceCtorEq,reduceIte,Int.reduceLE,Int.reduceLT,Int.reduceNeg,Int.reduceToNat,hcap,encPls_pure])
     rw [hrw]
     refine ⟨sealLL_snoc (sealLL_pure _ _ _ (encPls_pure row)) ?_,fun e he=>?_⟩
     ·(try simp -implicitDefEqProofs only [push_cast,Nat.reduceAdd,Nat.reduceSub,Nat.reduceMul,Nat.reduceLT,Nat.reduceLeDiff,Nat.reduceEqDiff,Nat.reduceBEq,reduceCtorEq,reduceIte,Int.reduceLE,Int.reduceLT,Int.reduceNeg,Int.reduceToNat,List.map_nil])
     ·rw [← hrw] at he; exact encPls_all5 _ e he
   ·rw [h] at hcs
    have hcs':curW (outW col ps k) op col ps (i + 1) = row:=by rw [hcs]; exact List.append_nil row
    rw [wrap64 (n:=(i:Int) + 1) (by omega) (by omega)]
    refine next_at [none,some 1,some 2] (i + 1) (by omega) (by omega) rfl ?_ ?_
    ·(try simp -implicitDefEqProofs only [push_cast,Nat.reduceAdd,Nat.reduceSub,Nat.reduceMul,Nat.reduceLT,Nat.reduceLeDiff,Nat.reduceEqDiff,Nat.reduceBEq,reduceCtorEq,reduceIte,Int.reduceLE,Int.reduceLT,Int.reduceNeg,Int.reduceToNat,hcs',rowP_pure])
    ·(try simp -implicitDefEqProofs only [push_cast,Nat.reduceAdd,Nat.reduceSub,Nat.reduceMul,Nat.reduceLT,Nat.reduceLeDiff,Nat.reduceEqDiff,Nat.reduceBEq,reduceCtorEq,reduceIte,Int.reduceLE,Int.reduceLT,Int.reduceNeg,Int.reduceToNat,hcs',encPls_pure])
     exact encPls_all5 _
  ·have hi':((i:Int) < (ps.length:Int)) = False:=by simp; omega
   obtain rfl:i = ps.length:=by omega
   rw [hend]
   simp -implicitDefEqProofs only [push_cast,Nat.reduceAdd,Nat.reduceSub,Nat.reduceMul,Nat.reduceLT,Nat.reduceLeDiff,Nat.reduceEqDiff,Nat.reduceBEq,reduceCtorEq,reduceIte,Int.reduceLE,Int.reduceLT,Int.reduceNeg,Int.reduceToNat,hi']
   rw [wrap64 (n:=(k:Int) + 1) (by omega) (by omega)]
   refine next_at [none,some 1,some 2] (k + 1) (by omega) (by omega) rfl ?_ ?_
   ·(try simp -implicitDefEqProofs only [push_cast,Nat.reduceAdd,Nat.reduceSub,Nat.reduceMul,Nat.reduceLT,Nat.reduceLeDiff,Nat.reduceEqDiff,Nat.reduceBEq,reduceCtorEq,reduceIte,Int.reduceLE,Int.reduceLT,Int.reduceNeg,Int.reduceToNat,rowP_pure])
   ·(try simp -implicitDefEqProofs only [push_cast,Nat.reduceAdd,Nat.reduceSub,Nat.reduceMul,Nat.reduceLT,Nat.reduceLeDiff,Nat.reduceEqDiff,Nat.reduceBEq,reduceCtorEq,reduceIte,Int.reduceLE,Int.reduceLT,Int.reduceNeg,Int.reduceToNat,encPls_pure])
    exact encPls_all5 _
 ·have hk':((k:Int) < 2) = False:=by simp; omega
  have ek:outW col ps k = outW col ps 2:=by rw [show k = 2 by omega]
  rw [ek] at hol ⊢
  have hcap:List.take (outW col ps 2).length ((outW col ps 2).map encPl) = (outW col ps 2).map encPl:=List.take_of_length_le (by simp)
  simp -implicitDefEqProofs only [push_cast,Nat.reduceAdd,Nat.reduceSub,Nat.reduceMul,Nat.reduceLT,Nat.reduceLeDiff,Nat.reduceEqDiff,Nat.reduceBEq,reduceCtorEq,reduceIte,Int.reduceLE,Int.reduceLT,Int.reduceNeg,Int.reduceToNat,hk']
  rw [hcap]
  exact sealLL_pure _ _ _ (encPls_pure _)
theorem must_ok (w:Pl) (col:Int):Quiet Go.Proofs.Tryz.prog 145 [.agg (encPl w), .int col] (.tup [.int (mustP w col).1, .int (mustP w col).2]):=by
 obtain ⟨op,occ,a,b,l⟩:=w
 refine quiet_of (rs:=#[.tmp 4, .tmp 5]) Go.Proofs.Tryz.func145 rfl rfl rfl mixed rfl rfl fun H hs=>?_
 by_cases h1:op = 1
 ·subst h1
  simp -implicitDefEqProofs only [push_cast,Nat.reduceAdd,Nat.reduceSub,Nat.reduceMul,Nat.reduceLT,Nat.reduceLeDiff,Nat.reduceEqDiff,Nat.reduceBEq,reduceCtorEq,reduceIte,Int.reduceLE,Int.reduceLT,Int.reduceNeg,Int.reduceToNat,mustP,Pl.op,Pl.a,Pl.b,Int.reduceEq]
 ·have c1:(op = 1) = False:=by simp [h1]
  by_cases h3:op = 3
  ·subst h3
   simp -implicitDefEqProofs only [push_cast,Nat.reduceAdd,Nat.reduceSub,Nat.reduceMul,Nat.reduceLT,Nat.reduceLeDiff,Nat.reduceEqDiff,Nat.reduceBEq,reduceCtorEq,reduceIte,Int.reduceLE,Int.reduceLT,Int.reduceNeg,Int.reduceToNat,mustP,Pl.op,Pl.a,Pl.b,Int.reduceEq]
   refine areg_at 7 (by kernel_rfl) (by kernel_rfl) ?_
   simp -implicitDefEqProofs only [push_cast,Nat.reduceAdd,Nat.reduceSub,Nat.reduceMul,Nat.reduceLT,Nat.reduceLeDiff,Nat.reduceEqDiff,Nat.reduceBEq,reduceCtorEq,reduceIte,Int.reduceLE,Int.reduceLT,Int.reduceNeg,Int.reduceToNat]
   try decide
  ·have c3:(op = 3) = False:=by simp [h3]
   simp -implicitDefEqProofs only [push_cast,Nat.reduceAdd,Nat.reduceSub,Nat.reduceMul,Nat.reduceLT,Nat.reduceLeDiff,Nat.reduceEqDiff,Nat.reduceBEq,reduceCtorEq,reduceIte,Int.reduceLE,Int.reduceLT,Int.reduceNeg,Int.reduceToNat,mustP,Pl.op,Pl.a,Pl.b,c1,c3]
theorem Sorted_ok (c:List Df) (hcl:c.length ≤ 1000000) (q:Qy) (hq:q.Ok) (s n:Int):Quiet Go.Proofs.Tryz.prog 49 [.agg [.sl (c.map encD)], .agg (encQ q), .int s, .int n] (.int (sortedC c q s n)):=by
 have hR:=Rows_ok c hcl q hq s
 have hA:=AddK_ok [n,sortK (rowsQ c q s)] (by simp)
 refine quiet_of (rs:=#[.tmp 8]) Go.Proofs.Tryz.func49 rfl rfl rfl mixed rfl rfl fun H hs=>?_
 simp -implicitDefEqProofs only [push_cast,Nat.reduceAdd,Nat.reduceSub,Nat.reduceMul,Nat.reduceLT,Nat.reduceLeDiff,Nat.reduceEqDiff,Nat.reduceBEq,reduceCtorEq,reduceIte,Int.reduceLE,Int.reduceLT,Int.reduceNeg,Int.reduceToNat,encQ]
 refine callq hR ?_
 simp -implicitDefEqProofs only [push_cast,Nat.reduceAdd,Nat.reduceSub,Nat.reduceMul,Nat.reduceLT,Nat.reduceLeDiff,Nat.reduceEqDiff,Nat.reduceBEq,reduceCtorEq,reduceIte,Int.reduceLE,Int.reduceLT,Int.reduceNeg,Int.reduceToNat,encQ]
 refine callq (SortK_ok _) ?_
 simp -implicitDefEqProofs only [push_cast,Nat.reduceAdd,Nat.reduceSub,Nat.reduceMul,Nat.reduceLT,Nat.reduceLeDiff,Nat.reduceEqDiff,Nat.reduceBEq,reduceCtorEq,reduceIte,Int.reduceLE,Int.reduceLT,Int.reduceNeg,Int.reduceToNat,encQ]
 refine fzk H 2 2 [.sl ([n,sortK (rowsQ c q s)].map encI)] (by rfl) (by omega) (by simp) ?_ ?_
 ·(try simp -implicitDefEqProofs only [push_cast,Nat.reduceAdd,Nat.reduceSub,Nat.reduceMul,Nat.reduceLT,Nat.reduceLeDiff,Nat.reduceEqDiff,Nat.reduceBEq,reduceCtorEq,reduceIte,Int.reduceLE,Int.reduceLT,Int.reduceNeg,Int.reduceToNat,encI,List.map_cons,List.map_nil])
 refine callq hA ?_
 simp -implicitDefEqProofs only [push_cast,Nat.reduceAdd,Nat.reduceSub,Nat.reduceMul,Nat.reduceLT,Nat.reduceLeDiff,Nat.reduceEqDiff,Nat.reduceBEq,reduceCtorEq,reduceIte,Int.reduceLE,Int.reduceLT,Int.reduceNeg,Int.reduceToNat,sortedC]
theorem ownW_ok (c:List Df) (hcl:c.length ≤ 1000000) (q:Qy) (hq:q.Ok) (w:Pl) (s t:Int):Quiet Go.Proofs.Tryz.prog 146 [.agg [.sl (c.map encD)], .agg (encQ q), .agg (encPl w), .int s, .int t] (.int (ownW c q w s t)):=by
 have hR:=Rows_ok c hcl q hq s
 have hR2:=Rows_ok c hcl q hq t
 obtain ⟨op,occ,a,b,l⟩:=w
 unfold ownW
 refine quiet_of (rs:=#[.tmp 10]) Go.Proofs.Tryz.func146 rfl rfl rfl mixed rfl rfl fun H hs=>?_
 simp -implicitDefEqProofs only [push_cast,Nat.reduceAdd,Nat.reduceSub,Nat.reduceMul,Nat.reduceLT,Nat.reduceLeDiff,Nat.reduceEqDiff,Nat.reduceBEq,reduceCtorEq,reduceIte,Int.reduceLE,Int.reduceLT,Int.reduceNeg,Int.reduceToNat,encQ]
 refine areg_at 9 (by kernel_rfl) (by kernel_rfl) ?_
 simp -implicitDefEqProofs only [push_cast,Nat.reduceAdd,Nat.reduceSub,Nat.reduceMul,Nat.reduceLT,Nat.reduceLeDiff,Nat.reduceEqDiff,Nat.reduceBEq,reduceCtorEq,reduceIte,Int.reduceLE,Int.reduceLT,Int.reduceNeg,Int.reduceToNat,encQ]
 refine ahdq hR ?_
 simp -implicitDefEqProofs only [push_cast,Nat.reduceAdd,Nat.reduceSub,Nat.reduceMul,Nat.reduceLT,Nat.reduceLeDiff,Nat.reduceEqDiff,Nat.reduceBEq,reduceCtorEq,reduceIte,Int.reduceLE,Int.reduceLT,Int.reduceNeg,Int.reduceToNat,encQ]
 refine ahdq hR2 ?_
 by_cases h1:op = 1
 ·subst h1
  simp -implicitDefEqProofs only [push_cast,Nat.reduceAdd,Nat.reduceSub,Nat.reduceMul,Nat.reduceLT,Nat.reduceLeDiff,Nat.reduceEqDiff,Nat.reduceBEq,reduceCtorEq,reduceIte,Int.reduceLE,Int.reduceLT,Int.reduceNeg,Int.reduceToNat,Pl.op,Int.reduceEq]
  refine callq (NestK_ok _ _) ?_
  simp -implicitDefEqProofs only [push_cast,Nat.reduceAdd,Nat.reduceSub,Nat.reduceMul,Nat.reduceLT,Nat.reduceLeDiff,Nat.reduceEqDiff,Nat.reduceBEq,reduceCtorEq,reduceIte,Int.reduceLE,Int.reduceLT,Int.reduceNeg,Int.reduceToNat]
 ·have c1:(op = 1) = False:=by simp [h1]
  by_cases h2:op = 2
  ·subst h2
   simp -implicitDefEqProofs only [push_cast,Nat.reduceAdd,Nat.reduceSub,Nat.reduceMul,Nat.reduceLT,Nat.reduceLeDiff,Nat.reduceEqDiff,Nat.reduceBEq,reduceCtorEq,reduceIte,Int.reduceLE,Int.reduceLT,Int.reduceNeg,Int.reduceToNat,Pl.op,Int.reduceEq]
   refine callq (HashK_ok _ _) ?_
   simp -implicitDefEqProofs only [push_cast,Nat.reduceAdd,Nat.reduceSub,Nat.reduceMul,Nat.reduceLT,Nat.reduceLeDiff,Nat.reduceEqDiff,Nat.reduceBEq,reduceCtorEq,reduceIte,Int.reduceLE,Int.reduceLT,Int.reduceNeg,Int.reduceToNat]
  ·have c2:(op = 2) = False:=by simp [h2]
   simp -implicitDefEqProofs only [push_cast,Nat.reduceAdd,Nat.reduceSub,Nat.reduceMul,Nat.reduceLT,Nat.reduceLeDiff,Nat.reduceEqDiff,Nat.reduceBEq,reduceCtorEq,reduceIte,Int.reduceLE,Int.reduceLT,Int.reduceNeg,Int.reduceToNat,Pl.op,c1,c2]
   refine callq (MergeK_ok _ _) ?_
   simp -implicitDefEqProofs only [push_cast,Nat.reduceAdd,Nat.reduceSub,Nat.reduceMul,Nat.reduceLT,Nat.reduceLeDiff,Nat.reduceEqDiff,Nat.reduceBEq,reduceCtorEq,reduceIte,Int.reduceLE,Int.reduceLT,Int.reduceNeg,Int.reduceToNat]
end
section
def encCh (x:Ch):List AV:=.int x.1 :: encPl x.2
theorem encCh_len (x:Ch):(encCh x).length = 6:=by rw [encCh,List.length_cons,encPl_len]
theorem encCh_take (x:Ch):(encCh x).take 6 = encCh x:=by rw [← encCh_len x,List.take_length]
theorem encCh_drop (x:Ch):(encCh x).drop 6 = []:=List.drop_of_length_le (by rw [encCh_len]; exact Nat.le_refl _)
theorem encCh_one (x:Ch):(encCh x).all AV.one = true:=by rw [encCh,List.all_cons,encPl_one]; rfl
theorem encCh_pure (x:Ch):PureL (encCh x):=by
 rw [encCh]
 simp only [PureL,Pure,true_and]
 exact encPl_pure x.2
theorem encChs_pure (l:List Ch):PureLL (l.map encCh):=by
 rw [pureLL_iff]
 simp only [List.mem_map]
 rintro _ ⟨x,_,rfl⟩
 exact encCh_pure x
theorem encChs_get (l:List Ch) (i:Nat) (h:i < l.length):(l.map encCh).getD i [] = encCh l[i]:=getD_map encCh l [] i h
theorem encChs_all6 (l:List Ch):∀ e ∈ l.map encCh,e.length = 6:=by
 simp only [List.mem_map]
 rintro _ ⟨x,_,rfl⟩
 exact encCh_len x
attribute [local push_cast] encPl_mk encPl_take encPl_len encPl_one encPls_pure encPl_pure encT_pure encT_len encT_one encT_take encCh_take encCh_drop encCh_len encCh_one encCh_pure encChs_pure
theorem best2_ok (x:Ch):Quiet Go.Proofs.Tryz.prog 148 [.agg (encCh x)] (.int x.1):=by
 refine quiet_of (rs:=#[.tmp 2]) Go.Proofs.Tryz.func148 rfl rfl rfl mixed rfl rfl fun H hs=>?_
 simp -implicitDefEqProofs only [push_cast,Nat.reduceAdd,Nat.reduceSub,Nat.reduceMul,Nat.reduceLT,Nat.reduceLeDiff,Nat.reduceEqDiff,Nat.reduceBEq,reduceCtorEq,reduceIte,Int.reduceLE,Int.reduceLT,Int.reduceNeg,Int.reduceToNat,encCh]
theorem leastC_snoc (l:List Ch) (i:Nat) (h:i < l.length):leastC (l.take (i + 1)) = if i = 0 then l[i] else if l[i].1 < (leastC (l.take i)).1 then l[i] else leastC (l.take i):=by
 rw [List.take_succ_eq_append_getElem h]
 match i,l,h with
 | 0,x :: l,_=>rfl
 | i + 1,x :: l,h =>
  rw [if_neg (by omega),List.take_succ_cons,List.cons_append,leastC,leastC,List.foldl_append]
  rfl
set_option maxHeartbeats 4000000 in
theorem least_ok (l:List Ch) (hl:l.length ≤ 1000000):Quiet Go.Proofs.Tryz.prog 147 [.sl (l.map encCh), .clo (.func 148) [] []] (.tup [.agg (encCh (leastC l)), .bool (decide (0 < l.length))]):=by
 refine quiet_of (rs:=#[.cell 4 104, .tmp 5]) Go.Proofs.Tryz.func147 rfl rfl rfl mixed rfl rfl fun H hs=>?_
 simp -implicitDefEqProofs only [push_cast,Nat.reduceAdd,Nat.reduceSub,Nat.reduceMul,Nat.reduceLT,Nat.reduceLeDiff,Nat.reduceEqDiff,Nat.reduceBEq,reduceCtorEq,reduceIte,Int.reduceLE,Int.reduceLT,Int.reduceNeg,Int.reduceToNat]
 refine loop_at hs (σ:=Nat) (fun i=>i ≤ l.length) (fun i=>l.length - i)
  (fun i=>[(11, .int i),(10, .int l.length),(9, .sl (l.map encCh)),(0, .sl (l.map encCh)),(1, .clo (.func 148) [] []),(4, .ptr (H.nxt + 0) 6 0 0),(6, .ptr (H.nxt + 1) 6 0 0)])
  (fun i=>[some (.cells 6 [encCh (0,plO)] 0),some (.cells 6 [encCh (leastC (l.take i))] 0)]) [some 0,some 1] 0 (by omega) rfl ?_ ?_ ?_
 ·(try simp -implicitDefEqProofs only [push_cast,Nat.reduceAdd,Nat.reduceSub,Nat.reduceMul,Nat.reduceLT,Nat.reduceLeDiff,Nat.reduceEqDiff,Nat.reduceBEq,reduceCtorEq,reduceIte,Int.reduceLE,Int.reduceLT,Int.reduceNeg,Int.reduceToNat,encChs_pure])
 ·(try simp -implicitDefEqProofs only [push_cast,Nat.reduceAdd,Nat.reduceSub,Nat.reduceMul,Nat.reduceLT,Nat.reduceLeDiff,Nat.reduceEqDiff,Nat.reduceBEq,reduceCtorEq,reduceIte,Int.reduceLE,Int.reduceLT,Int.reduceNeg,Int.reduceToNat,List.take_zero,leastC,encCh,plO,List.map_nil])
 intro i hi2
 by_cases hi:i < l.length
 ·have hi':((i:Int) < (l.length:Int)) = True:=by simp; omega
  have hi0:(0 ≤ (i:Int)) = True:=by simp
  have hsn:=leastC_snoc l i hi
  have hb2:=best2_ok l[i]
  have hb3:=best2_ok (leastC (l.take i))
  have hget:=encChs_get l i hi
  generalize l[i] = x at hsn hb2 hget
  generalize leastC (l.take i) = out at hsn hb3 ⊢
  simp -implicitDefEqProofs only [push_cast,Nat.reduceAdd,Nat.reduceSub,Nat.reduceMul,Nat.reduceLT,Nat.reduceLeDiff,Nat.reduceEqDiff,Nat.reduceBEq,reduceCtorEq,reduceIte,Int.reduceLE,Int.reduceLT,Int.reduceNeg,Int.reduceToNat,hi',hi0,hget]
  refine areg_at 11 (by kernel_rfl) (by kernel_rfl) ?_
  by_cases h0:i = 0
  ·subst h0
   rw [if_pos rfl] at hsn
   simp -implicitDefEqProofs only [push_cast,Nat.reduceAdd,Nat.reduceSub,Nat.reduceMul,Nat.reduceLT,Nat.reduceLeDiff,Nat.reduceEqDiff,Nat.reduceBEq,reduceCtorEq,reduceIte,Int.reduceLE,Int.reduceLT,Int.reduceNeg,Int.reduceToNat,Int.reduceEq]
   refine gcallq (.int x.1) (fun h=>by cases h) ?_
   simp -implicitDefEqProofs only [push_cast,Nat.reduceAdd,Nat.reduceSub,Nat.reduceMul,Nat.reduceLT,Nat.reduceLeDiff,Nat.reduceEqDiff,Nat.reduceBEq,reduceCtorEq,reduceIte,Int.reduceLE,Int.reduceLT,Int.reduceNeg,Int.reduceToNat]
   refine gcallq (.int out.1) (fun h=>by cases h) ?_
   simp -implicitDefEqProofs only [push_cast,Nat.reduceAdd,Nat.reduceSub,Nat.reduceMul,Nat.reduceLT,Nat.reduceLeDiff,Nat.reduceEqDiff,Nat.reduceBEq,reduceCtorEq,reduceIte,Int.reduceLE,Int.reduceLT,Int.reduceNeg,Int.reduceToNat]
   rw [show IntKind.wrap .i64 ((0:Int) + 1) = 0 + 1 by decide]
   refine next_at [some 0,some 1] (0 + 1) (by omega) (by omega) rfl ?_ ?_
   ·(try simp -implicitDefEqProofs only [push_cast,Nat.reduceAdd,Nat.reduceSub,Nat.reduceMul,Nat.reduceLT,Nat.reduceLeDiff,Nat.reduceEqDiff,Nat.reduceBEq,reduceCtorEq,reduceIte,Int.reduceLE,Int.reduceLT,Int.reduceNeg,Int.reduceToNat,hsn])
   ·(try simp -implicitDefEqProofs only [push_cast,Nat.reduceAdd,Nat.reduceSub,Nat.reduceMul,Nat.reduceLT,Nat.reduceLeDiff,Nat.reduceEqDiff,Nat.reduceBEq,reduceCtorEq,reduceIte,Int.reduceLE,Int.reduceLT,Int.reduceNeg,Int.reduceToNat,hsn])
  ·have h0':((i:Int) = 0) = False:=by simp; omega
   rw [if_neg h0] at hsn
   simp -implicitDefEqProofs only [push_cast,Nat.reduceAdd,Nat.reduceSub,Nat.reduceMul,Nat.reduceLT,Nat.reduceLeDiff,Nat.reduceEqDiff,Nat.reduceBEq,reduceCtorEq,reduceIte,Int.reduceLE,Int.reduceLT,Int.reduceNeg,Int.reduceToNat,h0']
   refine gcallq (.int x.1) (fun _=>hb2) ?_
   simp -implicitDefEqProofs only [push_cast,Nat.reduceAdd,Nat.reduceSub,Nat.reduceMul,Nat.reduceLT,Nat.reduceLeDiff,Nat.reduceEqDiff,Nat.reduceBEq,reduceCtorEq,reduceIte,Int.reduceLE,Int.reduceLT,Int.reduceNeg,Int.reduceToNat]
   refine gcallq (.int out.1) (fun _=>hb3) ?_
   simp -implicitDefEqProofs only [push_cast,Nat.reduceAdd,Nat.reduceSub,Nat.reduceMul,Nat.reduceLT,Nat.reduceLeDiff,Nat.reduceEqDiff,Nat.reduceBEq,reduceCtorEq,reduceIte,Int.reduceLE,Int.reduceLT,Int.reduceNeg,Int.reduceToNat]
   refine ⟨fun h=>?_,fun h=>?_⟩
   ·rw [if_pos h] at hsn
    rw [wrap64 (n:=(i:Int) + 1) (by omega) (by omega)]
    refine next_at [some 0,some 1] (i + 1) (by omega) (by omega) rfl ?_ ?_
    ·(try simp -implicitDefEqProofs only [push_cast,Nat.reduceAdd,Nat.reduceSub,Nat.reduceMul,Nat.reduceLT,Nat.reduceLeDiff,Nat.reduceEqDiff,Nat.reduceBEq,reduceCtorEq,reduceIte,Int.reduceLE,Int.reduceLT,Int.reduceNeg,Int.reduceToNat,hsn])
    ·(try simp -implicitDefEqProofs only [push_cast,Nat.reduceAdd,Nat.reduceSub,Nat.reduceMul,Nat.reduceLT,Nat.reduceLeDiff,Nat.reduceEqDiff,Nat.reduceBEq,reduceCtorEq,reduceIte,Int.reduceLE,Int.reduceLT,Int.reduceNeg,Int.reduceToNat,hsn])
   ·rw [if_neg h] at hsn
    rw [wrap64 (n:=(i:Int) + 1) (by omega) (by omega)]
    refine next_at [some 0,some 1] (i + 1) (by omega) (by omega) rfl ?_ ?_
    ·(try simp -implicitDefEqProofs only [push_cast,Nat.reduceAdd,Nat.reduceSub,Nat.reduceMul,Nat.reduceLT,Nat.reduceLeDiff,Nat.reduceEqDiff,Nat.reduceBEq,reduceCtorEq,reduceIte,Int.reduceLE,Int.reduceLT,Int.reduceNeg,Int.reduceToNat,hsn])
    ·(try simp -implicitDefEqProofs only [push_cast,Nat.reduceAdd,Nat.reduceSub,Nat.reduceMul,Nat.reduceLT,Nat.reduceLeDiff,Nat.reduceEqDiff,Nat.reduceBEq,reduceCtorEq,reduceIte,Int.reduceLE,Int.reduceLT,Int.reduceNeg,Int.reduceToNat,hsn])
 ·have hi':((i:Int) < (l.length:Int)) = False:=by simp; omega
  rw [List.take_of_length_le (by omega)]
  simp -implicitDefEqProofs only [push_cast,Nat.reduceAdd,Nat.reduceSub,Nat.reduceMul,Nat.reduceLT,Nat.reduceLeDiff,Nat.reduceEqDiff,Nat.reduceBEq,reduceCtorEq,reduceIte,Int.reduceLE,Int.reduceLT,Int.reduceNeg,Int.reduceToNat,hi']
  rw [decide_eq_decide]
  omega
theorem putN_ok (n:Int) (p:Pl) (i:Nat) (H:AH) (hi:i < H.nxt) (ho:H.obj i = some (.cells 1 [[.nilS]] 0)) :
  ACalls Go.Proofs.Tryz.prog 144 [.int n, .agg (encPl p), .ptr i 1 0 0] H (fun r H'=>r = .tup [] ∧ H' = (H.set i (.cells 1 [[.rsl (H.nxt + 2) 6 0 1]] 0)).plus [some (.cells 5 [encPl p] 0),some (.cells 6 [encCh (n,p)] 0),some (.cells 6 [encCh (n,p)] 0)]):=by
 refine acalls_sc (rs:=#[]) Go.Proofs.Tryz.func144 rfl rfl rfl mixed rfl (Nat.le_of_ble_eq_true rfl) fun hs _=>?_
 have hob:∀ l,(H.plus l).obj i = some (.cells 1 [[.nilS]] 0):=fun l=>by rw [plus_low H l hi]; exact ho
 have hset:∀ l o,(H.plus l).set i o = (H.set i o).plus l:=fun l o=>plus_setlow H l hi o
 simp -implicitDefEqProofs only [push_cast,Nat.reduceAdd,Nat.reduceSub,Nat.reduceMul,Nat.reduceLT,Nat.reduceLeDiff,Nat.reduceEqDiff,Nat.reduceBEq,reduceCtorEq,reduceIte,Int.reduceLE,Int.reduceLT,Int.reduceNeg,Int.reduceToNat,hob,hset]
 exact retk trivial ⟨rfl,rfl⟩
theorem put_ok (s:List Ch) (hl:s.length ≤ 1000000) (n:Int) (p:Pl) (i j:Nat) (H:AH) (hij:j ≠ i) (hi:i < H.nxt) (hj:j < H.nxt) (ho:H.obj i = some (.cells 1 [[.rsl j 6 0 s.length]] 0)) (hr:H.obj j = some (.cells 6 (s.map encCh) 0)) :
  ACalls Go.Proofs.Tryz.prog 144 [.int n, .agg (encPl p), .ptr i 1 0 0] H (fun r H'=>r = .tup [] ∧ H' = ((H.del j).set i (.cells 1 [[.rsl (H.nxt + 2) 6 0 (s.length + 1)]] 0)).plus [some (.cells 5 [encPl p] 0),some (.cells 6 [encCh (n,p)] 0),some (.cells 6 ((s ++ [(n,p)]).map encCh) 0)]):=by
 refine acalls_sc (rs:=#[]) Go.Proofs.Tryz.func144 rfl rfl rfl mixed rfl (Nat.le_of_ble_eq_true rfl) fun hs _=>?_
 have hob:∀ l,(H.plus l).obj i = some (.cells 1 [[.rsl j 6 0 s.length]] 0):=fun l=>by rw [plus_low H l hi]; exact ho
 have hoj:∀ l,(H.plus l).obj j = some (.cells 6 (s.map encCh) 0):=fun l=>by rw [plus_low H l hj]; exact hr
 have hdel:∀ l,(H.plus l).del j = (H.del j).plus l:=fun l=>plus_dellow H l hj
 have hob2:∀ l,((H.del j).plus l).obj i = some (.cells 1 [[.rsl j 6 0 s.length]] 0):=fun l=>by
  rw [plus_low (H.del j) l hi]
  show (if i = j then none else H.obj i) = _
  rw [if_neg (Ne.symm hij),ho]
 have hset2:∀ l o,((H.del j).plus l).set i o = ((H.del j).set i o).plus l:=fun l o=>plus_setlow (H.del j) l hi o
 simp -implicitDefEqProofs only [push_cast,Nat.reduceAdd,Nat.reduceSub,Nat.reduceMul,Nat.reduceLT,Nat.reduceLeDiff,Nat.reduceEqDiff,Nat.reduceBEq,reduceCtorEq,reduceIte,Int.reduceLE,Int.reduceLT,Int.reduceNeg,Int.reduceToNat,hob,hoj,hdel,hob2,hset2,del_nxt]
 refine ⟨by omega,retk trivial ⟨rfl, ?_⟩⟩
 rw [List.map_append,List.take_of_length_le (by simp)]
 rfl
end
section
attribute [local push_cast] encPl_mk encPl_take encPl_len encPl_one encPls_pure encPl_pure encT_pure encT_len encT_one encT_take encCh_take encCh_drop encCh_len encCh_one encCh_pure encChs_pure
theorem quiet_told {P:Program} {f:FuncId} {args args':List AV} {r:AV} (hq:Quiet P f args' r) (ha:∀ H,SealL some H H args args'):Quiet P f args r:=fun H =>
 ACalls.mono (calla (d:=some 0) (C:=fun T' H'=>tget T' 0 = r ∧ H' = H) (T:=[]) args' hq (ha H) ⟨by simp [tput,tget],rfl⟩) fun r' H' hr=>⟨by simpa [tput,tget] using hr.1,hr.2⟩
theorem told {P:Program} {f:FuncId} {H:AH} {K:AV → AH → Prop} {args:List AV} (args':List AV) (ha:SealL some H H args args') (h:ACalls P f args' H K):ACalls P f args H K:=by
 refine ⟨h.1,fun ρ w xs hh hr=>?_⟩
 have hw:=weak_refl (hsc_of_holds hh)
 refine (h.2 _ w xs (holds_weak hh hw) (repL_seal hh hw _ _ _ ha hr)).mono ?_
 rintro e w' ⟨r,H2,ρ2,x,h1,h2,h3,h4,h5⟩
 exact ⟨r,H2,ρ2,x,h1,h2,h3,(ext_weak (Ext.refl hh) hw).trans h4,h5⟩
theorem plOk0' {op occ a b:Int}:Pl.Ok (.mk op occ a b []):=.mk (by decide) (by simp)
def BestAt (c:List Df) (q:Qy) (d:Nat) (t:Tr) (col:Int):Prop:=Quiet Go.Proofs.Tryz.prog 98 [.agg [.sl (c.map encD)], .agg (encQ q), .agg (encT t), .int col] (.agg (encCh (bestF c q d t col)))
set_option maxHeartbeats 8000000 in
theorem bestLeaf_ok (c:List Df) (hcl:c.length ≤ 1000000) (q:Qy) (hq:q.Ok) (d:Nat) (o:Int):BestAt c q (d + 1) (.leaf o) (-1):=by
 have hC:=CostPl_ok c hcl q hq (.mk 0 o 0 0 []) plOk0'
 have hv:bestF c q (d + 1) (.leaf o) (-1) = (costP c q (.mk 0 o 0 0 []), .mk 0 o 0 0 []):=by rw [bestF,if_pos rfl]; rfl
 have hL:=least_ok [(costP c q (.mk 0 o 0 0 []),Pl.mk 0 o 0 0 [])] (by simp)
 unfold BestAt
 rw [hv,Tr.leaf,encT_mk,List.map_nil]
 generalize costP c q (.mk 0 o 0 0 []) = n at hC hL ⊢
 rw [encPl_mk,List.map_nil] at hC
 refine quiet_of (rs:=#[.cell 8 104]) Go.Proofs.Tryz.func98 rfl rfl rfl mixed rfl rfl fun H hs=>?_
 simp -implicitDefEqProofs only [push_cast,Nat.reduceAdd,Nat.reduceSub,Nat.reduceMul,Nat.reduceLT,Nat.reduceLeDiff,Nat.reduceEqDiff,Nat.reduceBEq,reduceCtorEq,reduceIte,Int.reduceLE,Int.reduceLT,Int.reduceNeg,Int.reduceToNat,encQ,Int.reduceEq,List.map_nil]
 refine areg_link 6 (by kernel_rfl) (by kernel_rfl) ?_
 simp -implicitDefEqProofs only [push_cast,Nat.reduceAdd,Nat.reduceSub,Nat.reduceMul,Nat.reduceLT,Nat.reduceLeDiff,Nat.reduceEqDiff,Nat.reduceBEq,reduceCtorEq,reduceIte,Int.reduceLE,Int.reduceLT,Int.reduceNeg,Int.reduceToNat,encQ,List.map_nil]
 refine ahdq (quiet_told hC fun H=>?_) ?_
 ·(try simp -implicitDefEqProofs only [push_cast,Nat.reduceAdd,Nat.reduceSub,Nat.reduceMul,Nat.reduceLT,Nat.reduceLeDiff,Nat.reduceEqDiff,Nat.reduceBEq,reduceCtorEq,reduceIte,Int.reduceLE,Int.reduceLT,Int.reduceNeg,Int.reduceToNat,encQ,encDs_pure,encEs_pure,encIs_pure])
 simp -implicitDefEqProofs only [push_cast,Nat.reduceAdd,Nat.reduceSub,Nat.reduceMul,Nat.reduceLT,Nat.reduceLeDiff,Nat.reduceEqDiff,Nat.reduceBEq,reduceCtorEq,reduceIte,Int.reduceLE,Int.reduceLT,Int.reduceNeg,Int.reduceToNat,encQ,List.map_nil]
 refine told [.int n, .agg (encPl (.mk 0 o 0 0 [])), .ptr (H.nxt + 4) 1 0 0] ?_ ?_
 ·(try simp -implicitDefEqProofs only [push_cast,Nat.reduceAdd,Nat.reduceSub,Nat.reduceMul,Nat.reduceLT,Nat.reduceLeDiff,Nat.reduceEqDiff,Nat.reduceBEq,reduceCtorEq,reduceIte,Int.reduceLE,Int.reduceLT,Int.reduceNeg,Int.reduceToNat,List.map_nil])
 refine (putN_ok n (.mk 0 o 0 0 []) (H.nxt + 4) _ (by simp [plus_nxt]) (by rw [plus_obj]; rfl)).mono ?_
 rintro r H2 ⟨rfl,rfl⟩
 rw [plus_set _ _ 4 _ (by simp),plus_plus]
 simp -implicitDefEqProofs only [push_cast,Nat.reduceAdd,Nat.reduceSub,Nat.reduceMul,Nat.reduceLT,Nat.reduceLeDiff,Nat.reduceEqDiff,Nat.reduceBEq,reduceCtorEq,reduceIte,Int.reduceLE,Int.reduceLT,Int.reduceNeg,Int.reduceToNat,encQ,Nat.add_assoc,Int.reduceEq,if_false,if_true,or_true,or_false,true_or,false_or,List.map_cons,List.map_nil,List.length_cons,List.length_nil,Int.reduceAdd,List.set_cons_zero,List.set_cons_succ,List.cons_append,List.nil_append]
 refine fzk H 8 1 [.sl ([(n,Pl.mk 0 o 0 0 [])].map encCh), .clo (.func 148) [] []] (by rfl) (by omega) (by simp) ?_ ?_
 ·(try simp -implicitDefEqProofs only [push_cast,Nat.reduceAdd,Nat.reduceSub,Nat.reduceMul,Nat.reduceLT,Nat.reduceLeDiff,Nat.reduceEqDiff,Nat.reduceBEq,reduceCtorEq,reduceIte,Int.reduceLE,Int.reduceLT,Int.reduceNeg,Int.reduceToNat,encCh,Int.reduceEq,if_false,if_true,or_true,or_false,true_or,false_or,List.map_cons,List.map_nil,List.length_cons,List.length_nil,Int.reduceAdd,List.set_cons_zero,List.set_cons_succ,List.cons_append,List.nil_append])
 refine callq hL ?_
 simp -implicitDefEqProofs only [push_cast,Nat.reduceAdd,Nat.reduceSub,Nat.reduceMul,Nat.reduceLT,Nat.reduceLeDiff,Nat.reduceEqDiff,Nat.reduceBEq,reduceCtorEq,reduceIte,Int.reduceLE,Int.reduceLT,Int.reduceNeg,Int.reduceToNat,encQ,Int.reduceEq,if_false,if_true,or_true,or_false,true_or,false_or,List.map_cons,List.map_nil,List.length_cons,List.length_nil,Int.reduceAdd,List.set_cons_zero,List.set_cons_succ,List.cons_append,List.nil_append,leastC,List.foldl_nil,encCh]
set_option maxHeartbeats 8000000 in
theorem bestLeafS_ok (c:List Df) (hcl:c.length ≤ 1000000) (q:Qy) (hq:q.Ok) (d:Nat) (o col:Int) (hcol:col ≠ -1) (hB:BestAt c q (d + 1) (.leaf o) (-1)):BestAt c q (d + 1) (.leaf o) col:=by
 have hto:(Tr.leaf o).Ok:=.mk (by simp) (by simp)
 have hS:=SetT_ok _ hto
 have hv:bestF c q (d + 1) (.leaf o) col = sortC c q (.leaf o) col (bestF c q (d + 1) (.leaf o) (-1)):=by
  rw [bestF,bestF,if_neg hcol,if_pos rfl]
  have e:candC c q (bestF c q d) (.leaf o) col = []:=by show (if col = -1 then _ else _) = _; rw [if_neg hcol]
  rw [e]; rfl
 have hL:=least_ok [sortC c q (.leaf o) col (bestF c q (d + 1) (.leaf o) (-1))] (by simp)
 have hc1:(col = -1) = False:=by simp [hcol]
 unfold BestAt at hB ⊢
 rw [hv]
 generalize bestF c q (d + 1) (.leaf o) (-1) = x at hB hL ⊢
 obtain ⟨n,p⟩:=x
 have hSo:=Sorted_ok c hcl q hq (Tr.leaf o).set n
 unfold sortC at hL ⊢
 generalize (Tr.leaf o).set = S at hS hSo hL ⊢
 generalize sortedC c q S n = m at hSo hL ⊢
 dsimp only at hL ⊢
 rw [Tr.leaf,encT_mk,List.map_nil] at hS hB ⊢
 refine quiet_of (rs:=#[.cell 8 104]) Go.Proofs.Tryz.func98 rfl rfl rfl mixed rfl rfl fun H hs=>?_
 simp -implicitDefEqProofs only [push_cast,Nat.reduceAdd,Nat.reduceSub,Nat.reduceMul,Nat.reduceLT,Nat.reduceLeDiff,Nat.reduceEqDiff,Nat.reduceBEq,reduceCtorEq,reduceIte,Int.reduceLE,Int.reduceLT,Int.reduceNeg,Int.reduceToNat,encQ,hc1,Int.reduceEq,if_false,if_true,or_true,or_false,true_or,false_or,List.map_cons,List.map_nil,List.length_cons,List.length_nil,Int.reduceAdd,List.set_cons_zero,List.set_cons_succ,List.cons_append,List.nil_append]
 refine callq hB ?_
 simp -implicitDefEqProofs only [push_cast,Nat.reduceAdd,Nat.reduceSub,Nat.reduceMul,Nat.reduceLT,Nat.reduceLeDiff,Nat.reduceEqDiff,Nat.reduceBEq,reduceCtorEq,reduceIte,Int.reduceLE,Int.reduceLT,Int.reduceNeg,Int.reduceToNat,encQ,hc1,encCh,Int.reduceEq,if_false,if_true,or_true,or_false,true_or,false_or,List.map_cons,List.map_nil,List.length_cons,List.length_nil,Int.reduceAdd,List.set_cons_zero,List.set_cons_succ,List.cons_append,List.nil_append]
 refine areg_linkim [139] 14 (by kernel_rfl) (by kernel_rfl) ?_
 simp -implicitDefEqProofs only [push_cast,Nat.reduceAdd,Nat.reduceSub,Nat.reduceMul,Nat.reduceLT,Nat.reduceLeDiff,Nat.reduceEqDiff,Nat.reduceBEq,reduceCtorEq,reduceIte,Int.reduceLE,Int.reduceLT,Int.reduceNeg,Int.reduceToNat,encQ,Int.reduceEq,if_false,if_true,or_true,or_false,true_or,false_or,List.map_cons,List.map_nil,List.length_cons,List.length_nil,Int.reduceAdd,List.set_cons_zero,List.set_cons_succ,List.cons_append,List.nil_append]
 refine ahdq hS ?_
 simp -implicitDefEqProofs only [push_cast,Nat.reduceAdd,Nat.reduceSub,Nat.reduceMul,Nat.reduceLT,Nat.reduceLeDiff,Nat.reduceEqDiff,Nat.reduceBEq,reduceCtorEq,reduceIte,Int.reduceLE,Int.reduceLT,Int.reduceNeg,Int.reduceToNat,encQ,Int.reduceEq,if_false,if_true,or_true,or_false,true_or,false_or,List.map_cons,List.map_nil,List.length_cons,List.length_nil,Int.reduceAdd,List.set_cons_zero,List.set_cons_succ,List.cons_append,List.nil_append]
 refine ahdq hSo ?_
 simp -implicitDefEqProofs only [push_cast,Nat.reduceAdd,Nat.reduceSub,Nat.reduceMul,Nat.reduceLT,Nat.reduceLeDiff,Nat.reduceEqDiff,Nat.reduceBEq,reduceCtorEq,reduceIte,Int.reduceLE,Int.reduceLT,Int.reduceNeg,Int.reduceToNat,encQ,Int.reduceEq,if_false,if_true,or_true,or_false,true_or,false_or,List.map_cons,List.map_nil,List.length_cons,List.length_nil,Int.reduceAdd,List.set_cons_zero,List.set_cons_succ,List.cons_append,List.nil_append]
 refine told [.int m, .agg (encPl (.mk 4 0 col 0 [p])), .ptr (H.nxt + 4) 1 0 0] ?_ ?_
 ·(try simp -implicitDefEqProofs only [push_cast,Nat.reduceAdd,Nat.reduceSub,Nat.reduceMul,Nat.reduceLT,Nat.reduceLeDiff,Nat.reduceEqDiff,Nat.reduceBEq,reduceCtorEq,reduceIte,Int.reduceLE,Int.reduceLT,Int.reduceNeg,Int.reduceToNat,Int.reduceEq,if_false,if_true,or_true,or_false,true_or,false_or,List.map_cons,List.map_nil,List.length_cons,List.length_nil,Int.reduceAdd,List.set_cons_zero,List.set_cons_succ,List.cons_append,List.nil_append])
 refine (putN_ok m (.mk 4 0 col 0 [p]) (H.nxt + 4) _ (by simp [plus_nxt]) (by rw [plus_obj]; rfl)).mono ?_
 rintro r H2 ⟨rfl,rfl⟩
 rw [plus_set _ _ 4 _ (by simp),plus_plus]
 simp -implicitDefEqProofs only [push_cast,Nat.reduceAdd,Nat.reduceSub,Nat.reduceMul,Nat.reduceLT,Nat.reduceLeDiff,Nat.reduceEqDiff,Nat.reduceBEq,reduceCtorEq,reduceIte,Int.reduceLE,Int.reduceLT,Int.reduceNeg,Int.reduceToNat,encQ,Nat.add_assoc,Int.reduceEq,if_false,if_true,or_true,or_false,true_or,false_or,List.map_cons,List.map_nil,List.length_cons,List.length_nil,Int.reduceAdd,List.set_cons_zero,List.set_cons_succ,List.cons_append,List.nil_append]
 refine fzk H 8 1 [.sl ([(m,Pl.mk 4 0 col 0 [p])].map encCh), .clo (.func 148) [] []] (by rfl) (by omega) (by simp) ?_ ?_
 ·(try simp -implicitDefEqProofs only [push_cast,Nat.reduceAdd,Nat.reduceSub,Nat.reduceMul,Nat.reduceLT,Nat.reduceLeDiff,Nat.reduceEqDiff,Nat.reduceBEq,reduceCtorEq,reduceIte,Int.reduceLE,Int.reduceLT,Int.reduceNeg,Int.reduceToNat,encCh,Int.reduceEq,if_false,if_true,or_true,or_false,true_or,false_or,List.map_cons,List.map_nil,List.length_cons,List.length_nil,Int.reduceAdd,List.set_cons_zero,List.set_cons_succ,List.cons_append,List.nil_append])
 refine callq hL ?_
 simp -implicitDefEqProofs only [push_cast,Nat.reduceAdd,Nat.reduceSub,Nat.reduceMul,Nat.reduceLT,Nat.reduceLeDiff,Nat.reduceEqDiff,Nat.reduceBEq,reduceCtorEq,reduceIte,Int.reduceLE,Int.reduceLT,Int.reduceNeg,Int.reduceToNat,encQ,Int.reduceEq,if_false,if_true,or_true,or_false,true_or,false_or,List.map_cons,List.map_nil,List.length_cons,List.length_nil,Int.reduceAdd,List.set_cons_zero,List.set_cons_succ,List.cons_append,List.nil_append,leastC,List.foldl_nil,encCh]
end
end Go.Sim.Tryz
