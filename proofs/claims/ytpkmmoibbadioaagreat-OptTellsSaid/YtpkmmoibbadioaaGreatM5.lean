/- What the row rests on, part 5. Conditions: none. -/
import Derived.Test.YtpkmmoibbadioaaGreatM4
set_option linter.unusedSimpArgs false
set_option linter.unusedVariables false
set_option maxRecDepth 100000
namespace Go.Sim.Tryz
open Go Go.Sim
attribute [local push_cast] aops_cons aops_nil aopG_none aopG_some aopP_eq aopE_eq aopC_eq aopE?_eq aopC?_eq aopB_eq aopB?_eq abr anilq gopP_eq gopL_eq ahead_cons ahead_nil ahdG_none ahdG_some ahdP_eq ahdN_eq ahdC_eq ahdN?_eq ahdS_eq ahdS?_eq astoreN ahdC?_eq ghdP_eq ghdC_eq ghdC?_eq ghdZ_f ghdZ_t ahdI_eq ahdI?_eq ghdN?_eq aim_nil aim_cons isIn_nil isIn_none isIn_cons aimm aheP_eq aheA_eq aheC_eq aheC?_eq aheI?_eq aheA?_eq gheP_eq gheC_eq gheC?_eq gheZ_eq aheG_none aheG_some aheff_cons aheff_nil aapp gro_rsl gro_lit gro_esl opt_some opt_none no_eq acondT_true acondT_false acondT_lit aw_skip aw_region aw_regionD aw_seq aw_cond aw_block aw_loop aw_exit aw_label aw_ret thn_normal thn_exit thn_ret inb_normal inb_exit inb_ret qret_ret qret_normal gcond apure aeff anew acallee ares aresT aresL aresC ares1 qfin_eq ev ofV evL gokL tget tput_some tput_none initT abin aint aun aload afaddr aiaddr afield aindex aextract apick pickv_lit Bool.or_false Bool.false_or Bool.or_true Bool.true_or imp_self aslice chunk roomB abound aconv abuild afill splice alen aminmax abuiltin anil apart Value.oneCell' astore aappend srcEs abuildSlice amakeSlice amapPut alookup aput afind mget keyV sameV_int Option.isSome_some Option.isSome_none cond_true cond_false asets isEq plus_obj plus_nxt plus_add plus_set plus_del IntKind.bits Option.map_some Option.map_none Option.bind_some Option.bind_none Option.join_some Option.getD_some Option.getD_none Option.toList List.getElem?_toArray List.getElem?_cons_zero List.getElem?_cons_succ List.getElem?_nil List.length_cons List.length_nil List.length_map List.head?_cons List.cons_append List.nil_append List.append_nil List.map_cons List.map_nil List.getD_cons_zero List.getD_cons_succ List.replicate_succ List.replicate_zero List.set_cons_zero List.set_cons_succ List.take_succ_cons List.take_zero List.drop_succ_cons List.drop_zero List.all_cons List.all_nil Nat.zero_add if_true if_false true_and and_true false_and and_false true_implies implies_true forall_const Bool.and_true Bool.true_and Bool.false_and Bool.and_false Bool.true_beq Bool.false_beq Bool.not_not beq_tt beq_ff Int.toNat_natCast decide_true decide_false Bool.not_true Bool.not_false Bool.true_eq_false Bool.false_eq_true false_implies exists_prop eq_self bne_self_eq_false beq_self_eq_true decide_eq_true_eq decide_eq_false_iff_not Bool.not_eq_true' Bool.not_eq_false' AV.int AV.bool AV.nilS ne_eq not_false_eq_true not_true_eq_false exists_eq_left exists_eq_left' Nat.lt_irrefl core_lit grd_lit acells_lit one_lit core_agg grd_agg acells_agg one_agg core_tup grd_tup acells_tup one_tup core_sl grd_sl acells_sl one_sl core_esl grd_esl acells_esl one_esl core_rsl grd_rsl acells_rsl one_rsl core_ptr grd_ptr acells_ptr one_ptr core_iptr grd_iptr acells_iptr one_iptr core_clo grd_clo acells_clo one_clo core_mp grd_mp acells_mp one_mp core_any grd_any acells_any one_any core_gv grd_gv fit_agg fit_lit fit_sl fit_esl fit_rsl fit_ptr fit_iptr fit_clo fit_mp retq_ret retq_normal set_nxt set_set plus_obj_set plus_set_set app_get0 app_get app_set0 app_set List.append_assoc List.length_append List.length_set Nat.lt_add_one Nat.add_lt_add_iff_right Nat.lt_add_right_iff_pos Nat.add_lt_add_iff_left List.mem_cons List.not_mem_nil or_false forall_eq forall_eq_or_imp lt_s0 lt_s1 lt_s2 lt_s3 lt_s4 lt_s5 lt_s6 lt_s7 lt_s8 pickv_t pickv_f or_nand or_nand2 imp_and_l SealT SealOs sealO_cells sl_lit sl_any sl_agg sl_tup sl_sl sl_rsl slO sl_esl sl_nil sl_eslesl sl_eslnil sl_rslrsl sl_eslrsl sl_nilrsl sl_ptr sl_iptr sl_ptri slP sl_clo sl_mp sl_gv sll_nil sll_cons slll_nil slll_cons shut_eq shutO Option.join_none Fn.func.injEq and_self sealL_self sealLL_self seal_self PureL PureLL Pure Nat.le_refl Nat.zero_le AV.lit.injEq Value.int.injEq Value.bool.injEq false_or or_true true_or Int.natCast_zero Int.ofNat_zero Int.cast_ofNat_Int Int.natCast_add Int.natCast_one Option.some.injEq piL_is sop_nil sop_cons sop_none sop_some sopO_some sop_new shut_pi shutL_nil shutL_cons exQ_exit exQ_ret exQ_normal Go.Sim.Tryz.ty_load1 Go.Sim.Tryz.ty_zero1 Go.Sim.Tryz.ty_load2 Go.Sim.Tryz.ty_zero2 Go.Sim.Tryz.ty_und2 Go.Sim.Tryz.ty_load3 Go.Sim.Tryz.ty_zero3 Go.Sim.Tryz.ty_und3 Go.Sim.Tryz.ty_load4 Go.Sim.Tryz.ty_zero4 Go.Sim.Tryz.ty_und4 Go.Sim.Tryz.ty_load5 Go.Sim.Tryz.ty_zero5 Go.Sim.Tryz.ty_und5 Go.Sim.Tryz.ty_load9 Go.Sim.Tryz.ty_zero9 Go.Sim.Tryz.ty_und9 Go.Sim.Tryz.ty_load22 Go.Sim.Tryz.ty_zero22 Go.Sim.Tryz.ty_el22 Go.Sim.Tryz.ty_zeroE22 Go.Sim.Tryz.ty_load24 Go.Sim.Tryz.ty_zero24 Go.Sim.Tryz.ty_fld24_0 Go.Sim.Tryz.ty_part24_0 Go.Sim.Tryz.ty_struct24 Go.Sim.Tryz.ty_load25 Go.Sim.Tryz.ty_zero25 Go.Sim.Tryz.ty_el25 Go.Sim.Tryz.ty_zeroE25 Go.Sim.Tryz.ty_load26 Go.Sim.Tryz.ty_zero26 Go.Sim.Tryz.ty_el26 Go.Sim.Tryz.ty_zeroE26 Go.Sim.Tryz.ty_load28 Go.Sim.Tryz.ty_zero28 Go.Sim.Tryz.ty_fld28_0 Go.Sim.Tryz.ty_part28_0 Go.Sim.Tryz.ty_fld28_1 Go.Sim.Tryz.ty_part28_1 Go.Sim.Tryz.ty_fld28_2 Go.Sim.Tryz.ty_part28_2 Go.Sim.Tryz.ty_fld28_3 Go.Sim.Tryz.ty_part28_3 Go.Sim.Tryz.ty_fld28_4 Go.Sim.Tryz.ty_part28_4 Go.Sim.Tryz.ty_fld28_5 Go.Sim.Tryz.ty_part28_5 Go.Sim.Tryz.ty_struct28 Go.Sim.Tryz.ty_load29 Go.Sim.Tryz.ty_zero29 Go.Sim.Tryz.ty_arr29 Go.Sim.Tryz.ty_part29_0 Go.Sim.Tryz.ty_part29_1 Go.Sim.Tryz.ty_struct29 Go.Sim.Tryz.ty_load30 Go.Sim.Tryz.ty_zero30 Go.Sim.Tryz.ty_el30 Go.Sim.Tryz.ty_zeroE30 Go.Sim.Tryz.ty_load32 Go.Sim.Tryz.ty_zero32 Go.Sim.Tryz.ty_fld32_0 Go.Sim.Tryz.ty_part32_0 Go.Sim.Tryz.ty_fld32_1 Go.Sim.Tryz.ty_part32_1 Go.Sim.Tryz.ty_fld32_2 Go.Sim.Tryz.ty_part32_2 Go.Sim.Tryz.ty_fld32_3 Go.Sim.Tryz.ty_part32_3 Go.Sim.Tryz.ty_struct32 Go.Sim.Tryz.ty_load34 Go.Sim.Tryz.ty_zero34 Go.Sim.Tryz.ty_fld34_0 Go.Sim.Tryz.ty_part34_0 Go.Sim.Tryz.ty_fld34_1 Go.Sim.Tryz.ty_part34_1 Go.Sim.Tryz.ty_fld34_2 Go.Sim.Tryz.ty_part34_2 Go.Sim.Tryz.ty_struct34 Go.Sim.Tryz.ty_load41 Go.Sim.Tryz.ty_zero41 Go.Sim.Tryz.ty_el41 Go.Sim.Tryz.ty_zeroE41 Go.Sim.Tryz.ty_load47 Go.Sim.Tryz.ty_zero47 Go.Sim.Tryz.ty_el47 Go.Sim.Tryz.ty_zeroE47 Go.Sim.Tryz.ty_load52 Go.Sim.Tryz.ty_zero52 Go.Sim.Tryz.ty_fld52_0 Go.Sim.Tryz.ty_part52_0 Go.Sim.Tryz.ty_fld52_1 Go.Sim.Tryz.ty_part52_1 Go.Sim.Tryz.ty_struct52 Go.Sim.Tryz.ty_load58 Go.Sim.Tryz.ty_zero58 Go.Sim.Tryz.ty_fld58_0 Go.Sim.Tryz.ty_part58_0 Go.Sim.Tryz.ty_fld58_1 Go.Sim.Tryz.ty_part58_1 Go.Sim.Tryz.ty_struct58 Go.Sim.Tryz.ty_load60 Go.Sim.Tryz.ty_zero60 Go.Sim.Tryz.ty_fld60_0 Go.Sim.Tryz.ty_part60_0 Go.Sim.Tryz.ty_fld60_1 Go.Sim.Tryz.ty_part60_1 Go.Sim.Tryz.ty_struct60 Go.Sim.Tryz.ty_load62 Go.Sim.Tryz.ty_zero62 Go.Sim.Tryz.ty_fld62_0 Go.Sim.Tryz.ty_part62_0 Go.Sim.Tryz.ty_fld62_1 Go.Sim.Tryz.ty_part62_1 Go.Sim.Tryz.ty_fld62_2 Go.Sim.Tryz.ty_part62_2 Go.Sim.Tryz.ty_fld62_3 Go.Sim.Tryz.ty_part62_3 Go.Sim.Tryz.ty_struct62 Go.Sim.Tryz.ty_load73 Go.Sim.Tryz.ty_zero73 Go.Sim.Tryz.ty_el73 Go.Sim.Tryz.ty_zeroE73 Go.Sim.Tryz.ty_load75 Go.Sim.Tryz.ty_zero75 Go.Sim.Tryz.ty_fld75_0 Go.Sim.Tryz.ty_part75_0 Go.Sim.Tryz.ty_struct75 Go.Sim.Tryz.ty_load79 Go.Sim.Tryz.ty_zero79 Go.Sim.Tryz.ty_load80 Go.Sim.Tryz.ty_zero80 Go.Sim.Tryz.ty_el80 Go.Sim.Tryz.ty_zeroE80 Go.Sim.Tryz.ty_load82 Go.Sim.Tryz.ty_zero82 Go.Sim.Tryz.ty_fld82_0 Go.Sim.Tryz.ty_part82_0 Go.Sim.Tryz.ty_fld82_1 Go.Sim.Tryz.ty_part82_1 Go.Sim.Tryz.ty_fld82_2 Go.Sim.Tryz.ty_part82_2 Go.Sim.Tryz.ty_struct82 Go.Sim.Tryz.ty_load87 Go.Sim.Tryz.ty_zero87 Go.Sim.Tryz.ty_fld87_0 Go.Sim.Tryz.ty_part87_0 Go.Sim.Tryz.ty_fld87_1 Go.Sim.Tryz.ty_part87_1 Go.Sim.Tryz.ty_struct87 Go.Sim.Tryz.ty_load90 Go.Sim.Tryz.ty_zero90 Go.Sim.Tryz.ty_arr90 Go.Sim.Tryz.ty_part90_0 Go.Sim.Tryz.ty_part90_1 Go.Sim.Tryz.ty_struct90 Go.Sim.Tryz.ty_load92 Go.Sim.Tryz.ty_zero92 Go.Sim.Tryz.ty_load103 Go.Sim.Tryz.ty_zero103 Go.Sim.Tryz.ty_fld103_0 Go.Sim.Tryz.ty_part103_0 Go.Sim.Tryz.ty_fld103_1 Go.Sim.Tryz.ty_part103_1 Go.Sim.Tryz.ty_struct103 Go.Sim.Tryz.ty_load107 Go.Sim.Tryz.ty_zero107 Go.Sim.Tryz.ty_und107 Go.Sim.Tryz.ty_load110 Go.Sim.Tryz.ty_zero110 Go.Sim.Tryz.ty_und110 Go.Sim.Tryz.ty_load116 Go.Sim.Tryz.ty_zero116 Go.Sim.Tryz.ty_fld116_0 Go.Sim.Tryz.ty_part116_0 Go.Sim.Tryz.ty_struct116 Go.Sim.Tryz.ty_load117 Go.Sim.Tryz.ty_zero117 Go.Sim.Tryz.ty_load118 Go.Sim.Tryz.ty_zero118 Go.Sim.Tryz.ty_el118 Go.Sim.Tryz.ty_zeroE118 Go.Sim.Tryz.ty_load119 Go.Sim.Tryz.ty_zero119 Go.Sim.Tryz.ty_el119 Go.Sim.Tryz.ty_zeroE119 Go.Sim.Tryz.ty_load120 Go.Sim.Tryz.ty_zero120 Go.Sim.Tryz.ty_load131 Go.Sim.Tryz.ty_zero131 Go.Sim.Tryz.ty_load137 Go.Sim.Tryz.ty_zero137 Go.Sim.Tryz.ty_el137 Go.Sim.Tryz.ty_zeroE137 Go.Sim.Tryz.ty_load144 Go.Sim.Tryz.ty_zero144 Go.Sim.Tryz.ty_load147 Go.Sim.Tryz.ty_zero147 Go.Sim.Tryz.ty_und147 Go.Sim.Tryz.ty_load151 Go.Sim.Tryz.ty_zero151 Go.Sim.Tryz.ty_el151 Go.Sim.Tryz.ty_zeroE151 Go.Sim.Tryz.ty_load154 Go.Sim.Tryz.ty_zero154 Go.Sim.Tryz.ty_fld154_0 Go.Sim.Tryz.ty_part154_0 Go.Sim.Tryz.ty_struct154 Go.Sim.Tryz.ty_load164 Go.Sim.Tryz.ty_zero164 Go.Sim.Tryz.ty_load168 Go.Sim.Tryz.ty_zero168 Go.Sim.Tryz.ty_und168 Go.Sim.Tryz.ty_vzero154 Go.Sim.Tryz.ty_load171 Go.Sim.Tryz.ty_zero171 Go.Sim.Tryz.ty_fld171_0 Go.Sim.Tryz.ty_part171_0 Go.Sim.Tryz.ty_fld171_1 Go.Sim.Tryz.ty_part171_1 Go.Sim.Tryz.ty_fld171_2 Go.Sim.Tryz.ty_part171_2 Go.Sim.Tryz.ty_struct171 Go.Sim.Tryz.ty_load173 Go.Sim.Tryz.ty_zero173 Go.Sim.Tryz.ty_load175 Go.Sim.Tryz.ty_zero175 Go.Sim.Tryz.ty_und175 Go.Sim.Tryz.ty_load182 Go.Sim.Tryz.ty_zero182 Go.Sim.Tryz.ty_und182 Go.Sim.Tryz.ty_load185 Go.Sim.Tryz.ty_zero185 Go.Sim.Tryz.ty_load188 Go.Sim.Tryz.ty_zero188 Go.Sim.Tryz.ty_und188 Go.Sim.Tryz.ty_load192 Go.Sim.Tryz.ty_zero192 Go.Sim.Tryz.ty_load195 Go.Sim.Tryz.ty_zero195
section
attribute [local push_cast] encE_mk encE_take encE_len encV encE_one encEs_pure encE_pure
theorem idx_neg (l:List Int) (x:Int):decide (idx (fun c=>decide (x = c)) l < 0) = !l.contains x:=by
 have h:=idx_cases (fun c=>decide (x = c)) l
 have h2:(0 ≤ idx (fun c=>decide (x = c)) l) ↔ l.any (fun c=>decide (x = c)) = true:=by
  unfold idx
  split
  ·rename_i h
   simp [h]
  ·rename_i h
   simp [h]
 have h3:l.any (fun c=>decide (x = c)) = l.contains x:=by
  rw [Bool.eq_iff_iff,List.any_eq_true,List.contains_iff_mem]
  constructor
  ·rintro ⟨y,hy,h⟩
   rw [decide_eq_true_eq] at h
   rw [h]; exact hy
  ·exact fun h=>⟨x,h,decide_eq_true rfl⟩
 rw [h3] at h2
 cases hc:l.contains x
 ·rw [hc] at h2
  have:¬ 0 ≤ idx (fun c=>decide (x = c)) l:=fun h=>by simpa using h2.1 h
  simp; omega
 ·rw [hc] at h2
  have:=h2.2 rfl
  simp; omega
def newR (x y l:List Int):List Int:=l.filter fun i=>!x.contains i && !y.contains i
theorem newR_yes (x y l:List Int) (i:Nat) (h:i < l.length) (hp:(!x.contains l[i] && !y.contains l[i]) = true):newR x y (l.take (i + 1)) = newR x y (l.take i) ++ [l[i]]:=by
 rw [newR,List.take_succ_eq_append_getElem h,List.filter_append,List.filter_cons,if_pos hp]
 rfl
theorem newR_no (x y l:List Int) (i:Nat) (h:i < l.length) (hp:(!x.contains l[i] && !y.contains l[i]) = false):newR x y (l.take (i + 1)) = newR x y (l.take i):=by
 rw [newR,List.take_succ_eq_append_getElem h,List.filter_append,List.filter_cons,if_neg (by rw [hp]; decide),List.filter_nil,List.append_nil]
 rfl
theorem newR_nil (x y:List Int):newR x y [] = []:=rfl
theorem NewR_ok (q:Qy) (hq:q.Ok) (a b:Int):Quiet Go.Proofs.Tryz.prog 166 [.agg (encQ q), .int a, .int b] (.sl ((q.new a b).map encI)):=by
 have ha:=OwnR_ok q hq a
 have hb:=OwnR_ok q hq b
 have hab:=OwnR_ok q hq (bor .i64 a b)
 have hP:=hq.1
 rw [← new_R]
 have hll:∀ s,(q.own s).length ≤ 1000000:=fun s=>Nat.le_trans (idxF_lt _ _) hP
 have h1:=hll a
 have h2:=hll b
 have h3:=hll (bor .i64 a b)
 generalize q.own a = x at ha h1 ⊢
 generalize q.own b = y at hb h2 ⊢
 generalize q.own (bor .i64 a b) = l at hab h3 ⊢
 change Quiet _ _ _ (.sl ((newR x y l).map encI))
 simp only [encQ] at ha hb hab
 refine quiet_of (rs:=#[.tmp 6]) Go.Proofs.Tryz.func166 rfl rfl rfl mixed rfl rfl fun H hs=>?_
 push_cast -implicitDefEqProofs [eq_self,iff_self,encQ]
 refine callq hab ?_
 push_cast -implicitDefEqProofs [eq_self,iff_self]
 refine callq ha ?_
 push_cast -implicitDefEqProofs [eq_self,iff_self]
 refine callq hb ?_
 push_cast -implicitDefEqProofs [eq_self,iff_self]
 refine loop_at hs (σ:=Nat) (fun i=>i ≤ l.length) (fun i=>l.length - i)
  (fun i=>[(11, .int i),(8, .sl (l.map encI)),(9, .sl (x.map encI)),(10, .sl (y.map encI)),(7, .rsl (H.nxt + 0) 1 0 (newR x y (l.take i)).length)]) (fun i=>[some (.cells 1 (rowI (newR x y (l.take i))) 0)]) [none] 0 (by omega) rfl ?_ ?_ ?_
 ·(try push_cast -implicitDefEqProofs [eq_self,iff_self,newR_nil,rowI_nil,List.take_zero,encIs_pure])
 ·(try push_cast -implicitDefEqProofs [eq_self,iff_self,newR_nil,rowI_nil,List.take_zero,encIs_pure])
 intro i hi2
 have hlen:(newR x y (l.take i)).length ≤ 1000000:=Nat.le_trans (List.length_filter_le _ _) (by rw [List.length_take]; omega)
 by_cases hi:i < l.length
 ·have hi':((i:Int) < (l.length:Int)) = True:=by simp; omega
  have hi0:(0 ≤ (i:Int)) = True:=by simp
  push_cast -implicitDefEqProofs [eq_self,iff_self,hi',hi0,encIs_get l i hi,encI]
  refine callq (Place_ok x h1 _) ?_
  push_cast -implicitDefEqProofs [eq_self,iff_self,idx_neg,hi',hi0,encIs_get l i hi,encI]
  refine gcallq' (.int (idx (fun c=>decide (l[i] = c)) y)) (fun h=>by simpa using h) (fun _=>Place_ok y h2 _) ?_
  push_cast -implicitDefEqProofs [eq_self,iff_self,idx_neg,hi',hi0,encIs_get l i hi,encI]
  refine ⟨fun h=>⟨by omega, ?_⟩,fun h=>?_⟩
  ·rw [wrap64 (n:=(i:Int) + 1) (by omega) (by omega)]
   refine next_at [some 2] (i + 1) (by omega) (by omega) rfl ?_ ?_
   ·(try push_cast -implicitDefEqProofs [eq_self,iff_self,newR_yes x y l i hi h,encIs_pure])
   ·(try push_cast -implicitDefEqProofs [eq_self,iff_self,newR_yes x y l i hi h,take_rowI _ _ (Nat.le_refl _),snocI,rowI_pure,rowI_one])
  ·rw [wrap64 (n:=(i:Int) + 1) (by omega) (by omega)]
   refine next_at [some 0] (i + 1) (by omega) (by omega) rfl ?_ ?_
   ·(try push_cast -implicitDefEqProofs [eq_self,iff_self,newR_no x y l i hi h,encIs_pure])
   ·(try push_cast -implicitDefEqProofs [eq_self,iff_self,newR_no x y l i hi h,rowI_pure,rowI_one])
 ·have hi':((i:Int) < (l.length:Int)) = False:=by simp; omega
  have h5:l.take i = l:=List.take_of_length_le (by omega)
  push_cast -implicitDefEqProofs [eq_self,iff_self,hi',h5]
  (try push_cast -implicitDefEqProofs [eq_self,iff_self])
  rw [take_rowI _ _ (Nat.le_refl _)]
  exact sealLL_pure _ _ _ (encIs_pure _)
end
section
attribute [local push_cast] encE_mk encE_take encE_len encV encE_one encEs_pure encE_pure
theorem encDs_getN (c:List Df) (n:Nat) (h:n < c.length):(c.map encD).getD n [] = encD c[n]:=by
 rw [List.getD_eq_getElem?_getD,List.getElem?_map,List.getElem?_eq_getElem h]; rfl
theorem encDs_none (c:List Df) (n:Nat) (h:¬ n < c.length):(c.map encD).getD n [] = []:=by
 rw [List.getD_eq_getElem?_getD,List.getElem?_eq_none (by simp; omega)]; rfl
theorem column_ok (c:List Df) (hcl:c.length ≤ 1000000) (q:Qy) (hl:q.occ.length ≤ 1000000) (id:Int) (hid:In64 id):Quiet Go.Proofs.Tryz.prog 84 [.agg [.sl (c.map encD)], .agg (encQ q), .int id] (.bool (isCol c q id)):=by
 unfold In64 at hid
 refine quiet_of (rs:=#[.tmp 6]) Go.Proofs.Tryz.func84 rfl rfl rfl mixed rfl rfl fun H hs=>?_
 by_cases h0:0 ≤ id ∧ id ≤ 15
 ·obtain ⟨k,hk⟩:∃ k:Nat,id / 4 = k:=⟨(id / 4).toNat,by omega⟩
  have hq:IntKind.wrap .i64 (Int.tdiv id 4) = k:=by
   rw [Int.tdiv_eq_ediv_of_nonneg h0.1,wrap64 (by omega) (by omega),hk]
  have hm:Int.tmod id 4 = id % 4:=Int.tmod_eq_emod_of_nonneg h0.1
  have hk0:(0 ≤ (k:Int)) = True:=by simp
  by_cases hkl:k < q.occ.length
  ·have hk':((k:Int) < (q.occ.length:Int)) = True:=by simp; omega
   have hocc:q.occ.getD k (-1) = q.occ[k]:=by rw [List.getD_eq_getElem?_getD,List.getElem?_eq_getElem hkl]; rfl
   have hcond:(decide (id < 0) || decide (15 < id) || decide ((q.occ.length:Int) ≤ (k:Int))) = false:=by
    simp only [Bool.or_eq_false_iff,decide_eq_false_iff_not]; omega
   have his:isCol c q id = decide (id % 4 < tabCols c q.occ[k]):=by
    unfold isCol
    rw [decide_eq_true h0.1,decide_eq_true h0.2,hk,decide_eq_true (show (k:Int) < q.occ.length by omega),Int.toNat_natCast,hocc]
    rfl
   rw [his]
   by_cases ht:0 ≤ q.occ[k] ∧ q.occ[k] < c.length
   ·obtain ⟨t,htn⟩:∃ t:Nat,q.occ[k] = t:=⟨q.occ[k].toNat,by omega⟩
    have htl:t < c.length:=by omega
    have htab:tabCols c q.occ[k] = c[t].cols:=by
     rw [tabCols,if_pos ht,htn,Int.toNat_natCast,List.getD_eq_getElem?_getD,List.getElem?_eq_getElem htl]
     rfl
    rw [htab]
    have ht0:(0 ≤ (t:Int)) = True:=by simp
    have ht1:((t:Int) < (c.length:Int)) = True:=by simp; omega
    simp -implicitDefEqProofs only [push_cast,Nat.reduceAdd,Nat.reduceSub,Nat.reduceMul,Nat.reduceLT,Nat.reduceLeDiff,Nat.reduceEqDiff,Nat.reduceBEq,reduceCtorEq,reduceIte,Int.reduceLE,Int.reduceLT,Int.reduceNeg,Int.reduceToNat,encQ,hq,hm,hk0,hk',encIs_get q.occ k hkl,encI,htn,ht0,ht1,encDs_get c t htl,encD]
    refine ⟨fun _=>by omega,fun h=>?_,fun _=>by omega⟩
    rw [hcond] at h; cases h
   ·have hg:(decide (0 ≤ q.occ[k]) && decide (q.occ[k] < (c.length:Int))) = false:=by
     rw [Bool.eq_false_iff]
     intro h
     simp only [Bool.and_eq_true,decide_eq_true_eq] at h
     exact ht h
    have hno:decide (id % 4 < tabCols c q.occ[k]) = false:=by
     rw [tabCols,if_neg ht]; simp; omega
    rw [hno]
    by_cases hn:q.occ[k].toNat < c.length
    ·simp -implicitDefEqProofs only [push_cast,Nat.reduceAdd,Nat.reduceSub,Nat.reduceMul,Nat.reduceLT,Nat.reduceLeDiff,Nat.reduceEqDiff,Nat.reduceBEq,reduceCtorEq,reduceIte,Int.reduceLE,Int.reduceLT,Int.reduceNeg,Int.reduceToNat,encQ,hq,hm,hk0,hk',encIs_get q.occ k hkl,encI,hg,hcond,encDs_getN c _ hn,encD]
     exact ⟨fun _=>by omega,by omega⟩
    ·simp -implicitDefEqProofs only [push_cast,Nat.reduceAdd,Nat.reduceSub,Nat.reduceMul,Nat.reduceLT,Nat.reduceLeDiff,Nat.reduceEqDiff,Nat.reduceBEq,reduceCtorEq,reduceIte,Int.reduceLE,Int.reduceLT,Int.reduceNeg,Int.reduceToNat,encQ,hq,hm,hk0,hk',encIs_get q.occ k hkl,encI,hg,hcond,encDs_none c _ hn,List.getD_nil]
     refine ⟨fun _=>by omega,by omega,gskip ?_⟩
     simp -implicitDefEqProofs only [push_cast,Nat.reduceAdd,Nat.reduceSub,Nat.reduceMul,Nat.reduceLT,Nat.reduceLeDiff,Nat.reduceEqDiff,Nat.reduceBEq,reduceCtorEq,reduceIte,Int.reduceLE,Int.reduceLT,Int.reduceNeg,Int.reduceToNat]
  ·have hcond:(decide (id < 0) || decide (15 < id) || decide ((q.occ.length:Int) ≤ (k:Int))) = true:=by
    simp only [Bool.or_eq_true,decide_eq_true_eq]; omega
   have hno:isCol c q id = false:=by
    unfold isCol
    rw [hk,decide_eq_false (show ¬ (k:Int) < q.occ.length by omega)]
    simp
   simp -implicitDefEqProofs only [push_cast,Nat.reduceAdd,Nat.reduceSub,Nat.reduceMul,Nat.reduceLT,Nat.reduceLeDiff,Nat.reduceEqDiff,Nat.reduceBEq,reduceCtorEq,reduceIte,Int.reduceLE,Int.reduceLT,Int.reduceNeg,Int.reduceToNat,encQ,hq,hm,hk0,hcond]
   exact ⟨fun _=>by omega,hno.symm⟩
 ·have hcond:(decide (id < 0) || decide (15 < id)) = true:=by
   simp only [Bool.or_eq_true,decide_eq_true_eq]; omega
  have hno:isCol c q id = false:=by
   unfold isCol
   simp only [Bool.or_eq_true,decide_eq_true_eq] at hcond
   rcases hcond with h | h
   ·rw [decide_eq_false (show ¬ 0 ≤ id by omega)]; rfl
   ·rw [decide_eq_false (show ¬ id ≤ 15 by omega)]; simp
  simp -implicitDefEqProofs only [push_cast,Nat.reduceAdd,Nat.reduceSub,Nat.reduceMul,Nat.reduceLT,Nat.reduceLeDiff,Nat.reduceEqDiff,Nat.reduceBEq,reduceCtorEq,reduceIte,Int.reduceLE,Int.reduceLT,Int.reduceNeg,Int.reduceToNat,encQ,hcond]
  exact hno.symm
end
section
attribute [local push_cast] encE_mk encE_take encE_len encV encE_one encEs_pure encE_pure
def encP (p:Int × Int):List AV:=[.int p.1, .int p.2]
abbrev rowP (zs:List (Int × Int)):List (List AV):=zs.map encP
theorem rowP_nil:rowP [] = []:=rfl
theorem rowP_pure (l:List (Int × Int)):PureLL (rowP l):=by
 rw [pureLL_iff]
 simp only [rowP,List.mem_map]
 rintro _ ⟨x,_,rfl⟩
 simp [encP,PureL,Pure]
theorem rowP_one (l:List (Int × Int)):(∀ e ∈ rowP l,e.length = 2) = True:=by
 simp only [rowP,List.mem_map,eq_iff_iff,iff_true]
 rintro _ ⟨x,_,rfl⟩
 rfl
theorem take_rowP (l:List (Int × Int)) (n:Nat) (h:l.length ≤ n):List.take n (rowP l) = rowP l:=List.take_of_length_le (by simpa [rowP] using h)
theorem snocP (l:List (Int × Int)) (x y:Int):rowP l ++ [[.lit (.int .i64 x), .lit (.int .i64 y)]] = rowP (l ++ [(x,y)]):=by rw [rowP,rowP,List.map_append]; rfl
theorem encPs_get (l:List (Int × Int)) (i:Nat) (h:i < l.length):(l.map encP).getD i [] = encP l[i]:=getD_map encP l [] i h
theorem holds_col (s x:Int) (h0:0 ≤ x) (h1:x ≤ 15):holdsI s (ofBits (ofC [x])) = bitC s x:=by
 obtain ⟨k,hk⟩:∃ k:Nat,x / 4 = k:=⟨(x / 4).toNat,by omega⟩
 have hk4:k < 4:=by omega
 have hb:∀ i:Nat,i < 4 → bitI (ofBits (ofC [x])) i = decide (k = i):=fun i hi=>by
  rw [ofBits_bit _ i hi,ofC,List.any_cons,List.any_nil,Bool.or_false,hk,decide_eq_decide]; omega
 rw [bitC,hk,Int.toNat_natCast,Bool.eq_iff_iff,holdsI_iff]
 constructor
 ·intro h
  exact h k hk4 (by rw [hb k hk4]; simp)
 ·intro h i hi hx
  rw [hb i hi,decide_eq_true_eq] at hx
  exact hx ▸ h
theorem pairsF_take (a b:Int) (P:List Ex) (l:List Int) (i:Nat) (h:i < l.length):pairsF a b P (l.take (i + 1)) = pairsF a b P (l.take i) ++ pairOf a b (P.getD l[i].toNat exO):=by
 rw [List.take_succ_eq_append_getElem h,pairsF,pairsF,List.flatMap_append,List.flatMap_cons,List.flatMap_nil,List.append_nil]
theorem Pairs_ok (q:Qy) (hq:q.Ok) (a b:Int):Quiet Go.Proofs.Tryz.prog 135 [.agg (encQ q), .int a, .int b] (.sl ((q.pairs a b).map encP)):=by
 have hn:=New_ok q hq a b
 have hnl:(q.new a b).length ≤ 1000000:=Nat.le_trans (idxF_lt _ _) hq.1
 have hnm:∀ i ∈ q.new a b,0 ≤ i ∧ i < q.p.length:=fun i hi=>by rw [Qy.new,idxF_mem] at hi; omega
 rw [Qy.pairs]
 generalize q.new a b = l at hn hnl hnm ⊢
 simp only [encQ] at hn
 refine quiet_of (rs:=#[.tmp 6]) Go.Proofs.Tryz.func135 rfl rfl rfl mixed rfl rfl fun H hs=>?_
 push_cast -implicitDefEqProofs [eq_self,iff_self,encQ]
 refine callq hn ?_
 push_cast -implicitDefEqProofs [eq_self,iff_self,encQ]
 refine loop_at hs (σ:=Nat) (fun i=>i ≤ l.length) (fun i=>l.length - i)
  (fun i=>[(20, .int i),(19, .int l.length),(18, .sl (l.map encI)),(3, .ptr (H.nxt + 0) 6 0 0),(1, .int a),(2, .int b),(7, .rsl (H.nxt + 1) 2 0 (pairsF a b q.p (l.take i)).length)]) (fun i=>[some (.cells 6 [encQ q] 0),some (.cells 2 (rowP (pairsF a b q.p (l.take i))) 0)]) [some 0,none] 0 (by omega) rfl ?_ ?_ ?_
 ·(try push_cast -implicitDefEqProofs [eq_self,iff_self,rowP_nil,List.take_zero,encEs_pure,encIs_pure,encQ,pairsF,List.flatMap_nil])
 ·(try push_cast -implicitDefEqProofs [eq_self,iff_self,rowP_nil,List.take_zero,encEs_pure,encIs_pure,encQ,pairsF,List.flatMap_nil])
 intro i hi2
 by_cases hi:i < l.length
 ·have hi':((i:Int) < (l.length:Int)) = True:=by simp; omega
  have hi0:(0 ≤ (i:Int)) = True:=by simp
  obtain ⟨h0,h1⟩:=hnm _ (List.getElem_mem hi)
  obtain ⟨k,hk⟩:∃ k:Nat,l[i] = k:=⟨l[i].toNat,by omega⟩
  have hkl:k < q.p.length:=by omega
  have hk0:(0 ≤ (k:Int)) = True:=by simp
  have hk':((k:Int) < (q.p.length:Int)) = True:=by simp; omega
  have hok:=hq.2.1 _ (List.getElem_mem hkl)
  have hge:q.p.getD l[i].toNat exO = q.p[k]:=by
   rw [hk,Int.toNat_natCast,List.getD_eq_getElem?_getD,List.getElem?_eq_getElem hkl]; rfl
  have hps:=pairsF_take a b q.p l i hi
  rw [hge] at hps
  push_cast -implicitDefEqProofs [eq_self,iff_self,hi',hi0,encIs_get l i hi,encI,hk,hk0,hk',encEs_get q.p k hkl,encQ]
  refine callq (Pair_ok _ hok.1) ?_
  push_cast -implicitDefEqProofs [eq_self,iff_self,encQ]
  have hpl:(pairsF a b q.p (l.take i)).length ≤ 1000000:=by
   refine Nat.le_trans (flat_len _ _ fun x _=>pairOf_len _ _ _) ?_
   rw [List.length_take]; omega
  refine ⟨fun his=>?_,fun his=>?_⟩
  ·have hp0:pairOf a b q.p[k] = []:=by rw [pairOf,if_neg (by simp [his])]
   rw [hp0,List.append_nil] at hps
   rw [wrap64 (n:=(i:Int) + 1) (by omega) (by omega)]
   refine next_at [some 0,some 1] (i + 1) (by omega) (by omega) rfl ?_ ?_
   ·(try push_cast -implicitDefEqProofs [eq_self,iff_self,hps,encEs_pure,encIs_pure,encQ])
   ·(try push_cast -implicitDefEqProofs [eq_self,iff_self,hps,encEs_pure,encIs_pure,encQ,rowP_pure,rowP_one])
  ·obtain ⟨_,_,hx,hy,_⟩:=pair_spec his
   have hpo:pairOf a b q.p[k] = if bitC a q.p[k].pair.1 && bitC b q.p[k].pair.2.1 then [(q.p[k].pair.1,q.p[k].pair.2.1)] else if bitC a q.p[k].pair.2.1 && bitC b q.p[k].pair.1 then [(q.p[k].pair.2.1,q.p[k].pair.1)] else []:=by rw [pairOf,if_pos his]
   generalize q.p[k].pair.1 = x at hx hpo ⊢
   generalize q.p[k].pair.2.1 = y at hy hpo ⊢
   generalize pairsF a b q.p (l.take i) = ps at hps hpl ⊢
   have hlx:=holds_col a x hx.1 hx.2
   have hly:=holds_col a y hy.1 hy.2
   have hmx:=holds_col b x hx.1 hx.2
   have hmy:=holds_col b y hy.1 hy.2
   have hof:∀ z,0 ≤ z → z ≤ 15 → Quiet Go.Proofs.Tryz.prog 159 [.sl [[.int z]]] (.int (ofBits (ofC [z]))):=fun z h0 h1=>ofSet_ok [z] (by simp) (by simpa using ⟨h0,h1⟩)
   obtain ⟨c1,hc1⟩:∃ c,c = (bitC a x && bitC b y):=⟨_,rfl⟩
   obtain ⟨c2,hc2⟩:∃ c,c = (bitC a y && bitC b x):=⟨_,rfl⟩
   rw [← hc1,← hc2] at hpo
   refine loop_at hs (σ:=Nat) (fun j=>j ≤ 2 ∧ (1 ≤ j → c1 = false) ∧ (2 ≤ j → c2 = false)) (fun j=>2 - j)
    (fun j=>[(44, .int j),(43, .int 2),(42, .rsl (H.nxt + 2) 2 0 2),(20, .int i),(19, .int l.length),(18, .sl (l.map encI)),(3, .ptr (H.nxt + 0) 6 0 0),(1, .int a),(2, .int b),(7, .rsl (H.nxt + 1) 2 0 ps.length)])
    (fun j=>[some (.cells 6 [encQ q] 0),some (.cells 2 (rowP ps) 0),some (.cells 2 (rowP [(x,y),(y,x)]) 0)]) [some 0,some 1,some 2] 0 ⟨by omega,fun h=>by omega,fun h=>by omega⟩ rfl ?_ ?_ ?_
   ·(try push_cast -implicitDefEqProofs [eq_self,iff_self,encEs_pure,encIs_pure,encQ,encP])
   ·(try push_cast -implicitDefEqProofs [eq_self,iff_self,encEs_pure,encIs_pure,encQ,rowP_pure,rowP_one,encP])
   rintro j ⟨hj2,hj3,hj4⟩
   obtain rfl | rfl | rfl:j = 0 ∨ j = 1 ∨ j = 2:=by omega
   ·push_cast -implicitDefEqProofs [eq_self,iff_self,encQ,encP]
    refine ⟨by decide,callq (hof x hx.1 hx.2) ?_⟩
    push_cast -implicitDefEqProofs [eq_self,iff_self,encQ,encP]
    refine callq (setHolds_ok a _ (ofBits_range _).1 (ofBits_range _).2) ?_
    cases hax:bitC a x
    ·push_cast -implicitDefEqProofs [eq_self,iff_self,encQ,encP,hlx,hax]
     refine gskip ?_
     push_cast -implicitDefEqProofs [eq_self,iff_self,encQ,encP]
     refine gskip ?_
     push_cast -implicitDefEqProofs [eq_self,iff_self,encQ,encP]
     refine gskip ?_
     push_cast -implicitDefEqProofs [eq_self,iff_self,encQ,encP]
     rw [wrap64 (n:=1) (by omega) (by omega)]
     refine next_at [some 0,some 1,some 2] 1 ⟨by omega,fun _=>by rw [hc1,hax]; rfl,fun h=>by omega⟩ (by omega) rfl ?_ ?_
     ·(try push_cast -implicitDefEqProofs [eq_self,iff_self,encEs_pure,encIs_pure,encQ,encP])
     ·(try push_cast -implicitDefEqProofs [eq_self,iff_self,encEs_pure,encIs_pure,encQ,rowP_pure,rowP_one,encP])
    ·push_cast -implicitDefEqProofs [eq_self,iff_self,encQ,encP,hlx,hax]
     refine gdo (by decide) ?_
     push_cast -implicitDefEqProofs [eq_self,iff_self,encQ,encP]
     refine gcall trivial (callq (hof y hy.1 hy.2) ?_)
     push_cast -implicitDefEqProofs [eq_self,iff_self,encQ,encP]
     refine gcall trivial (callq (setHolds_ok b _ (ofBits_range _).1 (ofBits_range _).2) ?_)
     push_cast -implicitDefEqProofs [eq_self,iff_self,encQ,encP,hmy]
     refine ⟨fun h=>⟨by omega, ?_⟩,fun h=>?_⟩
     ·have hpo1:pairOf a b q.p[k] = [(x,y)]:=by rw [hpo,hc1,hax,h]; rfl
      rw [hpo1] at hps
      rw [wrap64 (n:=(i:Int) + 1) (by omega) (by omega)]
      refine next_at [some 0,some 5] (i + 1) (by omega) (by omega) rfl ?_ ?_
      ·(try push_cast -implicitDefEqProofs [eq_self,iff_self,hps,encEs_pure,encIs_pure,encQ])
      ·(try push_cast -implicitDefEqProofs [eq_self,iff_self,hps,encEs_pure,encIs_pure,encQ,take_rowP _ _ (Nat.le_refl _),snocP,rowP_pure,rowP_one])
     ·rw [wrap64 (n:=1) (by omega) (by omega)]
      refine next_at [some 0,some 1,some 2] 1 ⟨by omega,fun _=>by rw [hc1,hax,h]; rfl,fun h=>by omega⟩ (by omega) rfl ?_ ?_
      ·(try push_cast -implicitDefEqProofs [eq_self,iff_self,encEs_pure,encIs_pure,encQ,encP])
      ·(try push_cast -implicitDefEqProofs [eq_self,iff_self,encEs_pure,encIs_pure,encQ,rowP_pure,rowP_one,encP])
   ·push_cast -implicitDefEqProofs [eq_self,iff_self,encQ,encP]
    refine ⟨by decide,callq (hof y hy.1 hy.2) ?_⟩
    push_cast -implicitDefEqProofs [eq_self,iff_self,encQ,encP]
    refine callq (setHolds_ok a _ (ofBits_range _).1 (ofBits_range _).2) ?_
    cases hax:bitC a y
    ·push_cast -implicitDefEqProofs [eq_self,iff_self,encQ,encP,hly,hax]
     refine gskip ?_
     push_cast -implicitDefEqProofs [eq_self,iff_self,encQ,encP]
     refine gskip ?_
     push_cast -implicitDefEqProofs [eq_self,iff_self,encQ,encP]
     refine gskip ?_
     push_cast -implicitDefEqProofs [eq_self,iff_self,encQ,encP]
     rw [wrap64 (n:=2) (by omega) (by omega)]
     refine next_at [some 0,some 1,some 2] 2 ⟨by omega,fun _=>hj3 (by omega),fun _=>by rw [hc2,hax]; rfl⟩ (by omega) rfl ?_ ?_
     ·(try push_cast -implicitDefEqProofs [eq_self,iff_self,encEs_pure,encIs_pure,encQ,encP])
     ·(try push_cast -implicitDefEqProofs [eq_self,iff_self,encEs_pure,encIs_pure,encQ,rowP_pure,rowP_one,encP])
    ·push_cast -implicitDefEqProofs [eq_self,iff_self,encQ,encP,hly,hax]
     refine gdo (by decide) ?_
     push_cast -implicitDefEqProofs [eq_self,iff_self,encQ,encP]
     refine gcall trivial (callq (hof x hx.1 hx.2) ?_)
     push_cast -implicitDefEqProofs [eq_self,iff_self,encQ,encP]
     refine gcall trivial (callq (setHolds_ok b _ (ofBits_range _).1 (ofBits_range _).2) ?_)
     push_cast -implicitDefEqProofs [eq_self,iff_self,encQ,encP,hmx]
     refine ⟨fun h=>⟨by omega, ?_⟩,fun h=>?_⟩
     ·have hpo1:pairOf a b q.p[k] = [(y,x)]:=by rw [hpo,hj3 (by omega),hc2,hax,h]; rfl
      rw [hpo1] at hps
      rw [wrap64 (n:=(i:Int) + 1) (by omega) (by omega)]
      refine next_at [some 0,some 5] (i + 1) (by omega) (by omega) rfl ?_ ?_
      ·(try push_cast -implicitDefEqProofs [eq_self,iff_self,hps,encEs_pure,encIs_pure,encQ])
      ·(try push_cast -implicitDefEqProofs [eq_self,iff_self,hps,encEs_pure,encIs_pure,encQ,take_rowP _ _ (Nat.le_refl _),snocP,rowP_pure,rowP_one])
     ·rw [wrap64 (n:=2) (by omega) (by omega)]
      refine next_at [some 0,some 1,some 2] 2 ⟨by omega,fun _=>hj3 (by omega),fun _=>by rw [hc2,hax,h]; rfl⟩ (by omega) rfl ?_ ?_
      ·(try push_cast -implicitDefEqProofs [eq_self,iff_self,encEs_pure,encIs_pure,encQ,encP])
      ·(try push_cast -implicitDefEqProofs [eq_self,iff_self,encEs_pure,encIs_pure,encQ,rowP_pure,rowP_one,encP])
   ·push_cast -implicitDefEqProofs [eq_self,iff_self,encQ,encP]
    rw [hj3 (by omega),hj4 (by omega)] at hpo
    simp only [Bool.false_eq_true,if_false] at hpo
    rw [hpo,List.append_nil] at hps
    rw [wrap64 (n:=(i:Int) + 1) (by omega) (by omega)]
    refine next_at [some 0,some 1] (i + 1) (by omega) (by omega) rfl ?_ ?_
    ·(try push_cast -implicitDefEqProofs [eq_self,iff_self,hps,encEs_pure,encIs_pure,encQ])
    ·(try push_cast -implicitDefEqProofs [eq_self,iff_self,hps,encEs_pure,encIs_pure,encQ,rowP_pure,rowP_one])
 ·have hi':((i:Int) < (l.length:Int)) = False:=by simp; omega
  have h5:l.take i = l:=List.take_of_length_le (by omega)
  push_cast -implicitDefEqProofs [eq_self,iff_self,hi',h5]
  (try push_cast -implicitDefEqProofs [eq_self,iff_self])
  rw [take_rowP _ _ (Nat.le_refl _)]
  exact sealLL_pure _ _ _ (rowP_pure _)
end
section
attribute [local push_cast] encE_mk encE_take encE_len encV encE_one encEs_pure encE_pure
inductive Ex.In:Ex → Prop
 | mk {op col k n:Int} {l:List Ex} (h1:In64 n) (h2:∀ x ∈ l,x.In):Ex.In (.mk op col k n l)
theorem MayR_ok2 (e:Ex) (hok:e.Ok):Quiet Go.Proofs.Tryz.prog 138 [.agg (encE e)] (.bool e.may):=by
 have:=MayR_ok e hok
 rwa [mayR_eq] at this
theorem ColsR_ok2 (e:Ex) (hok:e.Ok):Quiet Go.Proofs.Tryz.prog 83 [.agg (encE e)] (.sl (e.cols.map encI)):=by
 have:=ColsR_ok e hok
 rwa [colsR_eq] at this
theorem PairR_ok (e:Ex) (hok:e.Ok):Quiet Go.Proofs.Tryz.prog 104 [.agg (encE e)] (.tup [.int e.pair.1, .int e.pair.2.1, .bool e.pair.2.2]):=by
 obtain ⟨op,col,k,n,l⟩:=e
 refine quiet_of (rs:=#[.tmp 2, .tmp 3, .tmp 4]) Go.Proofs.Tryz.func104 rfl rfl rfl mixed rfl rfl fun H hs=>?_
 have hm:=MayR_ok2 _ hok
 simp only [encE_mk] at hm
 simp -implicitDefEqProofs only [push_cast,Nat.reduceAdd,Nat.reduceSub,Nat.reduceMul,Nat.reduceLT,Nat.reduceLeDiff,Nat.reduceEqDiff,Nat.reduceBEq,reduceCtorEq,reduceIte,Int.reduceLE,Int.reduceLT,Int.reduceNeg,Int.reduceToNat]
 refine callq hm ?_
 by_cases h6:(Ex.mk op col k n l).may = true ∧ op = 6
 ·obtain ⟨hmay,hop⟩:=h6
  have h2:l.length = 2:=by
   obtain ⟨hp,_⟩:=may_fine hmay
   obtain ⟨_,_,⟨h3,h4⟩,_⟩:=(part_iff _ _ _ _ _).1 hp
   rw [hop] at h3 h4
   simp [wayLo,wayHi] at h3 h4
   omega
  obtain ⟨a,b,rfl⟩:∃ a b,l = [a,b]:=by
   match l,h2 with
   | [a,b],_=>exact ⟨a,b,rfl⟩
  obtain ⟨ao,ac,ak,an,al⟩:=a
  obtain ⟨bo,bc,bk,bn,bl⟩:=b
  rw [hmay]
  simp -implicitDefEqProofs only [push_cast,Nat.reduceAdd,Nat.reduceSub,Nat.reduceMul,Nat.reduceLT,Nat.reduceLeDiff,Nat.reduceEqDiff,Nat.reduceBEq,reduceCtorEq,reduceIte,Int.reduceLE,Int.reduceLT,Int.reduceNeg,Int.reduceToNat]
  refine areg_at 35 (by kernel_rfl) (by kernel_rfl) ?_
  simp -implicitDefEqProofs only [push_cast,Nat.reduceAdd,Nat.reduceSub,Nat.reduceMul,Nat.reduceLT,Nat.reduceLeDiff,Nat.reduceEqDiff,Nat.reduceBEq,reduceCtorEq,reduceIte,Int.reduceLE,Int.reduceLT,Int.reduceNeg,Int.reduceToNat,hop,List.map_cons,List.map_nil]
  refine ⟨by omega,fun _=>by omega,fun _=>by omega,fun _=>by omega,fun h1=>?_,fun h1=>?_⟩
  ·have hz:(Ex.mk op col k n [Ex.mk ao ac ak an al,Ex.mk bo bc bk bn bl]).pair = (ac,bc,true):=by
    simp only [Ex.pair,hmay,hop,Ex.op,Ex.col]
    rw [if_pos (by grind)]
   rw [hop] at hz
   rw [hz]
   refine areg_at 11 (by kernel_rfl) (by kernel_rfl) ?_
   simp -implicitDefEqProofs only [push_cast,Nat.reduceAdd,Nat.reduceSub,Nat.reduceMul,Nat.reduceLT,Nat.reduceLeDiff,Nat.reduceEqDiff,Nat.reduceBEq,reduceCtorEq,reduceIte,Int.reduceLE,Int.reduceLT,Int.reduceNeg,Int.reduceToNat,List.map_cons,List.map_nil]
   omega
  ·have hz:(Ex.mk op col k n [Ex.mk ao ac ak an al,Ex.mk bo bc bk bn bl]).pair = (0,0,false):=by
    simp only [Ex.pair,hmay,hop,Ex.op,Ex.col]
    rw [if_neg (by grind)]
   rw [hop] at hz
   rw [hz]
   (try simp -implicitDefEqProofs only [push_cast,Nat.reduceAdd,Nat.reduceSub,Nat.reduceMul,Nat.reduceLT,Nat.reduceLeDiff,Nat.reduceEqDiff,Nat.reduceBEq,reduceCtorEq,reduceIte,Int.reduceLE,Int.reduceLT,Int.reduceNeg,Int.reduceToNat])
 ·have hz:(Ex.mk op col k n l).pair = (0,0,false):=by
   unfold Ex.pair
   split
   ·rename_i a b heq
    injection heq with e1 e2 e3 e4 e5
    subst e1 e2 e3 e4 e5
    rw [if_neg (by grind)]
   ·rfl
  rw [hz]
  generalize (Ex.mk op col k n l).may = mv at h6
  have fin:∀ l':List Ex,l'.map encE = l.map encE → True:=fun _ _=>trivial
  rcases l with _ | ⟨⟨ao,ac,ak,an,al⟩,_ | ⟨⟨bo,bc,bk,bn,bl⟩,l⟩⟩
  all_goals cases mv
  all_goals first
   | (have hop:(op = 6) = False:=by simpa using h6)
   | skip
  all_goals (simp -implicitDefEqProofs only [push_cast,Nat.reduceAdd,Nat.reduceSub,Nat.reduceMul,Nat.reduceLT,Nat.reduceLeDiff,Nat.reduceEqDiff,Nat.reduceBEq,reduceCtorEq,reduceIte,Int.reduceLE,Int.reduceLT,Int.reduceNeg,Int.reduceToNat])
  all_goals (refine areg_at 35 (by kernel_rfl) (by kernel_rfl) ?_)
  all_goals (first | (simp -implicitDefEqProofs only [push_cast,Nat.reduceAdd,Nat.reduceSub,Nat.reduceMul,Nat.reduceLT,Nat.reduceLeDiff,Nat.reduceEqDiff,Nat.reduceBEq,reduceCtorEq,reduceIte,Int.reduceLE,Int.reduceLT,Int.reduceNeg,Int.reduceToNat,hop,List.map_cons,List.map_nil,List.getD_nil,List.drop_nil]) | (simp -implicitDefEqProofs only [push_cast,Nat.reduceAdd,Nat.reduceSub,Nat.reduceMul,Nat.reduceLT,Nat.reduceLeDiff,Nat.reduceEqDiff,Nat.reduceBEq,reduceCtorEq,reduceIte,Int.reduceLE,Int.reduceLT,Int.reduceNeg,Int.reduceToNat,List.map_cons,List.map_nil,List.getD_nil,List.drop_nil]))
  all_goals ((try simp -implicitDefEqProofs only [push_cast,Nat.reduceAdd,Nat.reduceSub,Nat.reduceMul,Nat.reduceLT,Nat.reduceLeDiff,Nat.reduceEqDiff,Nat.reduceBEq,reduceCtorEq,reduceIte,Int.reduceLE,Int.reduceLT,Int.reduceNeg,Int.reduceToNat]))
end
section
attribute [local push_cast] encE_mk encE_take encE_len encV encE_one encEs_pure encE_pure
def Qy.In (q:Qy):Prop:=(∀ x ∈ q.out,In64 x) ∧ (∀ x ∈ q.sums,In64 x) ∧ In64 q.by_
def exR (c:List Df) (q:Qy) (e:Ex):Bool:=e.cols.all (isCol c q) && !decide (e.cols.length = 0)
def outR (c:List Df) (q:Qy) (i:Nat):Bool:=isCol c q (q.out.getD i 0) && decide (idx (fun x=>decide (q.out.getD i 0 = x)) q.out = i)
def endR (c:List Df) (q:Qy):Bool :=
 if q.by_ = -1 then decide (q.sums.length = 0) && decide (0 < q.out.length) && (decide (q.ord = -1) || decide (0 ≤ idx (fun x=>decide (q.ord = x)) q.out))
 else isCol c q q.by_ && decide (q.out.length = 0) && (decide (q.ord = -1) || decide (q.ord = q.by_))
def hdR (c:List Df) (q:Qy):Bool:=catMay c && decide (1 ≤ q.occ.length) && decide (q.occ.length ≤ 4) && decide (q.p.length ≤ 6) && decide (q.sums.length ≤ 4) && decide (q.out.length ≤ 8)
def Qy.mayR (q:Qy) (c:List Df):Bool :=
 hdR c q && q.occ.all (tabOk c) && q.p.all (exR c q) && (List.range q.out.length).all (outR c q) && q.sums.all (isCol c q) && endR c q
theorem out_R (q:Qy) (c:List Df):(List.range q.out.length).all (outR c q) = (q.out.all (isCol c q) && decide q.out.Nodup):=by
 have hg:∀ i,(h:i < q.out.length) → q.out.getD i 0 = q.out[i]:=fun i h=>by rw [List.getD_eq_getElem?_getD,List.getElem?_eq_getElem h]; rfl
 rw [Bool.eq_iff_iff,Bool.and_eq_true,List.all_eq_true,List.all_eq_true,decide_eq_true_eq,← place_iff]
 constructor
 ·intro h
  have h':∀ i,(hi:i < q.out.length) → isCol c q q.out[i] = true ∧ idx (fun x=>decide (q.out[i] = x)) q.out = i:=fun i hi=>by
   have:=h i (List.mem_range.2 hi)
   rw [outR,hg i hi,Bool.and_eq_true,decide_eq_true_eq] at this
   exact this
  refine ⟨fun x hx=>?_,fun i hi=>(h' i hi).2⟩
  obtain ⟨i,hi,rfl⟩:=List.mem_iff_getElem.1 hx
  exact (h' i hi).1
 ·rintro ⟨h1,h2⟩ i hi
  rw [List.mem_range] at hi
  rw [outR,hg i hi,Bool.and_eq_true,decide_eq_true_eq]
  exact ⟨h1 _ (List.getElem_mem hi),h2 i hi⟩
theorem ex_R (q:Qy) (c:List Df) (e:Ex):exR c q e = exIn (colsIn c q fun _=>true) e:=by
 rw [exR,exIn,within_isCol,Bool.and_comm]
theorem mayQ_eq (q:Qy) (c:List Df):q.mayR c = q.may c:=by
 have hord:decide (0 ≤ idx (fun x=>decide (q.ord = x)) q.out) = q.out.contains q.ord:=by
  have:=idx_neg q.out q.ord
  rw [← Bool.not_inj_iff,← this,← decide_not,decide_eq_decide]
  omega
 have hex:q.p.all (exR c q) = q.p.all (exIn (colsIn c q fun _=>true)):=congrArg _ (funext fun e=>ex_R q c e)
 have hs0:q.sums.length = 0 → q.sums.all (isCol c q) = true:=fun h=>by
  rw [List.eq_nil_of_length_eq_zero h]; rfl
 have ho0:q.out.length = 0 → q.out.all (isCol c q) = true ∧ q.out.Nodup:=fun h=>by
  rw [List.eq_nil_of_length_eq_zero h]; simp
 have hb:within [q.by_] (colsIn c q fun _=>true) = isCol c q q.by_:=by
  rw [within_isCol]; simp
 rw [Qy.mayR,out_R,hex,hdR,endR,Qy.may,endMay,hord,within_isCol c q q.out,within_isCol c q q.sums,hb,Bool.eq_iff_iff]
 by_cases h:q.by_ = -1
 ·rw [if_pos h,if_pos h]
  simp only [Bool.and_eq_true,decide_eq_true_eq,Bool.or_eq_true]
  constructor
  ·rintro ⟨⟨⟨⟨⟨⟨⟨⟨⟨⟨z,a⟩,b⟩,d⟩,e⟩,f⟩,g⟩,i⟩,j,k⟩,l⟩,⟨m,n⟩,o⟩
   exact ⟨⟨⟨⟨⟨⟨z,a⟩,b⟩,g⟩,d⟩,i⟩,⟨⟨⟨⟨⟨by omega,f⟩,k⟩,j⟩,m⟩,o⟩⟩
  ·rintro ⟨⟨⟨⟨⟨⟨z,a⟩,b⟩,g⟩,d⟩,i⟩,⟨⟨⟨⟨⟨n,f⟩,k⟩,j⟩,m⟩,o⟩⟩
   exact ⟨⟨⟨⟨⟨⟨⟨⟨⟨⟨z,a⟩,b⟩,d⟩,by omega⟩,f⟩,g⟩,i⟩,j,k⟩,hs0 m⟩,⟨m,by omega⟩,o⟩
 ·rw [if_neg h,if_neg h]
  simp only [Bool.and_eq_true,decide_eq_true_eq,Bool.or_eq_true]
  constructor
  ·rintro ⟨⟨⟨⟨⟨⟨⟨⟨⟨⟨z,a⟩,b⟩,d⟩,e⟩,f⟩,g⟩,i⟩,j,k⟩,l⟩,⟨m,n⟩,o⟩
   exact ⟨⟨⟨⟨⟨⟨z,a⟩,b⟩,g⟩,d⟩,i⟩,⟨⟨⟨⟨m,e⟩,l⟩,n⟩,o⟩⟩
  ·rintro ⟨⟨⟨⟨⟨⟨z,a⟩,b⟩,g⟩,d⟩,i⟩,⟨⟨⟨⟨m,e⟩,l⟩,n⟩,o⟩⟩
   exact ⟨⟨⟨⟨⟨⟨⟨⟨⟨⟨z,a⟩,b⟩,d⟩,e⟩,by omega⟩,g⟩,i⟩,(ho0 n).1,(ho0 n).2⟩,l⟩,⟨m,n⟩,o⟩
theorem MayRQ_ok (c:List Df) (hcl:c.length ≤ 1000000) (q:Qy) (hq:q.Ok) (hin:q.In):Quiet Go.Proofs.Tryz.prog 44 [.agg [.sl (c.map encD)], .agg (encQ q)] (.bool (q.may c)):=by
 rw [← mayQ_eq]
 obtain ⟨hP,hex,hO,hS,hT⟩:=hq
 obtain ⟨hin1,hin2,hin3⟩:=hin
 refine quiet_of (rs:=#[.tmp 4]) Go.Proofs.Tryz.func44 rfl rfl rfl mixed rfl rfl fun H hs=>?_
 push_cast -implicitDefEqProofs [eq_self,iff_self,encQ]
 refine callq (MayC_ok c hcl) ?_
 push_cast -implicitDefEqProofs [eq_self,iff_self,encQ]
 refine ⟨fun h=>?_,fun h=>?_⟩
 ·have:q.mayR c = false:=by
   have h0:hdR c q = false:=by
    simp only [Bool.or_eq_true,Bool.not_eq_true',decide_eq_true_eq] at h
    unfold hdR
    rcases h with ((((h | h) | h) | h) | h) | h
    ·simp [h]
    ·simp [decide_eq_false (show ¬ 1 ≤ q.occ.length by omega)]
    ·simp [decide_eq_false (show ¬ q.occ.length ≤ 4 by omega)]
    ·simp [decide_eq_false (show ¬ q.p.length ≤ 6 by omega)]
    ·simp [decide_eq_false (show ¬ q.sums.length ≤ 4 by omega)]
    ·simp [decide_eq_false (show ¬ q.out.length ≤ 8 by omega)]
   rw [Qy.mayR,h0]; rfl
  exact this.symm
 have hh:hdR c q = true ∧ catMay c = true ∧ q.occ.length ≤ 4 ∧ q.p.length ≤ 6 ∧ q.sums.length ≤ 4 ∧ q.out.length ≤ 8:=by
  simp only [Bool.or_eq_false_iff,Bool.not_eq_false',decide_eq_false_iff_not] at h
  obtain ⟨⟨⟨⟨⟨h1,h2⟩,h3⟩,h4⟩,h5⟩,h6⟩:=h
  refine ⟨?_,h1,by omega,by omega,by omega,by omega⟩
  rw [hdR,h1,decide_eq_true (show 1 ≤ q.occ.length by omega),decide_eq_true (show q.occ.length ≤ 4 by omega),decide_eq_true (show q.p.length ≤ 6 by omega),decide_eq_true (show q.sums.length ≤ 4 by omega),decide_eq_true (show q.out.length ≤ 8 by omega)]
  rfl
 obtain ⟨hhd,hc,ho4,hp6,hs4,ht8⟩:=hh
 have hmay:q.mayR c = (q.occ.all (tabOk c) && q.p.all (exR c q) && (List.range q.out.length).all (outR c q) && q.sums.all (isCol c q) && endR c q):=by
  rw [Qy.mayR,hhd]; simp only [Bool.true_and]
 rw [hmay]
 have hcol:∀ id,In64 id → Quiet Go.Proofs.Tryz.prog 84 [.agg [.sl (c.map encD)], .agg (encQ q), .int id] (.bool (isCol c q id)):=fun id hid=>column_ok c hcl q hO id hid
 simp only [encQ] at hcol
 refine loop_at hs (σ:=Nat) (fun i=>i ≤ q.occ.length ∧ (q.occ.take i).all (tabOk c) = true) (fun i=>q.occ.length - i)
  (fun i=>[(6, .int i),(2, .ptr (H.nxt + 0) 1 0 0),(3, .ptr (H.nxt + 1) 6 0 0)]) (fun i=>[some (.cells 1 [[.sl (c.map encD)]] 0),some (.cells 6 [encQ q] 0)]) [some 0,some 1] 0 ⟨by omega,rfl⟩ rfl ?_ ?_ ?_
 ·(try push_cast -implicitDefEqProofs [eq_self,iff_self,encDs_pure,encEs_pure,encIs_pure,encQ])
 ·(try push_cast -implicitDefEqProofs [eq_self,iff_self,encDs_pure,encEs_pure,encIs_pure,encQ])
 rintro i ⟨hi2,hia⟩
 by_cases hi:i < q.occ.length
 ·have hi':((i:Int) < (q.occ.length:Int)) = True:=by simp; omega
  have hi0:(0 ≤ (i:Int)) = True:=by simp
  push_cast -implicitDefEqProofs [eq_self,iff_self,hi',hi0,encIs_get q.occ i hi,encI,encQ]
  refine areg_at 17 (by kernel_rfl) (by kernel_rfl) ?_
  push_cast -implicitDefEqProofs [eq_self,iff_self,hi',hi0,encIs_get q.occ i hi,encI,encQ]
  have ht:(decide (q.occ[i] < 0) || decide ((c.length:Int) ≤ q.occ[i])) = !tabOk c q.occ[i]:=by
   unfold tabOk
   rw [Bool.not_and,← decide_not,← decide_not]
   congr 1 <;> rw [decide_eq_decide] <;> omega
  rw [ht]
  refine ⟨fun h=>?_,fun h=>?_⟩
  ·have:q.occ.all (tabOk c) = false:=by rw [List.all_eq_false]; exact ⟨_,List.getElem_mem hi,by simpa using h⟩
   rw [this]; rfl
  ·rw [wrap64 (n:=(i:Int) + 1) (by omega) (by omega)]
   refine next_at [some 0,some 1] (i + 1) ⟨by omega, ?_⟩ (by omega) rfl ?_ ?_
   ·rw [List.take_succ_eq_append_getElem hi,List.all_append,hia,List.all_cons]
    simpa using h
   ·(try push_cast -implicitDefEqProofs [eq_self,iff_self,encDs_pure,encEs_pure,encIs_pure,encQ])
   ·(try push_cast -implicitDefEqProofs [eq_self,iff_self,encDs_pure,encEs_pure,encIs_pure,encQ])
 have hi':((i:Int) < (q.occ.length:Int)) = False:=by simp; omega
 obtain rfl:i = q.occ.length:=by omega
 rw [List.take_length] at hia
 rw [hia,Bool.true_and]
 push_cast -implicitDefEqProofs [eq_self,iff_self,hi',encQ]
 clear hia hi hi' hi2
 refine loop_at hs (σ:=Nat) (fun i=>i ≤ q.p.length ∧ (q.p.take i).all (exR c q) = true) (fun i=>q.p.length - i)
  (fun i=>[(7, .int i),(2, .ptr (H.nxt + 0) 1 0 0),(3, .ptr (H.nxt + 1) 6 0 0)]) (fun i=>[some (.cells 1 [[.sl (c.map encD)]] 0),some (.cells 6 [encQ q] 0)]) [some 0,some 1] 0 ⟨by omega,rfl⟩ rfl ?_ ?_ ?_
 ·(try push_cast -implicitDefEqProofs [eq_self,iff_self,encDs_pure,encEs_pure,encIs_pure,encQ])
 ·(try push_cast -implicitDefEqProofs [eq_self,iff_self,encDs_pure,encEs_pure,encIs_pure,encQ])
 rintro i ⟨hi2,hia⟩
 by_cases hi:i < q.p.length
 ·have hi':((i:Int) < (q.p.length:Int)) = True:=by simp; omega
  have hi0:(0 ≤ (i:Int)) = True:=by simp
  have hok:=hex _ (List.getElem_mem hi)
  have hno:exR c q q.p[i] = false → q.p.all (exR c q) = false:=fun h=>by
   rw [List.all_eq_false]; exact ⟨_,List.getElem_mem hi,by rw [h]; simp⟩
  have hcr:=cols_rng q.p[i]
  have hcl2:q.p[i].cols.length ≤ 1000000:=Nat.le_trans (cols_len _) hok.2
  push_cast -implicitDefEqProofs [eq_self,iff_self,hi',hi0,encEs_get q.p i hi,encQ]
  refine callq (ColsR_ok2 _ hok.1) ?_
  push_cast -implicitDefEqProofs [eq_self,iff_self,encQ]
  have hyes:exR c q q.p[i] = true → (q.p.take (i + 1)).all (exR c q) = true:=fun h=>by
   rw [List.take_succ_eq_append_getElem hi,List.all_append,hia,List.all_cons,h]; rfl
  have hexR:exR c q q.p[i] = (q.p[i].cols.all (isCol c q) && !decide (q.p[i].cols.length = 0)):=rfl
  generalize q.p[i].cols = cols at hcr hcl2 hexR ⊢
  refine loop_at hs (σ:=Nat) (fun k=>k ≤ cols.length ∧ (cols.take k).all (isCol c q) = true) (fun k=>cols.length - k)
   (fun k=>[(9, .int k),(8, .sl (cols.map encI)),(7, .int i),(2, .ptr (H.nxt + 0) 1 0 0),(3, .ptr (H.nxt + 1) 6 0 0)]) (fun k=>[some (.cells 1 [[.sl (c.map encD)]] 0),some (.cells 6 [encQ q] 0)]) [some 0,some 1] 0 ⟨by omega,rfl⟩ rfl ?_ ?_ ?_
  ·(try push_cast -implicitDefEqProofs [eq_self,iff_self,encDs_pure,encEs_pure,encIs_pure,encQ])
  ·(try push_cast -implicitDefEqProofs [eq_self,iff_self,encDs_pure,encEs_pure,encIs_pure,encQ])
  rintro k ⟨hk2,hka⟩
  by_cases hk:k < cols.length
  ·have hk':((k:Int) < (cols.length:Int)) = True:=by simp; omega
   have hk0:(0 ≤ (k:Int)) = True:=by simp
   have hr:=hcr _ (List.getElem_mem hk)
   push_cast -implicitDefEqProofs [eq_self,iff_self,hk',hk0,encQ]
   refine areg_at 8 (by kernel_rfl) (by kernel_rfl) ?_
   push_cast -implicitDefEqProofs [eq_self,iff_self,hk',hk0,encIs_get cols k hk,encI,encQ]
   refine ahdq (hcol cols[k] (by unfold In64; omega)) ?_
   push_cast -implicitDefEqProofs [eq_self,iff_self,encQ]
   refine ⟨fun h=>?_,fun h=>?_⟩
   ·have:cols.all (isCol c q) = false:=by rw [List.all_eq_false]; exact ⟨_,List.getElem_mem hk,by simp [h]⟩
    rw [hno (by rw [hexR,this]; rfl)]; rfl
   ·rw [wrap64 (n:=(k:Int) + 1) (by omega) (by omega)]
    refine next_at [some 0,some 1] (k + 1) ⟨by omega, ?_⟩ (by omega) rfl ?_ ?_
    ·rw [List.take_succ_eq_append_getElem hk,List.all_append,hka,List.all_cons,h]; rfl
    ·(try push_cast -implicitDefEqProofs [eq_self,iff_self,encDs_pure,encEs_pure,encIs_pure,encQ])
    ·(try push_cast -implicitDefEqProofs [eq_self,iff_self,encDs_pure,encEs_pure,encIs_pure,encQ])
  ·have hk':((k:Int) < (cols.length:Int)) = False:=by simp; omega
   obtain rfl:k = cols.length:=by omega
   rw [List.take_length] at hka
   push_cast -implicitDefEqProofs [eq_self,iff_self,hk',encQ]
   refine ⟨fun h=>?_,fun h=>?_⟩
   ·rw [hno (by rw [hexR,decide_eq_true (show cols.length = 0 by omega)]; simp)]; rfl
   ·rw [wrap64 (n:=(i:Int) + 1) (by omega) (by omega)]
    refine next_at [some 0,some 1] (i + 1) ⟨by omega,hyes ?_⟩ (by omega) rfl ?_ ?_
    ·rw [hexR,hka,decide_eq_false (show ¬ cols.length = 0 by omega)]; rfl
    ·(try push_cast -implicitDefEqProofs [eq_self,iff_self,encDs_pure,encEs_pure,encIs_pure,encQ])
    ·(try push_cast -implicitDefEqProofs [eq_self,iff_self,encDs_pure,encEs_pure,encIs_pure,encQ])
 have hi':((i:Int) < (q.p.length:Int)) = False:=by simp; omega
 obtain rfl:i = q.p.length:=by omega
 rw [List.take_length] at hia
 rw [hia,Bool.true_and]
 push_cast -implicitDefEqProofs [eq_self,iff_self,hi',encQ]
 clear hia hi hi' hi2
 refine loop_at hs (σ:=Nat) (fun i=>i ≤ q.out.length ∧ (List.range i).all (outR c q) = true) (fun i=>q.out.length - i)
  (fun i=>[(11, .int i),(2, .ptr (H.nxt + 0) 1 0 0),(3, .ptr (H.nxt + 1) 6 0 0)]) (fun i=>[some (.cells 1 [[.sl (c.map encD)]] 0),some (.cells 6 [encQ q] 0)]) [some 0,some 1] 0 ⟨by omega,rfl⟩ rfl ?_ ?_ ?_
 ·(try push_cast -implicitDefEqProofs [eq_self,iff_self,encDs_pure,encEs_pure,encIs_pure,encQ])
 ·(try push_cast -implicitDefEqProofs [eq_self,iff_self,encDs_pure,encEs_pure,encIs_pure,encQ])
 rintro i ⟨hi2,hia⟩
 by_cases hi:i < q.out.length
 ·have hi':((i:Int) < (q.out.length:Int)) = True:=by simp; omega
  have hi0:(0 ≤ (i:Int)) = True:=by simp
  push_cast -implicitDefEqProofs [eq_self,iff_self,hi',hi0,encQ]
  refine areg_at 9 (by kernel_rfl) (by kernel_rfl) ?_
  push_cast -implicitDefEqProofs [eq_self,iff_self,hi',hi0,encIs_get q.out i hi,encI,encQ]
  refine ahdq (hcol q.out[i] (hin1 _ (List.getElem_mem hi))) ?_
  push_cast -implicitDefEqProofs [eq_self,iff_self,encQ]
  refine areg_at 14 (by kernel_rfl) (by kernel_rfl) ?_
  push_cast -implicitDefEqProofs [eq_self,iff_self,hi',hi0,encIs_get q.out i hi,encI,encQ]
  refine gcallq (.int (idx (fun x=>decide (q.out[i] = x)) q.out)) (fun _=>Place_ok _ hT _) ?_
  push_cast -implicitDefEqProofs [eq_self,iff_self,encQ]
  have hg:q.out.getD i 0 = q.out[i]:=by rw [List.getD_eq_getElem?_getD,List.getElem?_eq_getElem hi]; rfl
  have ho:outR c q i = !(!isCol c q q.out[i] || !decide (idx (fun x=>decide (q.out[i] = x)) q.out = i)):=by
   rw [outR,hg,Bool.not_or,Bool.not_not,Bool.not_not]
  refine ⟨fun h=>?_,fun h=>?_⟩
  ·have:(List.range q.out.length).all (outR c q) = false:=by rw [List.all_eq_false]; exact ⟨i,List.mem_range.2 hi,by rw [ho,h]; simp⟩
   rw [this]; rfl
  ·rw [wrap64 (n:=(i:Int) + 1) (by omega) (by omega)]
   refine next_at [some 0,some 1] (i + 1) ⟨by omega, ?_⟩ (by omega) rfl ?_ ?_
   ·rw [List.range_succ,List.all_append,hia,List.all_cons,ho,h]; rfl
   ·(try push_cast -implicitDefEqProofs [eq_self,iff_self,encDs_pure,encEs_pure,encIs_pure,encQ])
   ·(try push_cast -implicitDefEqProofs [eq_self,iff_self,encDs_pure,encEs_pure,encIs_pure,encQ])
 have hi':((i:Int) < (q.out.length:Int)) = False:=by simp; omega
 obtain rfl:i = q.out.length:=by omega
 rw [hia,Bool.true_and]
 push_cast -implicitDefEqProofs [eq_self,iff_self,hi',encQ]
 clear hia hi hi' hi2
 refine loop_at hs (σ:=Nat) (fun i=>i ≤ q.sums.length ∧ (q.sums.take i).all (isCol c q) = true) (fun i=>q.sums.length - i)
  (fun i=>[(13, .int i),(2, .ptr (H.nxt + 0) 1 0 0),(3, .ptr (H.nxt + 1) 6 0 0)]) (fun i=>[some (.cells 1 [[.sl (c.map encD)]] 0),some (.cells 6 [encQ q] 0)]) [some 0,some 1] 0 ⟨by omega,rfl⟩ rfl ?_ ?_ ?_
 ·(try push_cast -implicitDefEqProofs [eq_self,iff_self,encDs_pure,encEs_pure,encIs_pure,encQ])
 ·(try push_cast -implicitDefEqProofs [eq_self,iff_self,encDs_pure,encEs_pure,encIs_pure,encQ])
 rintro i ⟨hi2,hia⟩
 by_cases hi:i < q.sums.length
 ·have hi':((i:Int) < (q.sums.length:Int)) = True:=by simp; omega
  have hi0:(0 ≤ (i:Int)) = True:=by simp
  push_cast -implicitDefEqProofs [eq_self,iff_self,hi',hi0,encQ]
  refine areg_at 9 (by kernel_rfl) (by kernel_rfl) ?_
  push_cast -implicitDefEqProofs [eq_self,iff_self,hi',hi0,encIs_get q.sums i hi,encI,encQ]
  refine ahdq (hcol q.sums[i] (hin2 _ (List.getElem_mem hi))) ?_
  push_cast -implicitDefEqProofs [eq_self,iff_self,encQ]
  refine ⟨fun h=>?_,fun h=>?_⟩
  ·have:q.sums.all (isCol c q) = false:=by rw [List.all_eq_false]; exact ⟨_,List.getElem_mem hi,by simp [h]⟩
   rw [this]; rfl
  ·rw [wrap64 (n:=(i:Int) + 1) (by omega) (by omega)]
   refine next_at [some 0,some 1] (i + 1) ⟨by omega, ?_⟩ (by omega) rfl ?_ ?_
   ·rw [List.take_succ_eq_append_getElem hi,List.all_append,hia,List.all_cons,h]; rfl
   ·(try push_cast -implicitDefEqProofs [eq_self,iff_self,encDs_pure,encEs_pure,encIs_pure,encQ])
   ·(try push_cast -implicitDefEqProofs [eq_self,iff_self,encDs_pure,encEs_pure,encIs_pure,encQ])
 have hi':((i:Int) < (q.sums.length:Int)) = False:=by simp; omega
 obtain rfl:i = q.sums.length:=by omega
 rw [List.take_length] at hia
 rw [hia,Bool.true_and]
 by_cases hby:q.by_ = -1
 ·push_cast -implicitDefEqProofs [eq_self,iff_self,hi',encQ,hby]
  refine gcallq' (.int (idx (fun x=>decide (q.ord = x)) q.out)) (fun h=>by simpa using h) (fun _=>Place_ok _ hT _) ?_
  push_cast -implicitDefEqProofs [eq_self,iff_self,encQ]
  refine ⟨fun h1 h2=>by rw [h1]; simpa using h2, ?_⟩
  have a1:decide ((q.sums.length:Int) = 0) = decide (q.sums.length = 0):=by rw [decide_eq_decide]; omega
  have a2:decide ((0:Int) < (q.out.length:Int)) = decide (0 < q.out.length):=by rw [decide_eq_decide]; omega
  rw [a1,a2,endR,if_pos hby]
 ·have hby':decide (q.by_ = -1) = false:=by simpa using hby
  push_cast -implicitDefEqProofs [eq_self,iff_self,hi',encQ,hby']
  refine callq (hcol q.by_ hin3) ?_
  push_cast -implicitDefEqProofs [eq_self,iff_self,encQ]
  refine ⟨fun h1 h2=>by rw [h1]; simpa using h2, ?_⟩
  have a2:decide ((q.out.length:Int) = 0) = decide (q.out.length = 0):=by rw [decide_eq_decide]; omega
  rw [a2,endR,if_neg hby]
end
section
attribute [local push_cast] encE_mk encE_take encE_len encV encE_one encEs_pure encE_pure
def colsUp (c:List Df) (q:Qy) (s:Int) (k:Nat):List Int:=(upto k).filter fun id=>isCol c q id && bitI s (id / 4).toNat
theorem colsUp_yes (c:List Df) (q:Qy) (s:Int) (k:Nat) (h:(isCol c q k && bitI s (k / 4)) = true):colsUp c q s (k + 1) = colsUp c q s k ++ [(k:Int)]:=by
 rw [colsUp,upto_snoc,List.filter_append,List.filter_cons,if_pos (by rw [← h]; congr 2),List.filter_nil]
 rfl
theorem colsUp_no (c:List Df) (q:Qy) (s:Int) (k:Nat) (h:(isCol c q k && bitI s (k / 4)) = false):colsUp c q s (k + 1) = colsUp c q s k:=by
 have h':(isCol c q k && bitI s ((k:Int) / 4).toNat) = false:=by rw [← h]; congr 2
 rw [colsUp,upto_snoc,List.filter_append,List.filter_cons,if_neg (by rw [h']; decide),List.filter_nil,List.append_nil]
 rfl
theorem colsUp_zero (c:List Df) (q:Qy) (s:Int):colsUp c q s 0 = []:=rfl
theorem colsUp_len (c:List Df) (q:Qy) (s:Int) (k:Nat):(colsUp c q s k).length ≤ k:=Nat.le_trans (List.length_filter_le _ _) (by rw [upto_len]; omega)
theorem ColsRQ_ok (c:List Df) (hcl:c.length ≤ 1000000) (q:Qy) (hq:q.Ok) (hin:q.In) (s:Int):Quiet Go.Proofs.Tryz.prog 91 [.agg [.sl (c.map encD)], .agg (encQ q), .int s] (.sl ((q.cols c s).map encI)):=by
 have hm:=MayRQ_ok c hcl q hq hin
 have hcol:∀ id,In64 id → Quiet Go.Proofs.Tryz.prog 84 [.agg [.sl (c.map encD)], .agg (encQ q), .int id] (.bool (isCol c q id)):=fun id hid=>column_ok c hcl q hq.2.2.1 id hid
 simp only [encQ] at hm hcol
 refine quiet_of (rs:=#[.tmp 6]) Go.Proofs.Tryz.func91 rfl rfl rfl mixed rfl rfl fun H hs=>?_
 simp -implicitDefEqProofs only [push_cast,Nat.reduceAdd,Nat.reduceSub,Nat.reduceMul,Nat.reduceLT,Nat.reduceLeDiff,Nat.reduceEqDiff,Nat.reduceBEq,reduceCtorEq,reduceIte,Int.reduceLE,Int.reduceLT,Int.reduceNeg,Int.reduceToNat,encQ]
 refine callq hm ?_
 simp -implicitDefEqProofs only [push_cast,Nat.reduceAdd,Nat.reduceSub,Nat.reduceMul,Nat.reduceLT,Nat.reduceLeDiff,Nat.reduceEqDiff,Nat.reduceBEq,reduceCtorEq,reduceIte,Int.reduceLE,Int.reduceLT,Int.reduceNeg,Int.reduceToNat,encQ]
 cases hmay:q.may c
 ·have h0:q.cols c s = []:=by rw [Qy.cols,hmay]; rfl
  refine loop_at hs (σ:=Nat) (fun i=>i = 0) (fun i=>0) (fun i=>[(9, .int i),(8, .bool false),(7, .nilS)]) (fun i=>[]) [] 0 rfl rfl ?_ ?_ ?_
  ·(try simp -implicitDefEqProofs only [push_cast,Nat.reduceAdd,Nat.reduceSub,Nat.reduceMul,Nat.reduceLT,Nat.reduceLeDiff,Nat.reduceEqDiff,Nat.reduceBEq,reduceCtorEq,reduceIte,Int.reduceLE,Int.reduceLT,Int.reduceNeg,Int.reduceToNat])
  ·(try simp -implicitDefEqProofs only [push_cast,Nat.reduceAdd,Nat.reduceSub,Nat.reduceMul,Nat.reduceLT,Nat.reduceLeDiff,Nat.reduceEqDiff,Nat.reduceBEq,reduceCtorEq,reduceIte,Int.reduceLE,Int.reduceLT,Int.reduceNeg,Int.reduceToNat])
  rintro i rfl
  simp -implicitDefEqProofs only [push_cast,Nat.reduceAdd,Nat.reduceSub,Nat.reduceMul,Nat.reduceLT,Nat.reduceLeDiff,Nat.reduceEqDiff,Nat.reduceBEq,reduceCtorEq,reduceIte,Int.reduceLE,Int.reduceLT,Int.reduceNeg,Int.reduceToNat]
  (try simp -implicitDefEqProofs only [push_cast,Nat.reduceAdd,Nat.reduceSub,Nat.reduceMul,Nat.reduceLT,Nat.reduceLeDiff,Nat.reduceEqDiff,Nat.reduceBEq,reduceCtorEq,reduceIte,Int.reduceLE,Int.reduceLT,Int.reduceNeg,Int.reduceToNat,h0,List.map_nil])
 ·refine loop_at hs (σ:=Nat) (fun i=>i ≤ 16) (fun i=>16 - i)
   (fun i=>[(9, .int i),(8, .bool true),(2, .int s),(3, .ptr (H.nxt + 0) 1 0 0),(4, .ptr (H.nxt + 1) 6 0 0),(7, .rsl (H.nxt + 2) 1 0 (colsUp c q s i).length)]) (fun i=>[some (.cells 1 [[.sl (c.map encD)]] 0),some (.cells 6 [encQ q] 0),some (.cells 1 (rowI (colsUp c q s i)) 0)]) [some 0,some 1,none] 0 (by omega) rfl ?_ ?_ ?_
  ·(try simp -implicitDefEqProofs only [push_cast,Nat.reduceAdd,Nat.reduceSub,Nat.reduceMul,Nat.reduceLT,Nat.reduceLeDiff,Nat.reduceEqDiff,Nat.reduceBEq,reduceCtorEq,reduceIte,Int.reduceLE,Int.reduceLT,Int.reduceNeg,Int.reduceToNat,colsUp_zero,rowI_nil,encDs_pure,encEs_pure,encIs_pure,encQ])
  ·(try simp -implicitDefEqProofs only [push_cast,Nat.reduceAdd,Nat.reduceSub,Nat.reduceMul,Nat.reduceLT,Nat.reduceLeDiff,Nat.reduceEqDiff,Nat.reduceBEq,reduceCtorEq,reduceIte,Int.reduceLE,Int.reduceLT,Int.reduceNeg,Int.reduceToNat,colsUp_zero,rowI_nil,encDs_pure,encEs_pure,encIs_pure,encQ])
  intro i hi2
  have hlen:=colsUp_len c q s i
  by_cases hi:i < 16
  ·have hi':((i:Int) < 16) = True:=by simp; omega
   have hq4:IntKind.wrap .i64 (Int.tdiv (i:Int) 4) = ((i / 4:Nat):Int):=by rw [Int.tdiv_eq_ediv_of_nonneg (by omega),wrap64 (by omega) (by omega)]; omega
   simp -implicitDefEqProofs only [push_cast,Nat.reduceAdd,Nat.reduceSub,Nat.reduceMul,Nat.reduceLT,Nat.reduceLeDiff,Nat.reduceEqDiff,Nat.reduceBEq,reduceCtorEq,reduceIte,Int.reduceLE,Int.reduceLT,Int.reduceNeg,Int.reduceToNat,hi',encQ]
   refine callq (hcol i (by unfold In64; omega)) ?_
   simp -implicitDefEqProofs only [push_cast,Nat.reduceAdd,Nat.reduceSub,Nat.reduceMul,Nat.reduceLT,Nat.reduceLeDiff,Nat.reduceEqDiff,Nat.reduceBEq,reduceCtorEq,reduceIte,Int.reduceLE,Int.reduceLT,Int.reduceNeg,Int.reduceToNat,hi',hq4,encQ]
   refine ⟨by decide,callq (Bit_ok s (i / 4) (by omega)) ?_⟩
   simp -implicitDefEqProofs only [push_cast,Nat.reduceAdd,Nat.reduceSub,Nat.reduceMul,Nat.reduceLT,Nat.reduceLeDiff,Nat.reduceEqDiff,Nat.reduceBEq,reduceCtorEq,reduceIte,Int.reduceLE,Int.reduceLT,Int.reduceNeg,Int.reduceToNat,hi',hq4,encQ]
   refine ⟨fun h=>⟨by omega, ?_⟩,fun h=>?_⟩
   ·rw [wrap64 (n:=(i:Int) + 1) (by omega) (by omega)]
    refine next_at [some 0,some 1,some 4] (i + 1) (by omega) (by omega) rfl ?_ ?_
    ·(try simp -implicitDefEqProofs only [push_cast,Nat.reduceAdd,Nat.reduceSub,Nat.reduceMul,Nat.reduceLT,Nat.reduceLeDiff,Nat.reduceEqDiff,Nat.reduceBEq,reduceCtorEq,reduceIte,Int.reduceLE,Int.reduceLT,Int.reduceNeg,Int.reduceToNat,colsUp_yes c q s i h,encDs_pure,encEs_pure,encIs_pure,encQ])
    ·(try simp -implicitDefEqProofs only [push_cast,Nat.reduceAdd,Nat.reduceSub,Nat.reduceMul,Nat.reduceLT,Nat.reduceLeDiff,Nat.reduceEqDiff,Nat.reduceBEq,reduceCtorEq,reduceIte,Int.reduceLE,Int.reduceLT,Int.reduceNeg,Int.reduceToNat,colsUp_yes c q s i h,take_rowI _ _ (Nat.le_refl _),snocI,rowI_pure,rowI_one,encDs_pure,encEs_pure,encIs_pure,encQ])
   ·rw [wrap64 (n:=(i:Int) + 1) (by omega) (by omega)]
    refine next_at [some 0,some 1,some 2] (i + 1) (by omega) (by omega) rfl ?_ ?_
    ·(try simp -implicitDefEqProofs only [push_cast,Nat.reduceAdd,Nat.reduceSub,Nat.reduceMul,Nat.reduceLT,Nat.reduceLeDiff,Nat.reduceEqDiff,Nat.reduceBEq,reduceCtorEq,reduceIte,Int.reduceLE,Int.reduceLT,Int.reduceNeg,Int.reduceToNat,colsUp_no c q s i h,encDs_pure,encEs_pure,encIs_pure,encQ])
    ·(try simp -implicitDefEqProofs only [push_cast,Nat.reduceAdd,Nat.reduceSub,Nat.reduceMul,Nat.reduceLT,Nat.reduceLeDiff,Nat.reduceEqDiff,Nat.reduceBEq,reduceCtorEq,reduceIte,Int.reduceLE,Int.reduceLT,Int.reduceNeg,Int.reduceToNat,colsUp_no c q s i h,rowI_pure,rowI_one,encDs_pure,encEs_pure,encIs_pure,encQ])
  ·have hi':((i:Int) < 16) = False:=by simp; omega
   have h16:q.cols c s = colsUp c q s i:=by
    rw [show i = 16 by omega,Qy.cols,if_pos hmay,colsUp,colsIn]
   simp -implicitDefEqProofs only [push_cast,Nat.reduceAdd,Nat.reduceSub,Nat.reduceMul,Nat.reduceLT,Nat.reduceLeDiff,Nat.reduceEqDiff,Nat.reduceBEq,reduceCtorEq,reduceIte,Int.reduceLE,Int.reduceLT,Int.reduceNeg,Int.reduceToNat,hi',encQ]
   (try simp -implicitDefEqProofs only [push_cast,Nat.reduceAdd,Nat.reduceSub,Nat.reduceMul,Nat.reduceLT,Nat.reduceLeDiff,Nat.reduceEqDiff,Nat.reduceBEq,reduceCtorEq,reduceIte,Int.reduceLE,Int.reduceLT,Int.reduceNeg,Int.reduceToNat])
   rw [h16,take_rowI _ _ (Nat.le_refl _)]
   exact sealLL_pure _ _ _ (encIs_pure _)
theorem PairsR_ok (q:Qy) (hq:q.Ok) (a b:Int):Quiet Go.Proofs.Tryz.prog 143 [.agg (encQ q), .int a, .int b] (.sl ((q.pairs a b).map encP)):=by
 have hn:=NewR_ok q hq a b
 have hnl:(q.new a b).length ≤ 1000000:=Nat.le_trans (idxF_lt _ _) hq.1
 have hnm:∀ i ∈ q.new a b,0 ≤ i ∧ i < q.p.length:=fun i hi=>by rw [Qy.new,idxF_mem] at hi; omega
 rw [Qy.pairs]
 generalize q.new a b = l at hn hnl hnm ⊢
 simp only [encQ] at hn
 refine quiet_of (rs:=#[.tmp 6]) Go.Proofs.Tryz.func143 rfl rfl rfl mixed rfl rfl fun H hs=>?_
 simp -implicitDefEqProofs only [push_cast,Nat.reduceAdd,Nat.reduceSub,Nat.reduceMul,Nat.reduceLT,Nat.reduceLeDiff,Nat.reduceEqDiff,Nat.reduceBEq,reduceCtorEq,reduceIte,Int.reduceLE,Int.reduceLT,Int.reduceNeg,Int.reduceToNat,encQ]
 refine callq hn ?_
 simp -implicitDefEqProofs only [push_cast,Nat.reduceAdd,Nat.reduceSub,Nat.reduceMul,Nat.reduceLT,Nat.reduceLeDiff,Nat.reduceEqDiff,Nat.reduceBEq,reduceCtorEq,reduceIte,Int.reduceLE,Int.reduceLT,Int.reduceNeg,Int.reduceToNat,encQ]
 refine loop_at hs (σ:=Nat) (fun i=>i ≤ l.length) (fun i=>l.length - i)
  (fun i=>[(9, .int i),(8, .sl (l.map encI)),(3, .ptr (H.nxt + 0) 6 0 0),(1, .int a),(2, .int b),(7, .rsl (H.nxt + 1) 2 0 (pairsF a b q.p (l.take i)).length)]) (fun i=>[some (.cells 6 [encQ q] 0),some (.cells 2 (rowP (pairsF a b q.p (l.take i))) 0)]) [some 0,none] 0 (by omega) rfl ?_ ?_ ?_
 ·(try simp -implicitDefEqProofs only [push_cast,Nat.reduceAdd,Nat.reduceSub,Nat.reduceMul,Nat.reduceLT,Nat.reduceLeDiff,Nat.reduceEqDiff,Nat.reduceBEq,reduceCtorEq,reduceIte,Int.reduceLE,Int.reduceLT,Int.reduceNeg,Int.reduceToNat,rowP_nil,List.take_zero,encEs_pure,encIs_pure,encQ,pairsF,List.flatMap_nil])
 ·(try simp -implicitDefEqProofs only [push_cast,Nat.reduceAdd,Nat.reduceSub,Nat.reduceMul,Nat.reduceLT,Nat.reduceLeDiff,Nat.reduceEqDiff,Nat.reduceBEq,reduceCtorEq,reduceIte,Int.reduceLE,Int.reduceLT,Int.reduceNeg,Int.reduceToNat,rowP_nil,List.take_zero,encEs_pure,encIs_pure,encQ,pairsF,List.flatMap_nil])
 intro i hi2
 by_cases hi:i < l.length
 ·have hi':((i:Int) < (l.length:Int)) = True:=by simp; omega
  have hi0:(0 ≤ (i:Int)) = True:=by simp
  obtain ⟨h0,h1⟩:=hnm _ (List.getElem_mem hi)
  obtain ⟨k,hk⟩:∃ k:Nat,l[i] = k:=⟨l[i].toNat,by omega⟩
  have hkl:k < q.p.length:=by omega
  have hk0:(0 ≤ (k:Int)) = True:=by simp
  have hk':((k:Int) < (q.p.length:Int)) = True:=by simp; omega
  have hok:=hq.2.1 _ (List.getElem_mem hkl)
  have hge:q.p.getD l[i].toNat exO = q.p[k]:=by
   rw [hk,Int.toNat_natCast,List.getD_eq_getElem?_getD,List.getElem?_eq_getElem hkl]; rfl
  have hps:=pairsF_take a b q.p l i hi
  rw [hge] at hps
  have hpl:(pairsF a b q.p (l.take i)).length ≤ 1000000:=by
   refine Nat.le_trans (flat_len _ _ fun x _=>pairOf_len _ _ _) ?_
   rw [List.length_take]; omega
  simp -implicitDefEqProofs only [push_cast,Nat.reduceAdd,Nat.reduceSub,Nat.reduceMul,Nat.reduceLT,Nat.reduceLeDiff,Nat.reduceEqDiff,Nat.reduceBEq,reduceCtorEq,reduceIte,Int.reduceLE,Int.reduceLT,Int.reduceNeg,Int.reduceToNat,hi',hi0,encQ]
  refine areg_at 15 (by kernel_rfl) (by kernel_rfl) ?_
  simp -implicitDefEqProofs only [push_cast,Nat.reduceAdd,Nat.reduceSub,Nat.reduceMul,Nat.reduceLT,Nat.reduceLeDiff,Nat.reduceEqDiff,Nat.reduceBEq,reduceCtorEq,reduceIte,Int.reduceLE,Int.reduceLT,Int.reduceNeg,Int.reduceToNat,hi',hi0,encIs_get l i hi,encI,hk,hk0,hk',encEs_get q.p k hkl,encQ]
  refine ahdq (PairR_ok _ hok.1) ?_
  simp -implicitDefEqProofs only [push_cast,Nat.reduceAdd,Nat.reduceSub,Nat.reduceMul,Nat.reduceLT,Nat.reduceLeDiff,Nat.reduceEqDiff,Nat.reduceBEq,reduceCtorEq,reduceIte,Int.reduceLE,Int.reduceLT,Int.reduceNeg,Int.reduceToNat,encQ]
  refine ⟨fun his=>?_,fun his=>?_⟩
  ·have hp0:pairOf a b q.p[k] = []:=by rw [pairOf,if_neg (by simp [his])]
   rw [hp0,List.append_nil] at hps
   rw [wrap64 (n:=(i:Int) + 1) (by omega) (by omega)]
   refine next_at [some 0,some 1] (i + 1) (by omega) (by omega) rfl ?_ ?_
   ·(try simp -implicitDefEqProofs only [push_cast,Nat.reduceAdd,Nat.reduceSub,Nat.reduceMul,Nat.reduceLT,Nat.reduceLeDiff,Nat.reduceEqDiff,Nat.reduceBEq,reduceCtorEq,reduceIte,Int.reduceLE,Int.reduceLT,Int.reduceNeg,Int.reduceToNat,hps,encEs_pure,encIs_pure,encQ])
   ·(try simp -implicitDefEqProofs only [push_cast,Nat.reduceAdd,Nat.reduceSub,Nat.reduceMul,Nat.reduceLT,Nat.reduceLeDiff,Nat.reduceEqDiff,Nat.reduceBEq,reduceCtorEq,reduceIte,Int.reduceLE,Int.reduceLT,Int.reduceNeg,Int.reduceToNat,hps,encEs_pure,encIs_pure,encQ,rowP_pure,rowP_one])
  ·obtain ⟨_,_,hx,hy,_⟩:=pair_spec his
   have hpo:pairOf a b q.p[k] = if bitC a q.p[k].pair.1 && bitC b q.p[k].pair.2.1 then [(q.p[k].pair.1,q.p[k].pair.2.1)] else if bitC a q.p[k].pair.2.1 && bitC b q.p[k].pair.1 then [(q.p[k].pair.2.1,q.p[k].pair.1)] else []:=by rw [pairOf,if_pos his]
   generalize q.p[k].pair.1 = x at hx hpo ⊢
   generalize q.p[k].pair.2.1 = y at hy hpo ⊢
   generalize pairsF a b q.p (l.take i) = ps at hps hpl ⊢
   obtain ⟨u,hu⟩:∃ u:Nat,x / 4 = u:=⟨(x / 4).toNat,by omega⟩
   obtain ⟨v,hv⟩:∃ v:Nat,y / 4 = v:=⟨(y / 4).toNat,by omega⟩
   have hqx:IntKind.wrap .i64 (Int.tdiv x 4) = (u:Int):=by rw [Int.tdiv_eq_ediv_of_nonneg (by omega),wrap64 (by omega) (by omega),hu]
   have hqy:IntKind.wrap .i64 (Int.tdiv y 4) = (v:Int):=by rw [Int.tdiv_eq_ediv_of_nonneg (by omega),wrap64 (by omega) (by omega),hv]
   have hbx:∀ s,bitC s x = bitI s u:=fun s=>by rw [bitC,hu,Int.toNat_natCast]
   have hby:∀ s,bitC s y = bitI s v:=fun s=>by rw [bitC,hv,Int.toNat_natCast]
   rw [hbx,hbx,hby,hby] at hpo
   simp -implicitDefEqProofs only [push_cast,Nat.reduceAdd,Nat.reduceSub,Nat.reduceMul,Nat.reduceLT,Nat.reduceLeDiff,Nat.reduceEqDiff,Nat.reduceBEq,reduceCtorEq,reduceIte,Int.reduceLE,Int.reduceLT,Int.reduceNeg,Int.reduceToNat,encQ,hqx,hqy]
   refine ⟨by decide,callq (Bit_ok a u (by omega)) ?_⟩
   simp -implicitDefEqProofs only [push_cast,Nat.reduceAdd,Nat.reduceSub,Nat.reduceMul,Nat.reduceLT,Nat.reduceLeDiff,Nat.reduceEqDiff,Nat.reduceBEq,reduceCtorEq,reduceIte,Int.reduceLE,Int.reduceLT,Int.reduceNeg,Int.reduceToNat,encQ,hqx,hqy]
   refine ⟨by decide,callq (Bit_ok b u (by omega)) ?_⟩
   simp -implicitDefEqProofs only [push_cast,Nat.reduceAdd,Nat.reduceSub,Nat.reduceMul,Nat.reduceLT,Nat.reduceLeDiff,Nat.reduceEqDiff,Nat.reduceBEq,reduceCtorEq,reduceIte,Int.reduceLE,Int.reduceLT,Int.reduceNeg,Int.reduceToNat,encQ,hqx,hqy]
   refine ⟨by decide,callq (Bit_ok a v (by omega)) ?_⟩
   simp -implicitDefEqProofs only [push_cast,Nat.reduceAdd,Nat.reduceSub,Nat.reduceMul,Nat.reduceLT,Nat.reduceLeDiff,Nat.reduceEqDiff,Nat.reduceBEq,reduceCtorEq,reduceIte,Int.reduceLE,Int.reduceLT,Int.reduceNeg,Int.reduceToNat,encQ,hqx,hqy]
   refine ⟨by decide,callq (Bit_ok b v (by omega)) ?_⟩
   simp -implicitDefEqProofs only [push_cast,Nat.reduceAdd,Nat.reduceSub,Nat.reduceMul,Nat.reduceLT,Nat.reduceLeDiff,Nat.reduceEqDiff,Nat.reduceBEq,reduceCtorEq,reduceIte,Int.reduceLE,Int.reduceLT,Int.reduceNeg,Int.reduceToNat,encQ,hqx,hqy]
   refine ⟨fun h=>⟨by omega, ?_⟩,fun h=>⟨fun h2=>⟨by omega, ?_⟩,fun h2=>?_⟩⟩
   ·rw [hpo,h,if_pos rfl] at hps
    rw [wrap64 (n:=(i:Int) + 1) (by omega) (by omega)]
    refine next_at [some 0,some 3] (i + 1) (by omega) (by omega) rfl ?_ ?_
    ·(try simp -implicitDefEqProofs only [push_cast,Nat.reduceAdd,Nat.reduceSub,Nat.reduceMul,Nat.reduceLT,Nat.reduceLeDiff,Nat.reduceEqDiff,Nat.reduceBEq,reduceCtorEq,reduceIte,Int.reduceLE,Int.reduceLT,Int.reduceNeg,Int.reduceToNat,hps,encEs_pure,encIs_pure,encQ])
    ·(try simp -implicitDefEqProofs only [push_cast,Nat.reduceAdd,Nat.reduceSub,Nat.reduceMul,Nat.reduceLT,Nat.reduceLeDiff,Nat.reduceEqDiff,Nat.reduceBEq,reduceCtorEq,reduceIte,Int.reduceLE,Int.reduceLT,Int.reduceNeg,Int.reduceToNat,hps,encEs_pure,encIs_pure,encQ,take_rowP _ _ (Nat.le_refl _),snocP,rowP_pure,rowP_one])
   ·rw [hpo,h,if_neg (by decide),h2,if_pos rfl] at hps
    rw [wrap64 (n:=(i:Int) + 1) (by omega) (by omega)]
    refine next_at [some 0,some 3] (i + 1) (by omega) (by omega) rfl ?_ ?_
    ·(try simp -implicitDefEqProofs only [push_cast,Nat.reduceAdd,Nat.reduceSub,Nat.reduceMul,Nat.reduceLT,Nat.reduceLeDiff,Nat.reduceEqDiff,Nat.reduceBEq,reduceCtorEq,reduceIte,Int.reduceLE,Int.reduceLT,Int.reduceNeg,Int.reduceToNat,hps,encEs_pure,encIs_pure,encQ])
    ·(try simp -implicitDefEqProofs only [push_cast,Nat.reduceAdd,Nat.reduceSub,Nat.reduceMul,Nat.reduceLT,Nat.reduceLeDiff,Nat.reduceEqDiff,Nat.reduceBEq,reduceCtorEq,reduceIte,Int.reduceLE,Int.reduceLT,Int.reduceNeg,Int.reduceToNat,hps,encEs_pure,encIs_pure,encQ,take_rowP _ _ (Nat.le_refl _),snocP,rowP_pure,rowP_one])
   ·rw [hpo,h,if_neg (by decide),h2,if_neg (by decide),List.append_nil] at hps
    rw [wrap64 (n:=(i:Int) + 1) (by omega) (by omega)]
    refine next_at [some 0,some 1] (i + 1) (by omega) (by omega) rfl ?_ ?_
    ·(try simp -implicitDefEqProofs only [push_cast,Nat.reduceAdd,Nat.reduceSub,Nat.reduceMul,Nat.reduceLT,Nat.reduceLeDiff,Nat.reduceEqDiff,Nat.reduceBEq,reduceCtorEq,reduceIte,Int.reduceLE,Int.reduceLT,Int.reduceNeg,Int.reduceToNat,hps,encEs_pure,encIs_pure,encQ])
    ·(try simp -implicitDefEqProofs only [push_cast,Nat.reduceAdd,Nat.reduceSub,Nat.reduceMul,Nat.reduceLT,Nat.reduceLeDiff,Nat.reduceEqDiff,Nat.reduceBEq,reduceCtorEq,reduceIte,Int.reduceLE,Int.reduceLT,Int.reduceNeg,Int.reduceToNat,hps,encEs_pure,encIs_pure,encQ,rowP_pure,rowP_one])
 ·have hi':((i:Int) < (l.length:Int)) = False:=by simp; omega
  have h5:l.take i = l:=List.take_of_length_le (by omega)
  simp -implicitDefEqProofs only [push_cast,Nat.reduceAdd,Nat.reduceSub,Nat.reduceMul,Nat.reduceLT,Nat.reduceLeDiff,Nat.reduceEqDiff,Nat.reduceBEq,reduceCtorEq,reduceIte,Int.reduceLE,Int.reduceLT,Int.reduceNeg,Int.reduceToNat,hi',h5]
  (try simp -implicitDefEqProofs only [push_cast,Nat.reduceAdd,Nat.reduceSub,Nat.reduceMul,Nat.reduceLT,Nat.reduceLeDiff,Nat.reduceEqDiff,Nat.reduceBEq,reduceCtorEq,reduceIte,Int.reduceLE,Int.reduceLT,Int.reduceNeg,Int.reduceToNat])
  rw [take_rowP _ _ (Nat.le_refl _)]
  exact sealLL_pure _ _ _ (rowP_pure _)
end
section
attribute [local push_cast] encE_mk encE_take encE_len encV encE_one encEs_pure encE_pure
theorem BaseR_ok (c:List Df) (hcl:c.length ≤ 1000000) (q:Qy) (hq:q.Ok) (hqi:q.In) (o:Int) (hin:In64 o):Quiet Go.Proofs.Tryz.prog 102 [.agg [.sl (c.map encD)], .agg (encQ q), .int o] (.int (baseR c q o)):=by
 refine quiet_of (rs:=#[.tmp 6]) Go.Proofs.Tryz.func102 rfl rfl rfl mixed rfl rfl fun H hs=>?_
 push_cast -implicitDefEqProofs [eq_self,iff_self,encQ]
 refine callq (MayRQ_ok c hcl q hq hqi) ?_
 push_cast -implicitDefEqProofs [eq_self,iff_self,encQ]
 have hO:=hq.2.2.1
 by_cases hc:q.may c = true ∧ 0 ≤ o ∧ o < q.occ.length
 ·obtain ⟨hm,h0,h1⟩:=hc
  have hb:baseR c q o = baseQ c q o:=if_pos ⟨hm,h0,h1⟩
  obtain ⟨k,rfl⟩:∃ k:Nat,o = k:=⟨o.toNat,by omega⟩
  have hk:k < q.occ.length:=by omega
  obtain ⟨t,ht,htl,hbq⟩:=base_get hm hk
  have c1:((k:Int) < 0) = False:=by simp
  have c2:((q.occ.length:Int) ≤ (k:Int)) = False:=by simp; omega
  have k0:(0 ≤ (k:Int)) = True:=by simp
  have k1:((k:Int) < (q.occ.length:Int)) = True:=by simp; omega
  have t0:(0 ≤ (t:Int)) = True:=by simp
  have t1:((t:Int) < (c.length:Int)) = True:=by simp; omega
  rw [hb,hbq,hm]
  push_cast -implicitDefEqProofs [eq_self,iff_self,c1,c2]
  refine areg_at 11 (by kernel_rfl) (by kernel_rfl) ?_
  push_cast -implicitDefEqProofs [eq_self,iff_self,encQ,k0,k1,encIs_get q.occ k hk,encI,ht,t0,t1,encDs_get c t htl,encD]
 ·have hb:baseR c q o = 0:=if_neg hc
  have hcond:(!q.may c || decide (o < 0) || decide ((q.occ.length:Int) ≤ o)) = true:=by
   rcases Bool.eq_false_or_eq_true (!q.may c || decide (o < 0) || decide ((q.occ.length:Int) ≤ o)) with h | h
   ·exact h
   exfalso
   simp only [Bool.or_eq_false_iff,Bool.not_eq_false',decide_eq_false_iff_not] at h
   exact hc ⟨h.1.1,by omega,by omega⟩
  rw [hb]
  push_cast -implicitDefEqProofs [eq_self,iff_self,hcond]
theorem RowsR_ok (c:List Df) (hcl:c.length ≤ 1000000) (q:Qy) (hq:q.Ok) (hqi:q.In) (s:Int):Quiet Go.Proofs.Tryz.prog 52 [.agg [.sl (c.map encD)], .agg (encQ q), .int s] (.int (rowsQ c q s)):=by
 have hbase:=fun o=>BaseR_ok c hcl q hq hqi o
 refine quiet_of (rs:=#[.tmp 6]) Go.Proofs.Tryz.func52 rfl rfl rfl mixed rfl rfl fun H hs=>?_
 push_cast -implicitDefEqProofs [eq_self,iff_self,encQ]
 refine callq (MayRQ_ok c hcl q hq hqi) ?_
 cases hm:q.may c
 ·have h0:rowsQ c q s = 0:=by rw [rowsQ,hm]; rfl
  rw [h0]
  push_cast -implicitDefEqProofs [eq_self,iff_self,encQ]
 obtain ⟨hc,ho1,ho4,hot,hp6,_⟩:=may_split hm
 have hown:=OwnR_ok q hq s
 have hl:(q.own s).length ≤ 8:=Nat.le_trans (idxF_lt _ _) (by omega)
 have hmm:∀ i ∈ q.own s,0 ≤ i ∧ i < q.p.length:=fun i hi=>by rw [Qy.own,idxF_mem] at hi; omega
 have hfr:=fewer_pos q s
 have hti:=TimesR_ok (rowsL c q s) (by rw [rowsL,List.length_map]; exact Nat.le_trans (List.length_filter_le _ _) (by rw [upto_len]; omega)) (rowsL_in hm s)
 have htr:=times_range (rowsL c q s)
 have hrq:rowsQ c q s = max 1 (times (rowsL c q s) / q.fewer s):=by rw [rowsQ,if_pos hm]
 rw [hrq]
 rw [Qy.fewer] at hfr ⊢
 simp only [encQ] at hbase hown
 push_cast -implicitDefEqProofs [eq_self,iff_self,encQ]
 refine loop_at hs (σ:=Nat) (fun i=>i ≤ q.occ.length) (fun i=>q.occ.length - i)
  (fun i=>[(9, .int i),(2, .int s),(3, .ptr (H.nxt + 0) 1 0 0),(4, .ptr (H.nxt + 1) 6 0 0),(8, .rsl (H.nxt + 2) 1 0 (rowsTo c q s i).length)]) (fun i=>[some (.cells 1 [[.sl (c.map encD)]] 0),some (.cells 6 [encQ q] 0),some (.cells 1 (rowI (rowsTo c q s i)) 0)]) [some 0,some 1,none] 0 (by omega) rfl ?_ ?_ ?_
 ·(try push_cast -implicitDefEqProofs [eq_self,iff_self,rowsTo_zero,rowI_nil,encDs_pure,encEs_pure,encIs_pure,encQ])
 ·(try push_cast -implicitDefEqProofs [eq_self,iff_self,rowsTo_zero,rowI_nil,encDs_pure,encEs_pure,encIs_pure,encQ])
 intro i hi2
 have hlen:=rowsTo_len c q s i
 by_cases hi:i < q.occ.length
 ·have hi':((i:Int) < (q.occ.length:Int)) = True:=by simp; omega
  have hi0:(0 ≤ (i:Int)) = True:=by simp
  have hbr:baseR c q i = baseQ c q i:=if_pos ⟨hm,by omega,by omega⟩
  have hb:=hbase i (by unfold In64; omega)
  rw [hbr] at hb
  push_cast -implicitDefEqProofs [eq_self,iff_self,hi',hi0,encQ]
  refine callq (Bit_ok s i (by omega)) ?_
  push_cast -implicitDefEqProofs [eq_self,iff_self,encQ]
  refine ⟨fun h=>callq hb ?_,fun h=>?_⟩
  ·push_cast -implicitDefEqProofs [eq_self,iff_self,encQ]
   rw [wrap64 (n:=(i:Int) + 1) (by omega) (by omega)]
   refine ⟨by omega, ?_⟩
   refine next_at [some 0,some 1,some 4] (i + 1) (by omega) (by omega) rfl ?_ ?_
   ·(try push_cast -implicitDefEqProofs [eq_self,iff_self,rowsTo_yes c q s i h,encDs_pure,encEs_pure,encIs_pure,encQ])
   ·(try push_cast -implicitDefEqProofs [eq_self,iff_self,rowsTo_yes c q s i h,take_rowI _ _ (Nat.le_refl _),snocI,rowI_pure,rowI_one,encDs_pure,encEs_pure,encIs_pure,encQ])
  ·rw [wrap64 (n:=(i:Int) + 1) (by omega) (by omega)]
   refine next_at [some 0,some 1,some 2] (i + 1) (by omega) (by omega) rfl ?_ ?_
   ·(try push_cast -implicitDefEqProofs [eq_self,iff_self,rowsTo_no c q s i h,encDs_pure,encEs_pure,encIs_pure,encQ])
   ·(try push_cast -implicitDefEqProofs [eq_self,iff_self,rowsTo_no c q s i h,rowI_pure,rowI_one,encDs_pure,encEs_pure,encIs_pure,encQ])
 ·have hi':((i:Int) < (q.occ.length:Int)) = False:=by simp; omega
  obtain rfl:i = q.occ.length:=by omega
  have hrl:rowsTo c q s q.occ.length = rowsL c q s:=rfl
  push_cast -implicitDefEqProofs [eq_self,iff_self,hi',hrl,encQ]
  refine callq hown ?_
  push_cast -implicitDefEqProofs [eq_self,iff_self,encQ]
  generalize q.own s = l at hl hmm hfr ⊢
  generalize rowsL c q s = zs at hti htr ⊢
  refine loop_at hs (σ:=Nat) (fun i=>i ≤ l.length) (fun i=>l.length - i)
   (fun i=>[(13, .int i),(12, .sl (l.map encI)),(8, .sl (zs.map encI)),(4, .ptr (H.nxt + 1) 6 0 0),(11, .int (prodI ((l.take i).map fun i=>wE (q.p.getD i.toNat exO))))]) (fun i=>[none,some (.cells 6 [encQ q] 0)]) [some 0,some 1] 0 (by omega) rfl ?_ ?_ ?_
  ·(try push_cast -implicitDefEqProofs [eq_self,iff_self,encEs_pure,encIs_pure,encQ,List.take_zero,List.map_nil,prodI,take_rowI _ _ (Nat.le_refl _)])
  ·(try push_cast -implicitDefEqProofs [eq_self,iff_self,encDs_pure,encEs_pure,encIs_pure,encQ])
  intro i hi2
  by_cases hi:i < l.length
  ·have hi':((i:Int) < (l.length:Int)) = True:=by simp; omega
   have hi0:(0 ≤ (i:Int)) = True:=by simp
   obtain ⟨h0,h1⟩:=hmm _ (List.getElem_mem hi)
   obtain ⟨k,hk⟩:∃ k:Nat,l[i] = k:=⟨l[i].toNat,by omega⟩
   have hkl:k < q.p.length:=by omega
   have hk0:(0 ≤ (k:Int)) = True:=by simp
   have hk':((k:Int) < (q.p.length:Int)) = True:=by simp; omega
   have hok:=hq.2.1 _ (List.getElem_mem hkl)
   have hge:q.p.getD l[i].toNat exO = q.p[k]:=by
    rw [hk,Int.toNat_natCast,List.getD_eq_getElem?_getD,List.getElem?_eq_getElem hkl]; rfl
   have hsn:=fewerTo_snoc q l i hi
   have hrg:=fewerTo_range q (l.take i)
   have hp:=pow_ten (n:=(l.take i).length) (by rw [List.length_take]; omega)
   rw [hge] at hsn
   generalize prodI ((l.take i).map fun i=>wE (q.p.getD i.toNat exO)) = v at hsn hrg ⊢
   have hv:v ≤ 100000000:=by omega
   push_cast -implicitDefEqProofs [eq_self,iff_self,hi',hi0,encQ]
   refine areg_at 15 (by kernel_rfl) (by kernel_rfl) ?_
   push_cast -implicitDefEqProofs [eq_self,iff_self,hi',hi0,encIs_get l i hi,encI,hk,hk0,hk',encEs_get q.p k hkl,encQ]
   refine ahdq (PairR_ok _ hok.1) ?_
   push_cast -implicitDefEqProofs [eq_self,iff_self,encQ]
   refine ⟨fun h=>?_,fun h=>?_⟩
   ·have hw:(10:Int) = wE q.p[k]:=by rw [wE,if_pos h]
    rw [← hw] at hsn
    rw [wrap64 (n:=(i:Int) + 1) (by omega) (by omega),wrap64 (by omega) (by omega)]
    refine next_at [none,some 1] (i + 1) (by omega) (by omega) rfl ?_ ?_
    ·(try push_cast -implicitDefEqProofs [eq_self,iff_self,hsn,encEs_pure,encIs_pure,encQ])
    ·(try push_cast -implicitDefEqProofs [eq_self,iff_self,encEs_pure,encIs_pure,encQ])
   ·have hw:(3:Int) = wE q.p[k]:=by rw [wE,if_neg (by simp [h])]
    rw [← hw] at hsn
    rw [wrap64 (n:=(i:Int) + 1) (by omega) (by omega),wrap64 (by omega) (by omega)]
    refine next_at [none,some 1] (i + 1) (by omega) (by omega) rfl ?_ ?_
    ·(try push_cast -implicitDefEqProofs [eq_self,iff_self,hsn,encEs_pure,encIs_pure,encQ])
    ·(try push_cast -implicitDefEqProofs [eq_self,iff_self,encEs_pure,encIs_pure,encQ])
  ·have hi':((i:Int) < (l.length:Int)) = False:=by simp; omega
   have h5:l.take i = l:=List.take_of_length_le (by omega)
   rw [h5]
   generalize prodI (l.map fun i=>wE (q.p.getD i.toNat exO)) = v at hfr ⊢
   have hcap:capN = 1099511627776:=rfl
   have hdv:0 ≤ times zs / v ∧ times zs / v ≤ times zs:=⟨div_nonneg' htr.1 hfr,div_le_self' htr.1 hfr⟩
   have hq4:IntKind.wrap .i64 (Int.tdiv (times zs) v) = times zs / v:=by rw [Int.tdiv_eq_ediv_of_nonneg htr.1,wrap64 (by omega) (by omega)]
   push_cast -implicitDefEqProofs [eq_self,iff_self,hi',encQ]
   refine callq hti ?_
   push_cast -implicitDefEqProofs [eq_self,iff_self,encQ,hq4]
   refine ⟨by omega,fun h=>?_,fun h=>?_⟩
   ·omega
   ·omega
theorem GroupsR_ok (c:List Df) (hcl:c.length ≤ 1000000) (q:Qy) (hq:q.Ok) (hqi:q.In):Quiet Go.Proofs.Tryz.prog 54 [.agg [.sl (c.map encD)], .agg (encQ q)] (.int (groupsQ c q)):=by
 refine quiet_of (rs:=#[.tmp 4]) Go.Proofs.Tryz.func54 rfl rfl rfl mixed rfl rfl fun H hs=>?_
 simp -implicitDefEqProofs only [push_cast,Nat.reduceAdd,Nat.reduceSub,Nat.reduceMul,Nat.reduceLT,Nat.reduceLeDiff,Nat.reduceEqDiff,Nat.reduceBEq,reduceCtorEq,reduceIte,Int.reduceLE,Int.reduceLT,Int.reduceNeg,Int.reduceToNat,encQ]
 refine callq (MayRQ_ok c hcl q hq hqi) ?_
 cases hm:q.may c
 ·have h0:groupsQ c q = 0:=by rw [groupsQ,hm]; rfl
  rw [h0]
  simp -implicitDefEqProofs only [push_cast,Nat.reduceAdd,Nat.reduceSub,Nat.reduceMul,Nat.reduceLT,Nat.reduceLeDiff,Nat.reduceEqDiff,Nat.reduceBEq,reduceCtorEq,reduceIte,Int.reduceLE,Int.reduceLT,Int.reduceNeg,Int.reduceToNat,encQ]
 have hr:=rowsQ_range hm 15
 have hcap:capN = 1099511627776:=rfl
 have hg:=groups_full hm
 have hq4:IntKind.wrap .i64 (Int.tdiv (rowsQ c q 15) 5) = rowsQ c q 15 / 5:=by rw [Int.tdiv_eq_ediv_of_nonneg (by omega),wrap64 (by omega) (by omega)]
 simp -implicitDefEqProofs only [push_cast,Nat.reduceAdd,Nat.reduceSub,Nat.reduceMul,Nat.reduceLT,Nat.reduceLeDiff,Nat.reduceEqDiff,Nat.reduceBEq,reduceCtorEq,reduceIte,Int.reduceLE,Int.reduceLT,Int.reduceNeg,Int.reduceToNat,encQ]
 refine callq (RowsR_ok c hcl q hq hqi 15) ?_
 simp -implicitDefEqProofs only [push_cast,Nat.reduceAdd,Nat.reduceSub,Nat.reduceMul,Nat.reduceLT,Nat.reduceLeDiff,Nat.reduceEqDiff,Nat.reduceBEq,reduceCtorEq,reduceIte,Int.reduceLE,Int.reduceLT,Int.reduceNeg,Int.reduceToNat,encQ,hq4]
 refine ⟨by decide,fun h=>?_,fun h=>?_⟩
 ·omega
 ·omega
end
section
attribute [local push_cast] encPl_mk encPl_take encPl_len encPl_one encPls_pure encPl_pure
def fitP (c:List Df) (q:Qy):Pl → Bool
 | .mk op _ a b l =>
  match l with
  | []=>true
  | [x]=>(q.cols c (treeP x).set).contains a
  | x :: y :: _=>if op = 1 then true else (q.pairs (treeP x).set (treeP y).set).contains (a,b) && (decide (op = 2) || (decide (x.order = a) && decide (y.order = b)))
theorem setOf_may {p:Pl} (hf:p.few = true) (hm:(treeP p).may = true):setOfP p = (treeP p).set:=by
 have h:p.tree.2 = true:=by rw [tree_iff,hf,hm]; rfl
 rw [setOfP,if_pos h,tree_1 h]
theorem idx_has (l:List Int) (x:Int):decide (idx (fun c=>decide (x = c)) l < 0) = !l.contains x:=by
 have h:decide (0 ≤ idx (fun c=>decide (x = c)) l) = l.any (fun c=>decide (x = c)):=idx_nonneg
 have e:∀ l:List Int,l.any (fun c=>decide (x = c)) = l.contains x:=by
  intro l
  induction l with
  | nil=>rfl
  | cons y l ih=>rw [List.any_cons,List.contains_cons,ih]; rfl
 rw [e] at h
 rw [← h,← decide_not,decide_eq_decide]
 omega
theorem parts_all (c:List Df) (q:Qy) (op occ a b:Int) (l:List Pl):(parts (.mk op occ a b l)).all (fitP c q) = (fitP c q (.mk op occ a b l) && (partsPl l).all (fitP c q)):=by
 rw [parts_mk,List.all_cons]
theorem pairs_le (q:Qy) (hq:q.Ok) (a b:Int):(q.pairs a b).length ≤ 1000000:=by
 have h1:=pairs_len q a b
 have h2:(q.new a b).length ≤ q.p.length:=idxF_lt _ _
 have:=hq.1
 omega
theorem partsPl_snoc (l:List Pl) (i:Nat) (h:i < l.length):partsPl (l.take (i + 1)) = partsPl (l.take i) ++ parts l[i]:=by
 have app:∀ l m:List Pl,partsPl (l ++ m) = partsPl l ++ partsPl m:=by
  intro l m
  induction l with
  | nil=>rw [partsPl,List.nil_append,List.nil_append]
  | cons x l ih=>rw [List.cons_append,partsPl_cons,partsPl_cons,ih,List.append_assoc]
 rw [List.take_succ_eq_append_getElem h,app,partsPl_cons,partsPl,List.append_nil]
theorem partsPl_end {l:List Pl} {i:Nat} (h:i < l.length) {f:Pl → Bool} (hf:(parts l[i]).all f = false):(partsPl l).all f = false:=by
 rw [List.all_eq_false] at hf ⊢
 obtain ⟨x,hx,h2⟩:=hf
 exact ⟨x,partsPl_mem (List.getElem_mem h) x hx,h2⟩
theorem has_snoc (ps:List (Int × Int)) (j:Nat) (hj:j < ps.length) (a b:Int):(ps.take (j + 1)).contains (a,b) = ((ps.take j).contains (a,b) || (decide (ps[j].1 = a) && decide (ps[j].2 = b))):=by
 rw [List.take_succ_eq_append_getElem hj,List.contains_append]
 congr 1
 rw [List.contains_cons,List.contains_nil,Bool.or_false,Bool.eq_iff_iff,beq_iff_eq,Bool.and_eq_true,decide_eq_true_eq,decide_eq_true_eq,Prod.ext_iff]
 exact ⟨fun h=>⟨h.1.symm,h.2.symm⟩,fun h=>⟨h.1.symm,h.2.symm⟩⟩
set_option maxHeartbeats 4000000 in
theorem fitsR_ok (c:List Df) (hcl:c.length ≤ 1000000) (q:Qy) (hq:q.Ok) (hqi:q.In) (p:Pl):p.Ok → p.few = true → (treeP p).may = true → Quiet Go.Proofs.Tryz.prog 163 [.agg [.sl (c.map encD)], .agg (encQ q), .agg (encPl p)] (.bool ((parts p).all (fitP c q))):=by
 induction p using Pl.ind with
 | h op occ a b l ih =>
 intro hok hf hm
 have hok':=hok
 obtain ⟨hl,hlo⟩:=hok
 have hmx:=part_may (few_own hf) hm
 have hfx:∀ x ∈ l,x.few = true:=fun x hx=>few_part hf hx
 have ih':=fun x hx=>ih x hx (hlo x hx) (hfx x hx) (hmx x hx)
 have hS:∀ x ∈ l,Quiet Go.Proofs.Tryz.prog 165 [.agg (encPl x)] (.int (treeP x).set):=fun x hx=>by
  rw [← setOf_may (hfx x hx) (hmx x hx)]; exact SetP_ok x (hlo x hx)
 have hSp:Quiet Go.Proofs.Tryz.prog 165 [.agg (encPl (.mk op occ a b l))] (.int (treeP (.mk op occ a b l)).set):=by
  rw [← setOf_may hf hm]; exact SetP_ok _ hok'
 have hO:∀ x ∈ l,Quiet Go.Proofs.Tryz.prog 186 [.agg (encPl x)] (.int x.order):=fun x hx=>OrderR_ok x (hlo x hx)
 have hR0:=parts_all c q op occ a b l
 generalize (parts (.mk op occ a b l)).all (fitP c q) = R at hR0 ⊢
 refine quiet_of (rs:=#[.tmp 6]) Go.Proofs.Tryz.func163 rfl rfl rfl mixed rfl rfl fun H hs=>?_
 rcases form_split (few_own hf) with ⟨rfl,hll⟩ | ⟨rfl,x,hll⟩ | ⟨hop,x,y,hll⟩
 ·have hft:fitP c q (.mk 0 occ a b l) = true:=by rw [hll]; rfl
  push_cast -implicitDefEqProofs [eq_self,iff_self,encQ,if_false]
  refine areg_at 25 (by kernel_rfl) (by kernel_rfl) ?_
  push_cast -implicitDefEqProofs [eq_self,iff_self,encQ,if_false]
  refine gcallq (.int 0) (fun h=>by cases h) ?_
  push_cast -implicitDefEqProofs [eq_self,iff_self,encQ,if_false]
  refine gcallq (.int 0) (fun h=>by cases h) ?_
  push_cast -implicitDefEqProofs [eq_self,iff_self,encQ,if_false]
  refine loop_at hs (σ:=Nat) (fun i=>i ≤ l.length ∧ (partsPl (l.take i)).all (fitP c q) = true) (fun i=>l.length - i)
   (fun i=>[(11, .int i),(3, .ptr (H.nxt + 0) 1 0 0),(4, .ptr (H.nxt + 1) 6 0 0),(5, .ptr (H.nxt + 2) 5 0 0)]) (fun i=>[some (.cells 1 [[.sl (c.map encD)]] 0),some (.cells 6 [encQ q] 0),some (.cells 5 [encPl (.mk 0 occ a b l)] 0)]) [some 0,some 1,some 2] 0 ⟨by omega,by simp [partsPl]⟩ rfl ?_ ?_ ?_
  ·(try push_cast -implicitDefEqProofs [eq_self,iff_self,hll,encDs_pure,encEs_pure,encIs_pure,encQ,List.map_cons,List.map_nil])
  ·(try push_cast -implicitDefEqProofs [eq_self,iff_self,hll,encDs_pure,encEs_pure,encIs_pure,encQ,List.map_cons,List.map_nil])
  rintro i ⟨hi2,hai⟩
  clear hll
  by_cases hi:i < l.length
  ·have hi':((i:Int) < (l.length:Int)) = True:=by simp; omega
   have hi0:(0 ≤ (i:Int)) = True:=by simp
   push_cast -implicitDefEqProofs [eq_self,iff_self,hi',hi0,encPls_get l i hi,encQ]
   refine areg_at 9 (by kernel_rfl) (by kernel_rfl) ?_
   push_cast -implicitDefEqProofs [eq_self,iff_self,hi',hi0,encPls_get l i hi,encQ]
   refine ahdq (ih' l[i] (List.getElem_mem hi)) ?_
   push_cast -implicitDefEqProofs [eq_self,iff_self,encQ]
   refine ⟨fun h=>?_,fun h=>?_⟩
   ·rw [hR0,hft,partsPl_end hi h,Bool.true_and]
   ·rw [wrap64 (n:=(i:Int) + 1) (by omega) (by omega)]
    refine next_at [some 0,some 1,some 2] (i + 1) ⟨by omega,by rw [partsPl_snoc l i hi,List.all_append,hai,h]; rfl⟩ (by omega) rfl ?_ ?_
    ·(try push_cast -implicitDefEqProofs [eq_self,iff_self,encDs_pure,encEs_pure,encIs_pure,encQ])
    ·(try push_cast -implicitDefEqProofs [eq_self,iff_self,encDs_pure,encEs_pure,encIs_pure,encQ])
  ·have hi':((i:Int) < (l.length:Int)) = False:=by simp; omega
   rw [List.take_of_length_le (by omega)] at hai
   push_cast -implicitDefEqProofs [eq_self,iff_self,hi',encQ]
   rw [hR0,hft,hai,Bool.true_and]
 ·have hfit:fitP c q (.mk 4 occ a b l) = (q.cols c (treeP (.mk 4 occ a b l)).set).contains a:=by rw [hll,treeP]; rfl
  have hcl2:(q.cols c (treeP (.mk 4 occ a b l)).set).length ≤ 1000000:=by
   unfold Qy.cols
   split
   ·have:=colsIn_le c q (bitI (treeP (.mk 4 occ a b l)).set); omega
   ·simp
  rw [encPl_mk] at hSp
  push_cast -implicitDefEqProofs [eq_self,iff_self,encQ,if_false,if_true,or_true,or_false,true_or,false_or,List.map_cons,List.map_nil,List.length_cons,List.length_nil]
  refine areg_at 6 (by kernel_rfl) (by kernel_rfl) ?_
  push_cast -implicitDefEqProofs [eq_self,iff_self,encQ,if_false,if_true,or_true,or_false,true_or,false_or,List.map_cons,List.map_nil,List.length_cons,List.length_nil]
  refine ahdq hSp ?_
  push_cast -implicitDefEqProofs [eq_self,iff_self,encQ,if_false,if_true,or_true,or_false,true_or,false_or,List.map_cons,List.map_nil,List.length_cons,List.length_nil]
  refine ahdq (ColsRQ_ok c hcl q hq hqi _) ?_
  push_cast -implicitDefEqProofs [eq_self,iff_self,encQ,if_false,if_true,or_true,or_false,true_or,false_or,List.map_cons,List.map_nil,List.length_cons,List.length_nil]
  refine callq (Place_ok _ hcl2 a) ?_
  push_cast -implicitDefEqProofs [eq_self,iff_self,encQ,if_false,if_true,or_true,or_false,true_or,false_or,List.map_cons,List.map_nil,List.length_cons,List.length_nil]
  have hix:=idx_has (q.cols c (treeP (.mk 4 occ a b l)).set) a
  rw [← hfit] at hix
  refine ⟨fun h=>?_,fun h=>?_⟩
  ·rw [decide_eq_true h] at hix
   rw [hR0,← Bool.not_not (fitP c q _),← hix]; rfl
  rw [decide_eq_false h] at hix
  have hft:fitP c q (.mk 4 occ a b l) = true:=by rw [← Bool.not_not (fitP c q _),← hix]; rfl
  refine areg_at 25 (by kernel_rfl) (by kernel_rfl) ?_
  push_cast -implicitDefEqProofs [eq_self,iff_self,encQ,if_false,if_true,or_true,or_false,true_or,false_or,List.map_cons,List.map_nil,List.length_cons,List.length_nil]
  refine gcallq (.int 0) (fun h=>by cases h) ?_
  push_cast -implicitDefEqProofs [eq_self,iff_self,encQ,if_false,if_true,or_true,or_false,true_or,false_or,List.map_cons,List.map_nil,List.length_cons,List.length_nil]
  refine gcallq (.int 0) (fun h=>by cases h) ?_
  push_cast -implicitDefEqProofs [eq_self,iff_self,encQ,if_false,if_true,or_true,or_false,true_or,false_or,List.map_cons,List.map_nil,List.length_cons,List.length_nil]
  refine loop_at hs (σ:=Nat) (fun i=>i ≤ l.length ∧ (partsPl (l.take i)).all (fitP c q) = true) (fun i=>l.length - i)
   (fun i=>[(11, .int i),(3, .ptr (H.nxt + 0) 1 0 0),(4, .ptr (H.nxt + 1) 6 0 0),(5, .ptr (H.nxt + 2) 5 0 0)]) (fun i=>[some (.cells 1 [[.sl (c.map encD)]] 0),some (.cells 6 [encQ q] 0),some (.cells 5 [encPl (.mk 4 occ a b l)] 0)]) [some 0,some 1,some 2] 0 ⟨by omega,by simp [partsPl]⟩ rfl ?_ ?_ ?_
  ·(try push_cast -implicitDefEqProofs [eq_self,iff_self,hll,encDs_pure,encEs_pure,encIs_pure,encQ,List.map_cons,List.map_nil])
  ·(try push_cast -implicitDefEqProofs [eq_self,iff_self,hll,encDs_pure,encEs_pure,encIs_pure,encQ,List.map_cons,List.map_nil])
  rintro i ⟨hi2,hai⟩
  clear hll
  by_cases hi:i < l.length
  ·have hi':((i:Int) < (l.length:Int)) = True:=by simp; omega
   have hi0:(0 ≤ (i:Int)) = True:=by simp
   push_cast -implicitDefEqProofs [eq_self,iff_self,hi',hi0,encPls_get l i hi,encQ]
   refine areg_at 9 (by kernel_rfl) (by kernel_rfl) ?_
   push_cast -implicitDefEqProofs [eq_self,iff_self,hi',hi0,encPls_get l i hi,encQ]
   refine ahdq (ih' l[i] (List.getElem_mem hi)) ?_
   push_cast -implicitDefEqProofs [eq_self,iff_self,encQ]
   refine ⟨fun h=>?_,fun h=>?_⟩
   ·rw [hR0,hft,partsPl_end hi h,Bool.true_and]
   ·rw [wrap64 (n:=(i:Int) + 1) (by omega) (by omega)]
    refine next_at [some 0,some 1,some 2] (i + 1) ⟨by omega,by rw [partsPl_snoc l i hi,List.all_append,hai,h]; rfl⟩ (by omega) rfl ?_ ?_
    ·(try push_cast -implicitDefEqProofs [eq_self,iff_self,encDs_pure,encEs_pure,encIs_pure,encQ])
    ·(try push_cast -implicitDefEqProofs [eq_self,iff_self,encDs_pure,encEs_pure,encIs_pure,encQ])
  ·have hi':((i:Int) < (l.length:Int)) = False:=by simp; omega
   rw [List.take_of_length_le (by omega)] at hai
   push_cast -implicitDefEqProofs [eq_self,iff_self,hi',encQ]
   rw [hR0,hft,hai,Bool.true_and]
 ·have hg0:∀ z:List AV,([x,y].map encPl).getD 0 z = encPl x:=fun _=>rfl
  have hg1:∀ z:List AV,([x,y].map encPl).getD 1 z = encPl y:=fun _=>rfl
  have hSx:=hS x (by rw [hll]; simp)
  have hSy:=hS y (by rw [hll]; simp)
  have hOx:=hO x (by rw [hll]; simp)
  have hOy:=hO y (by rw [hll]; simp)
  have hfit:fitP c q (.mk op occ a b l) = (if op = 1 then true else (q.pairs (treeP x).set (treeP y).set).contains (a,b) && (decide (op = 2) || (decide (x.order = a) && decide (y.order = b)))):=by rw [hll]; rfl
  rcases hop with rfl | rfl | rfl
  ·have hft:fitP c q (.mk 1 occ a b l) = true:=by rw [hfit,if_pos rfl]
   push_cast -implicitDefEqProofs [eq_self,iff_self,encQ,if_false,if_true,or_true,or_false,true_or,false_or,List.map_cons,List.map_nil,List.length_cons,List.length_nil,hll,hg0,hg1]
   refine areg_at 25 (by kernel_rfl) (by kernel_rfl) ?_
   push_cast -implicitDefEqProofs [eq_self,iff_self,encQ,if_false,if_true,or_true,or_false,true_or,false_or,List.map_cons,List.map_nil,List.length_cons,List.length_nil,hll,hg0,hg1]
   refine gcallq (.int 0) (fun h=>by cases h) ?_
   push_cast -implicitDefEqProofs [eq_self,iff_self,encQ,if_false,if_true,or_true,or_false,true_or,false_or,List.map_cons,List.map_nil,List.length_cons,List.length_nil,hll,hg0,hg1]
   refine gcallq (.int 0) (fun h=>by cases h) ?_
   push_cast -implicitDefEqProofs [eq_self,iff_self,encQ,if_false,if_true,or_true,or_false,true_or,false_or,List.map_cons,List.map_nil,List.length_cons,List.length_nil,hll,hg0,hg1]
   refine loop_at hs (σ:=Nat) (fun i=>i ≤ l.length ∧ (partsPl (l.take i)).all (fitP c q) = true) (fun i=>l.length - i)
    (fun i=>[(11, .int i),(3, .ptr (H.nxt + 0) 1 0 0),(4, .ptr (H.nxt + 1) 6 0 0),(5, .ptr (H.nxt + 2) 5 0 0)]) (fun i=>[some (.cells 1 [[.sl (c.map encD)]] 0),some (.cells 6 [encQ q] 0),some (.cells 5 [encPl (.mk 1 occ a b l)] 0)]) [some 0,some 1,some 2] 0 ⟨by omega,by simp [partsPl]⟩ rfl ?_ ?_ ?_
   ·(try push_cast -implicitDefEqProofs [eq_self,iff_self,hll,encDs_pure,encEs_pure,encIs_pure,encQ,List.map_cons,List.map_nil])
   ·(try push_cast -implicitDefEqProofs [eq_self,iff_self,hll,encDs_pure,encEs_pure,encIs_pure,encQ,List.map_cons,List.map_nil])
   rintro i ⟨hi2,hai⟩
   clear hll
   by_cases hi:i < l.length
   ·have hi':((i:Int) < (l.length:Int)) = True:=by simp; omega
    have hi0:(0 ≤ (i:Int)) = True:=by simp
    push_cast -implicitDefEqProofs [eq_self,iff_self,hi',hi0,encPls_get l i hi,encQ]
    refine areg_at 9 (by kernel_rfl) (by kernel_rfl) ?_
    push_cast -implicitDefEqProofs [eq_self,iff_self,hi',hi0,encPls_get l i hi,encQ]
    refine ahdq (ih' l[i] (List.getElem_mem hi)) ?_
    push_cast -implicitDefEqProofs [eq_self,iff_self,encQ]
    refine ⟨fun h=>?_,fun h=>?_⟩
    ·rw [hR0,hft,partsPl_end hi h,Bool.true_and]
    ·rw [wrap64 (n:=(i:Int) + 1) (by omega) (by omega)]
     refine next_at [some 0,some 1,some 2] (i + 1) ⟨by omega,by rw [partsPl_snoc l i hi,List.all_append,hai,h]; rfl⟩ (by omega) rfl ?_ ?_
     ·(try push_cast -implicitDefEqProofs [eq_self,iff_self,encDs_pure,encEs_pure,encIs_pure,encQ])
     ·(try push_cast -implicitDefEqProofs [eq_self,iff_self,encDs_pure,encEs_pure,encIs_pure,encQ])
   ·have hi':((i:Int) < (l.length:Int)) = False:=by simp; omega
    rw [List.take_of_length_le (by omega)] at hai
    push_cast -implicitDefEqProofs [eq_self,iff_self,hi',encQ]
    rw [hR0,hft,hai,Bool.true_and]
  ·push_cast -implicitDefEqProofs [eq_self,iff_self,encQ,if_false,if_true,or_true,or_false,true_or,false_or,List.map_cons,List.map_nil,List.length_cons,List.length_nil,hll,hg0,hg1]
   refine areg_at 13 (by kernel_rfl) (by kernel_rfl) ?_
   push_cast -implicitDefEqProofs [eq_self,iff_self,encQ,if_false,if_true,or_true,or_false,true_or,false_or,List.map_cons,List.map_nil,List.length_cons,List.length_nil,hll,hg0,hg1]
   refine ahdq hSx ?_
   push_cast -implicitDefEqProofs [eq_self,iff_self,encQ,if_false,if_true,or_true,or_false,true_or,false_or,List.map_cons,List.map_nil,List.length_cons,List.length_nil,hll,hg0,hg1]
   refine ahdq hSy ?_
   push_cast -implicitDefEqProofs [eq_self,iff_self,encQ,if_false,if_true,or_true,or_false,true_or,false_or,List.map_cons,List.map_nil,List.length_cons,List.length_nil,hll,hg0,hg1]
   refine ahdq (PairsR_ok q hq _ _) ?_
   push_cast -implicitDefEqProofs [eq_self,iff_self,encQ,if_false,if_true,or_true,or_false,true_or,false_or,List.map_cons,List.map_nil,List.length_cons,List.length_nil,hll,hg0,hg1]
   have hple:=pairs_le q hq (treeP x).set (treeP y).set
   generalize q.pairs (treeP x).set (treeP y).set = ps at hple hfit ⊢
   refine loop_at hs (σ:=Nat) (fun i=>i ≤ ps.length) (fun i=>ps.length - i)
    (fun i=>[(10, .int i),(9, .bool ((ps.take i).contains (a,b))),(8, .sl (ps.map encP)),(3, .ptr (H.nxt + 0) 1 0 0),(4, .ptr (H.nxt + 1) 6 0 0),(5, .ptr (H.nxt + 2) 5 0 0)]) (fun i=>[some (.cells 1 [[.sl (c.map encD)]] 0),some (.cells 6 [encQ q] 0),some (.cells 5 [encPl (.mk 2 occ a b l)] 0)]) [some 0,some 1,some 2] 0 (by omega) rfl ?_ ?_ ?_
   ·(try push_cast -implicitDefEqProofs [eq_self,iff_self,hll,encDs_pure,encEs_pure,encIs_pure,rowP_pure,encQ,List.map_cons,List.map_nil,List.take_zero,List.contains_nil])
   ·(try push_cast -implicitDefEqProofs [eq_self,iff_self,hll,encDs_pure,encEs_pure,encIs_pure,encQ,List.map_cons,List.map_nil])
   intro j hj2
   by_cases hj:j < ps.length
   ·have hj':((j:Int) < (ps.length:Int)) = True:=by simp; omega
    have hj0:(0 ≤ (j:Int)) = True:=by simp
    have hsn:(ps.take (j + 1)).contains (a,b) = ((ps.take j).contains (a,b) || (decide (ps[j].1 = a) && decide (ps[j].2 = b))):=has_snoc ps j hj a b
    have hps:=encPs_get ps j hj
    rw [encP] at hps
    generalize ps[j].1 = u at hps hsn
    generalize ps[j].2 = v at hps hsn
    push_cast -implicitDefEqProofs [eq_self,iff_self,hj',hj0,encQ]
    refine areg_at 11 (by kernel_rfl) (by kernel_rfl) ?_
    cases hz:(ps.take j).contains (a,b)
    ·push_cast -implicitDefEqProofs [eq_self,iff_self,hj',hj0,hps,encQ,lits,cellsEq,cellEq,cmpPl]
     rw [wrap64 (n:=(j:Int) + 1) (by omega) (by omega)]
     refine next_at [some 0,some 1,some 2] (j + 1) (by omega) (by omega) rfl ?_ ?_
     ·(try push_cast -implicitDefEqProofs [eq_self,iff_self,hsn,hz,Bool.false_or,encDs_pure,encEs_pure,encIs_pure,rowP_pure,encQ])
     ·(try push_cast -implicitDefEqProofs [eq_self,iff_self,encDs_pure,encEs_pure,encIs_pure,encQ])
    ·push_cast -implicitDefEqProofs [eq_self,iff_self,hj',hj0,hps,encQ,lits,cellsEq,cellEq,cmpPl]
     rw [wrap64 (n:=(j:Int) + 1) (by omega) (by omega)]
     refine next_at [some 0,some 1,some 2] (j + 1) (by omega) (by omega) rfl ?_ ?_
     ·(try push_cast -implicitDefEqProofs [eq_self,iff_self,hsn,hz,Bool.true_or,encDs_pure,encEs_pure,encIs_pure,rowP_pure,encQ])
     ·(try push_cast -implicitDefEqProofs [eq_self,iff_self,encDs_pure,encEs_pure,encIs_pure,encQ])
   have hj':((j:Int) < (ps.length:Int)) = False:=by simp; omega
   rw [List.take_of_length_le (by omega)]
   push_cast -implicitDefEqProofs [eq_self,iff_self,hj',encQ]
   cases hz:ps.contains (a,b)
   ·push_cast -implicitDefEqProofs [eq_self,iff_self,encQ]
    rw [hR0,hfit,hz]; rfl
   push_cast -implicitDefEqProofs [eq_self,iff_self,encQ]
   refine areg_at 25 (by kernel_rfl) (by kernel_rfl) ?_
   push_cast -implicitDefEqProofs [eq_self,iff_self,encQ,if_false,if_true,or_true,or_false,true_or,false_or,List.map_cons,List.map_nil,List.length_cons,List.length_nil,hll,hg0,hg1]
   refine gcallq (.int 0) (fun h=>by cases h) ?_
   push_cast -implicitDefEqProofs [eq_self,iff_self,encQ,if_false,if_true,or_true,or_false,true_or,false_or,List.map_cons,List.map_nil,List.length_cons,List.length_nil,hll,hg0,hg1]
   refine gcallq (.int 0) (fun h=>by cases h) ?_
   push_cast -implicitDefEqProofs [eq_self,iff_self,encQ,if_false,if_true,or_true,or_false,true_or,false_or,List.map_cons,List.map_nil,List.length_cons,List.length_nil,hll,hg0,hg1]
   have hft:fitP c q (.mk 2 occ a b l) = true:=by rw [hfit,hz]; rfl
   refine loop_at hs (σ:=Nat) (fun i=>i ≤ l.length ∧ (partsPl (l.take i)).all (fitP c q) = true) (fun i=>l.length - i)
    (fun i=>[(11, .int i),(3, .ptr (H.nxt + 0) 1 0 0),(4, .ptr (H.nxt + 1) 6 0 0),(5, .ptr (H.nxt + 2) 5 0 0)]) (fun i=>[some (.cells 1 [[.sl (c.map encD)]] 0),some (.cells 6 [encQ q] 0),some (.cells 5 [encPl (.mk 2 occ a b l)] 0)]) [some 0,some 1,some 2] 0 ⟨by omega,by simp [partsPl]⟩ rfl ?_ ?_ ?_
   ·(try push_cast -implicitDefEqProofs [eq_self,iff_self,hll,encDs_pure,encEs_pure,encIs_pure,encQ,List.map_cons,List.map_nil])
   ·(try push_cast -implicitDefEqProofs [eq_self,iff_self,hll,encDs_pure,encEs_pure,encIs_pure,encQ,List.map_cons,List.map_nil])
   rintro i ⟨hi2,hai⟩
   clear hll
   by_cases hi:i < l.length
   ·have hi':((i:Int) < (l.length:Int)) = True:=by simp; omega
    have hi0:(0 ≤ (i:Int)) = True:=by simp
    push_cast -implicitDefEqProofs [eq_self,iff_self,hi',hi0,encPls_get l i hi,encQ]
    refine areg_at 9 (by kernel_rfl) (by kernel_rfl) ?_
    push_cast -implicitDefEqProofs [eq_self,iff_self,hi',hi0,encPls_get l i hi,encQ]
    refine ahdq (ih' l[i] (List.getElem_mem hi)) ?_
    push_cast -implicitDefEqProofs [eq_self,iff_self,encQ]
    refine ⟨fun h=>?_,fun h=>?_⟩
    ·rw [hR0,hft,partsPl_end hi h,Bool.true_and]
    ·rw [wrap64 (n:=(i:Int) + 1) (by omega) (by omega)]
     refine next_at [some 0,some 1,some 2] (i + 1) ⟨by omega,by rw [partsPl_snoc l i hi,List.all_append,hai,h]; rfl⟩ (by omega) rfl ?_ ?_
     ·(try push_cast -implicitDefEqProofs [eq_self,iff_self,encDs_pure,encEs_pure,encIs_pure,encQ])
     ·(try push_cast -implicitDefEqProofs [eq_self,iff_self,encDs_pure,encEs_pure,encIs_pure,encQ])
   ·have hi':((i:Int) < (l.length:Int)) = False:=by simp; omega
    rw [List.take_of_length_le (by omega)] at hai
    push_cast -implicitDefEqProofs [eq_self,iff_self,hi',encQ]
    rw [hR0,hft,hai,Bool.true_and]
  ·push_cast -implicitDefEqProofs [eq_self,iff_self,encQ,if_false,if_true,or_true,or_false,true_or,false_or,List.map_cons,List.map_nil,List.length_cons,List.length_nil,hll,hg0,hg1]
   refine areg_at 13 (by kernel_rfl) (by kernel_rfl) ?_
   push_cast -implicitDefEqProofs [eq_self,iff_self,encQ,if_false,if_true,or_true,or_false,true_or,false_or,List.map_cons,List.map_nil,List.length_cons,List.length_nil,hll,hg0,hg1]
   refine ahdq hSx ?_
   push_cast -implicitDefEqProofs [eq_self,iff_self,encQ,if_false,if_true,or_true,or_false,true_or,false_or,List.map_cons,List.map_nil,List.length_cons,List.length_nil,hll,hg0,hg1]
   refine ahdq hSy ?_
   push_cast -implicitDefEqProofs [eq_self,iff_self,encQ,if_false,if_true,or_true,or_false,true_or,false_or,List.map_cons,List.map_nil,List.length_cons,List.length_nil,hll,hg0,hg1]
   refine ahdq (PairsR_ok q hq _ _) ?_
   push_cast -implicitDefEqProofs [eq_self,iff_self,encQ,if_false,if_true,or_true,or_false,true_or,false_or,List.map_cons,List.map_nil,List.length_cons,List.length_nil,hll,hg0,hg1]
   have hple:=pairs_le q hq (treeP x).set (treeP y).set
   generalize q.pairs (treeP x).set (treeP y).set = ps at hple hfit ⊢
   refine loop_at hs (σ:=Nat) (fun i=>i ≤ ps.length) (fun i=>ps.length - i)
    (fun i=>[(10, .int i),(9, .bool ((ps.take i).contains (a,b))),(8, .sl (ps.map encP)),(3, .ptr (H.nxt + 0) 1 0 0),(4, .ptr (H.nxt + 1) 6 0 0),(5, .ptr (H.nxt + 2) 5 0 0)]) (fun i=>[some (.cells 1 [[.sl (c.map encD)]] 0),some (.cells 6 [encQ q] 0),some (.cells 5 [encPl (.mk 3 occ a b l)] 0)]) [some 0,some 1,some 2] 0 (by omega) rfl ?_ ?_ ?_
   ·(try push_cast -implicitDefEqProofs [eq_self,iff_self,hll,encDs_pure,encEs_pure,encIs_pure,rowP_pure,encQ,List.map_cons,List.map_nil,List.take_zero,List.contains_nil])
   ·(try push_cast -implicitDefEqProofs [eq_self,iff_self,hll,encDs_pure,encEs_pure,encIs_pure,encQ,List.map_cons,List.map_nil])
   intro j hj2
   by_cases hj:j < ps.length
   ·have hj':((j:Int) < (ps.length:Int)) = True:=by simp; omega
    have hj0:(0 ≤ (j:Int)) = True:=by simp
    have hsn:(ps.take (j + 1)).contains (a,b) = ((ps.take j).contains (a,b) || (decide (ps[j].1 = a) && decide (ps[j].2 = b))):=has_snoc ps j hj a b
    have hps:=encPs_get ps j hj
    rw [encP] at hps
    generalize ps[j].1 = u at hps hsn
    generalize ps[j].2 = v at hps hsn
    push_cast -implicitDefEqProofs [eq_self,iff_self,hj',hj0,encQ]
    refine areg_at 11 (by kernel_rfl) (by kernel_rfl) ?_
    cases hz:(ps.take j).contains (a,b)
    ·push_cast -implicitDefEqProofs [eq_self,iff_self,hj',hj0,hps,encQ,lits,cellsEq,cellEq,cmpPl]
     rw [wrap64 (n:=(j:Int) + 1) (by omega) (by omega)]
     refine next_at [some 0,some 1,some 2] (j + 1) (by omega) (by omega) rfl ?_ ?_
     ·(try push_cast -implicitDefEqProofs [eq_self,iff_self,hsn,hz,Bool.false_or,encDs_pure,encEs_pure,encIs_pure,rowP_pure,encQ])
     ·(try push_cast -implicitDefEqProofs [eq_self,iff_self,encDs_pure,encEs_pure,encIs_pure,encQ])
    ·push_cast -implicitDefEqProofs [eq_self,iff_self,hj',hj0,hps,encQ,lits,cellsEq,cellEq,cmpPl]
     rw [wrap64 (n:=(j:Int) + 1) (by omega) (by omega)]
     refine next_at [some 0,some 1,some 2] (j + 1) (by omega) (by omega) rfl ?_ ?_
     ·(try push_cast -implicitDefEqProofs [eq_self,iff_self,hsn,hz,Bool.true_or,encDs_pure,encEs_pure,encIs_pure,rowP_pure,encQ])
     ·(try push_cast -implicitDefEqProofs [eq_self,iff_self,encDs_pure,encEs_pure,encIs_pure,encQ])
   have hj':((j:Int) < (ps.length:Int)) = False:=by simp; omega
   rw [List.take_of_length_le (by omega)]
   push_cast -implicitDefEqProofs [eq_self,iff_self,hj',encQ]
   cases hz:ps.contains (a,b)
   ·push_cast -implicitDefEqProofs [eq_self,iff_self,encQ]
    rw [hR0,hfit,hz]; rfl
   push_cast -implicitDefEqProofs [eq_self,iff_self,encQ]
   refine areg_at 25 (by kernel_rfl) (by kernel_rfl) ?_
   push_cast -implicitDefEqProofs [eq_self,iff_self,encQ,if_false,if_true,or_true,or_false,true_or,false_or,List.map_cons,List.map_nil,List.length_cons,List.length_nil,hll,hg0,hg1]
   refine gcallq (.int x.order) (fun _=>hOx) ?_
   push_cast -implicitDefEqProofs [eq_self,iff_self,encQ,if_false,if_true,or_true,or_false,true_or,false_or,List.map_cons,List.map_nil,List.length_cons,List.length_nil,hll,hg0,hg1]
   refine gcallq (.int y.order) (fun _=>hOy) ?_
   by_cases h1:x.order = a
   ·by_cases h2:y.order = b
    ·have h1':decide (x.order = a) = true:=by simp [h1]
     have h2':decide (y.order = b) = true:=by simp [h2]
     push_cast -implicitDefEqProofs [eq_self,iff_self,encQ,if_false,if_true,or_true,or_false,true_or,false_or,List.map_cons,List.map_nil,List.length_cons,List.length_nil,hll,hg0,hg1,h1',h2']
     have hft:fitP c q (.mk 3 occ a b l) = true:=by rw [hfit,hz,h1',h2']; rfl
     refine loop_at hs (σ:=Nat) (fun i=>i ≤ l.length ∧ (partsPl (l.take i)).all (fitP c q) = true) (fun i=>l.length - i)
      (fun i=>[(11, .int i),(3, .ptr (H.nxt + 0) 1 0 0),(4, .ptr (H.nxt + 1) 6 0 0),(5, .ptr (H.nxt + 2) 5 0 0)]) (fun i=>[some (.cells 1 [[.sl (c.map encD)]] 0),some (.cells 6 [encQ q] 0),some (.cells 5 [encPl (.mk 3 occ a b l)] 0)]) [some 0,some 1,some 2] 0 ⟨by omega,by simp [partsPl]⟩ rfl ?_ ?_ ?_
     ·(try push_cast -implicitDefEqProofs [eq_self,iff_self,hll,encDs_pure,encEs_pure,encIs_pure,encQ,List.map_cons,List.map_nil])
     ·(try push_cast -implicitDefEqProofs [eq_self,iff_self,hll,encDs_pure,encEs_pure,encIs_pure,encQ,List.map_cons,List.map_nil])
     rintro i ⟨hi2,hai⟩
     clear hll
     by_cases hi:i < l.length
     ·have hi':((i:Int) < (l.length:Int)) = True:=by simp; omega
      have hi0:(0 ≤ (i:Int)) = True:=by simp
      push_cast -implicitDefEqProofs [eq_self,iff_self,hi',hi0,encPls_get l i hi,encQ]
      refine areg_at 9 (by kernel_rfl) (by kernel_rfl) ?_
      push_cast -implicitDefEqProofs [eq_self,iff_self,hi',hi0,encPls_get l i hi,encQ]
      refine ahdq (ih' l[i] (List.getElem_mem hi)) ?_
      push_cast -implicitDefEqProofs [eq_self,iff_self,encQ]
      refine ⟨fun h=>?_,fun h=>?_⟩
      ·rw [hR0,hft,partsPl_end hi h,Bool.true_and]
      ·rw [wrap64 (n:=(i:Int) + 1) (by omega) (by omega)]
       refine next_at [some 0,some 1,some 2] (i + 1) ⟨by omega,by rw [partsPl_snoc l i hi,List.all_append,hai,h]; rfl⟩ (by omega) rfl ?_ ?_
       ·(try push_cast -implicitDefEqProofs [eq_self,iff_self,encDs_pure,encEs_pure,encIs_pure,encQ])
       ·(try push_cast -implicitDefEqProofs [eq_self,iff_self,encDs_pure,encEs_pure,encIs_pure,encQ])
     ·have hi':((i:Int) < (l.length:Int)) = False:=by simp; omega
      rw [List.take_of_length_le (by omega)] at hai
      push_cast -implicitDefEqProofs [eq_self,iff_self,hi',encQ]
      rw [hR0,hft,hai,Bool.true_and]
    ·have h1':decide (x.order = a) = true:=by simp [h1]
     have h2':decide (y.order = b) = false:=by simp [h2]
     push_cast -implicitDefEqProofs [eq_self,iff_self,encQ,if_false,if_true,or_true,or_false,true_or,false_or,List.map_cons,List.map_nil,List.length_cons,List.length_nil,hll,hg0,hg1,h1',h2']
     rw [hR0,hfit,hz,h1',h2']; rfl
   ·have h1':decide (x.order = a) = false:=by simp [h1]
    push_cast -implicitDefEqProofs [eq_self,iff_self,encQ,if_false,if_true,or_true,or_false,true_or,false_or,List.map_cons,List.map_nil,List.length_cons,List.length_nil,hll,hg0,hg1,h1']
    rw [hR0,hfit,hz,h1']; rfl
end
section
attribute [local push_cast] encE_mk encE_take encE_len encV encE_one encEs_pure encE_pure
theorem rowsK_ok (n:Int):Quiet Go.Proofs.Tryz.prog 70 [.int n] (.int (rowsK n)):=by
 refine quiet_of (rs:=#[.tmp 2]) Go.Proofs.Tryz.func70 rfl rfl rfl mixed rfl rfl fun H hs=>?_
 push_cast -implicitDefEqProofs [eq_self,iff_self]
 unfold rowsK
 (repeat' split) <;> omega
theorem timesK_ok (a b:Int) (a0:0 ≤ a) (a1:a ≤ 1099511627776) (b0:0 ≤ b) (b1:b ≤ 1099511627776):Quiet Go.Proofs.Tryz.prog 69 [.int a, .int b] (.int (leastK (a * b))):=by
 refine quiet_of (rs:=#[.tmp 4]) Go.Proofs.Tryz.func69 rfl rfl rfl mixed rfl rfl fun H hs=>?_
 push_cast -implicitDefEqProofs [eq_self,iff_self]
 refine callq (mul64_ok _ _) ?_
 have e1:IntKind.wrap .u64 a = a:=by rw [IntKind.wrap_u64]; omega
 have e2:IntKind.wrap .u64 b = b:=by rw [IntKind.wrap_u64]; omega
 rw [e1,e2]
 have hmul:=mulHi_eq a b (by omega) (by omega) (by omega) (by omega)
 have hM0:0 ≤ a * b:=Int.mul_nonneg a0 b0
 rw [hmul]
 generalize a * b = M at hM0 ⊢
 push_cast -implicitDefEqProofs [eq_self,iff_self]
 rw [IntKind.wrap_u64]
 unfold leastK capK
 refine ⟨fun h=>?_,fun h=>?_⟩
 ·simp only [Bool.or_eq_true,decide_eq_true_eq] at h
  omega
 ·simp only [Bool.or_eq_false_iff,decide_eq_false_iff_not] at h
  rw [wrap64 (by omega) (by omega)]
  omega
theorem ScanK_ok (n:Int):Quiet Go.Proofs.Tryz.prog 99 [.int n] (.int (scanK n)):=by
 have h:=rowsK_range n
 have ht:=timesK_ok 1 (rowsK n) (by omega) (by omega) h.1 h.2
 have e:leastK (1 * rowsK n) = scanK n:=by unfold leastK capK scanK; omega
 rw [e] at ht
 refine quiet_of (rs:=#[.tmp 2]) Go.Proofs.Tryz.func99 rfl rfl rfl mixed rfl rfl fun H hs=>?_
 push_cast -implicitDefEqProofs [eq_self,iff_self]
 refine callq (rowsK_ok n) ?_
 push_cast -implicitDefEqProofs [eq_self,iff_self]
 refine callq ht ?_
 push_cast -implicitDefEqProofs [eq_self,iff_self]
theorem NestK_ok (a b:Int):Quiet Go.Proofs.Tryz.prog 151 [.int a, .int b] (.int (nestK a b)):=by
 have ha:=rowsK_range a
 have hb:=rowsK_range b
 have ht:=timesK_ok (rowsK a) (rowsK b) ha.1 ha.2 hb.1 hb.2
 refine quiet_of (rs:=#[.tmp 4]) Go.Proofs.Tryz.func151 rfl rfl rfl mixed rfl rfl fun H hs=>?_
 push_cast -implicitDefEqProofs [eq_self,iff_self]
 refine callq (rowsK_ok a) ?_
 push_cast -implicitDefEqProofs [eq_self,iff_self]
 refine callq (rowsK_ok b) ?_
 push_cast -implicitDefEqProofs [eq_self,iff_self]
 refine callq ht ?_
 push_cast -implicitDefEqProofs [eq_self,iff_self,nestK]
theorem addTo_snoc (l:List Int) (i:Nat) (h:i < l.length):addK (l.take (i + 1)) = min (addK (l.take i) + min (max l[i] 0) capK) capK:=by
 rw [List.take_succ_eq_append_getElem h,addK_snoc]
theorem AddK_ok (l:List Int) (hl:l.length ≤ 140737488355328):Quiet Go.Proofs.Tryz.prog 25 [.sl (l.map encI)] (.int (addK l)):=by
 refine quiet_of (rs:=#[.tmp 2]) Go.Proofs.Tryz.func25 rfl rfl rfl mixed rfl rfl fun H hs=>?_
 push_cast -implicitDefEqProofs [eq_self,iff_self]
 refine loop_at hs (σ:=Nat) (fun i=>i ≤ l.length) (fun i=>l.length - i)
  (fun i=>[(8, .int i),(7, .int l.length),(6, .sl (l.map encI)),(3, .int (addK (l.take i)))]) (fun _=>[]) [] 0 (by omega) rfl ?_ ?_ ?_
 ·(try push_cast -implicitDefEqProofs [eq_self,iff_self,encIs_pure,List.take_zero,addK_nil])
 ·(try push_cast -implicitDefEqProofs [eq_self,iff_self])
 intro i hi2
 by_cases hi:i < l.length
 ·have hi':((i:Int) < (l.length:Int)) = True:=by simp; omega
  have hi0:(0 ≤ (i:Int)) = True:=by simp
  have hsn:=addTo_snoc l i hi
  have hr:=addK_range (l.take i)
  generalize addK (l.take i) = v at hsn hr ⊢
  generalize hx:l[i] = x at hsn
  unfold capK at hsn hr
  push_cast -implicitDefEqProofs [eq_self,iff_self,hi',hi0,encIs_get l i hi,encI,hx]
  have e1:(if 1125899906842624 < if 0 > x then 0 else x then 1125899906842624 else if 0 > x then 0 else x) = min (max x 0) 1125899906842624:=by (repeat' split) <;> omega
  have hy:0 ≤ min (max x 0) 1125899906842624 ∧ min (max x 0) 1125899906842624 ≤ 1125899906842624:=by omega
  rw [e1]
  generalize min (max x 0) 1125899906842624 = y at hy hsn ⊢
  rw [wrap64 (n:=(i:Int) + 1) (by omega) (by omega),wrap64 (n:=v + y) (by omega) (by omega)]
  have hv:addK (l.take (i + 1)) = if 1125899906842624 < v + y then 1125899906842624 else v + y:=by rw [hsn]; split <;> omega
  refine next_at [] (i + 1) (by omega) (by omega) rfl ?_ ?_
  ·(try push_cast -implicitDefEqProofs [eq_self,iff_self,hv,encIs_pure])
  ·(try push_cast -implicitDefEqProofs [eq_self,iff_self])
 ·have hi':((i:Int) < (l.length:Int)) = False:=by simp; omega
  push_cast -implicitDefEqProofs [eq_self,iff_self,hi']
  rw [List.take_of_length_le (by omega)]
theorem addK_two (a b:Int) (a0:0 ≤ a) (a1:a ≤ capK) (b0:0 ≤ b) (b1:b ≤ capK):addK [a,b] = leastK (a + b):=by
 have e:addK [a,b] = min (min (0 + min (max a 0) capK) capK + min (max b 0) capK) capK:=rfl
 rw [e]
 unfold leastK capK at *
 omega
theorem HashK_ok (a b:Int):Quiet Go.Proofs.Tryz.prog 152 [.int a, .int b] (.int (hashK a b)):=by
 have ha:=rowsK_range a
 have hb:=rowsK_range b
 have h1:=timesK_ok 1 (rowsK a) (by omega) (by omega) ha.1 ha.2
 have h2:=timesK_ok 2 (rowsK b) (by omega) (by omega) hb.1 hb.2
 have e1:leastK (1 * rowsK a) = rowsK a:=by unfold leastK capK; omega
 have e2:leastK (2 * rowsK b) = 2 * rowsK b:=by unfold leastK capK; omega
 rw [e1] at h1
 rw [e2] at h2
 have h3:=AddK_ok [rowsK a,2 * rowsK b] (by simp)
 rw [addK_two _ _ (by omega) (by unfold capK; omega) (by omega) (by unfold capK; omega)] at h3
 refine quiet_of (rs:=#[.tmp 4]) Go.Proofs.Tryz.func152 rfl rfl rfl mixed rfl rfl fun H hs=>?_
 push_cast -implicitDefEqProofs [eq_self,iff_self]
 refine callq (rowsK_ok a) ?_
 push_cast -implicitDefEqProofs [eq_self,iff_self]
 refine callq h1 ?_
 push_cast -implicitDefEqProofs [eq_self,iff_self]
 refine callq (rowsK_ok b) ?_
 push_cast -implicitDefEqProofs [eq_self,iff_self]
 refine callq h2 ?_
 push_cast -implicitDefEqProofs [eq_self,iff_self]
 refine fzk H 0 2 [.sl ([rowsK a,2 * rowsK b].map encI)] (by rfl) (by omega) (by simp) ?_ ?_
 ·(try push_cast -implicitDefEqProofs [eq_self,iff_self,encI,List.map_cons,List.map_nil])
 refine callq h3 ?_
 push_cast -implicitDefEqProofs [eq_self,iff_self,hashK]
theorem MergeK_ok (a b:Int):Quiet Go.Proofs.Tryz.prog 153 [.int a, .int b] (.int (mergeK a b)):=by
 have ha:=rowsK_range a
 have hb:=rowsK_range b
 have h3:=AddK_ok [scanK a,scanK b] (by simp)
 rw [addK_two _ _ (by unfold scanK; omega) (by unfold scanK capK; omega) (by unfold scanK; omega) (by unfold scanK capK; omega)] at h3
 refine quiet_of (rs:=#[.tmp 4]) Go.Proofs.Tryz.func153 rfl rfl rfl mixed rfl rfl fun H hs=>?_
 push_cast -implicitDefEqProofs [eq_self,iff_self]
 refine callq (ScanK_ok a) ?_
 push_cast -implicitDefEqProofs [eq_self,iff_self]
 refine callq (ScanK_ok b) ?_
 push_cast -implicitDefEqProofs [eq_self,iff_self]
 refine fzk H 0 2 [.sl ([scanK a,scanK b].map encI)] (by rfl) (by omega) (by simp) ?_ ?_
 ·(try push_cast -implicitDefEqProofs [eq_self,iff_self,encI,List.map_cons,List.map_nil])
 refine callq h3 ?_
 push_cast -implicitDefEqProofs [eq_self,iff_self,mergeK,scanK]
theorem GroupK_ok (n:Int) (hash:Bool):Quiet Go.Proofs.Tryz.prog 49 [.int n, .bool hash] (.int (groupK n hash)):=by
 have hn:=rowsK_range n
 have h2:=timesK_ok 2 (rowsK n) (by omega) (by omega) hn.1 hn.2
 refine quiet_of (rs:=#[.tmp 4]) Go.Proofs.Tryz.func49 rfl rfl rfl mixed rfl rfl fun H hs=>?_
 cases hash
 ·push_cast -implicitDefEqProofs [eq_self,iff_self]
  refine callq (ScanK_ok n) ?_
  push_cast -implicitDefEqProofs [eq_self,iff_self,groupK,scanK,Bool.false_eq_true,if_false]
 ·push_cast -implicitDefEqProofs [eq_self,iff_self]
  refine callq (rowsK_ok n) ?_
  push_cast -implicitDefEqProofs [eq_self,iff_self]
  refine callq h2 ?_
  push_cast -implicitDefEqProofs [eq_self,iff_self,groupK,if_true]
theorem prices_ok (op:Int):Quiet Go.Proofs.Tryz.prog 136 [.int op] (.agg [if op = 1 then .clo (.func 151) [] [] else if op = 2 then .clo (.func 152) [] [] else if op = 3 then .clo (.func 153) [] [] else .lit .nilFunc]):=by
 have hf:∀ (n:Int) (ks:List Value),(∀ v ∈ ks,∃ m,v = .int .i64 m) → FindAt Go.Proofs.Tryz.prog 3 (.int .i64 n) ks:=fun n ks h=>findAt_int Go.Proofs.Tryz.underlying3 n h
 have f0:=hf 1 [] (by simp)
 have f1:=hf 2 [.int .i64 1] (by simp)
 have f2:=hf 3 [.int .i64 1, .int .i64 2] (by simp)
 have f3:=hf op [.int .i64 1, .int .i64 2, .int .i64 3] (by simp)
 refine quiet_of (rs:=#[.cell 2 154]) Go.Proofs.Tryz.func136 rfl rfl rfl mixed rfl rfl fun H hs=>?_
 by_cases h1:op = 1
 ·subst h1
  push_cast -implicitDefEqProofs [eq_self,iff_self,if_false,if_true,List.map_cons,List.map_nil,f0,f1,f2,f3]
 ·have c1:(op = 1) = False:=by simp [h1]
  by_cases h2:op = 2
  ·subst h2
   push_cast -implicitDefEqProofs [eq_self,iff_self,if_false,if_true,List.map_cons,List.map_nil,f0,f1,f2,f3]
  ·have c2:(op = 2) = False:=by simp [h2]
   by_cases h3:op = 3
   ·subst h3
    push_cast -implicitDefEqProofs [eq_self,iff_self,if_false,if_true,List.map_cons,List.map_nil,f0,f1,f2,f3]
   ·have c3:(op = 3) = False:=by simp [h3]
    push_cast -implicitDefEqProofs [eq_self,iff_self,c1,c2,c3,if_false,if_true,List.map_cons,List.map_nil,f0,f1,f2,f3]
end
section
attribute [local push_cast] encE_mk encE_take encE_len encV encE_one encEs_pure encE_pure
theorem rows10_ok (n:Int):Quiet Go.Proofs.Tryz.prog 100 [.int n] (.int (rowsK n)):=by
 refine quiet_of (rs:=#[.tmp 2]) Go.Proofs.Tryz.func100 rfl rfl rfl mixed rfl rfl fun H hs=>?_
 push_cast -implicitDefEqProofs [eq_self,iff_self]
 unfold rowsK
 refine ⟨fun h=>by omega,fun h=>⟨fun h=>by omega,fun h=>by omega⟩⟩
theorem least10_ok (n:Int):Quiet Go.Proofs.Tryz.prog 98 [.int n] (.int (leastK n)):=by
 refine quiet_of (rs:=#[.tmp 2]) Go.Proofs.Tryz.func98 rfl rfl rfl mixed rfl rfl fun H hs=>?_
 push_cast -implicitDefEqProofs [eq_self,iff_self]
 unfold leastK capK
 exact ⟨fun h=>by omega,fun h=>by omega⟩
theorem Scan10_ok (n:Int):Quiet Go.Proofs.Tryz.prog 164 [.int n] (.int (scanK n)):=by
 refine quiet_of (rs:=#[.tmp 2]) Go.Proofs.Tryz.func164 rfl rfl rfl mixed rfl rfl fun H hs=>?_
 push_cast -implicitDefEqProofs [eq_self,iff_self]
 refine callq (rows10_ok n) ?_
 push_cast -implicitDefEqProofs [eq_self,iff_self,scanK]
theorem Hash10_ok (a b:Int):Quiet Go.Proofs.Tryz.prog 95 [.int a, .int b] (.int (hashK a b)):=by
 have ha:=rowsK_range a
 have hb:=rowsK_range b
 refine quiet_of (rs:=#[.tmp 4]) Go.Proofs.Tryz.func95 rfl rfl rfl mixed rfl rfl fun H hs=>?_
 push_cast -implicitDefEqProofs [eq_self,iff_self]
 refine callq (rows10_ok a) ?_
 push_cast -implicitDefEqProofs [eq_self,iff_self]
 refine callq (rows10_ok b) ?_
 push_cast -implicitDefEqProofs [eq_self,iff_self]
 rw [wrap64 (n:=2 * rowsK b) (by omega) (by omega),wrap64 (n:=rowsK a + 2 * rowsK b) (by omega) (by omega)]
 refine callq (least10_ok _) ?_
 push_cast -implicitDefEqProofs [eq_self,iff_self,hashK]
theorem Merge10_ok (a b:Int):Quiet Go.Proofs.Tryz.prog 96 [.int a, .int b] (.int (mergeK a b)):=by
 have ha:=rowsK_range a
 have hb:=rowsK_range b
 refine quiet_of (rs:=#[.tmp 4]) Go.Proofs.Tryz.func96 rfl rfl rfl mixed rfl rfl fun H hs=>?_
 push_cast -implicitDefEqProofs [eq_self,iff_self]
 refine callq (rows10_ok a) ?_
 push_cast -implicitDefEqProofs [eq_self,iff_self]
 refine callq (rows10_ok b) ?_
 push_cast -implicitDefEqProofs [eq_self,iff_self]
 rw [wrap64 (n:=rowsK a + rowsK b) (by omega) (by omega)]
 refine callq (least10_ok _) ?_
 push_cast -implicitDefEqProofs [eq_self,iff_self,mergeK]
theorem Group10_ok (n:Int) (hash:Bool):Quiet Go.Proofs.Tryz.prog 51 [.int n, .bool hash] (.int (groupK n hash)):=by
 have hn:=rowsK_range n
 refine quiet_of (rs:=#[.tmp 4]) Go.Proofs.Tryz.func51 rfl rfl rfl mixed rfl rfl fun H hs=>?_
 cases hash
 ·push_cast -implicitDefEqProofs [eq_self,iff_self]
  refine callq (rows10_ok n) ?_
  push_cast -implicitDefEqProofs [eq_self,iff_self,groupK,Bool.false_eq_true,if_false]
 ·push_cast -implicitDefEqProofs [eq_self,iff_self]
  refine callq (rows10_ok n) ?_
  push_cast -implicitDefEqProofs [eq_self,iff_self]
  rw [wrap64 (n:=2 * rowsK n) (by omega) (by omega)]
  refine callq (least10_ok _) ?_
  push_cast -implicitDefEqProofs [eq_self,iff_self,groupK,if_true]
theorem Add10_ok (l:List Int) (hl:l.length ≤ 140737488355328):Quiet Go.Proofs.Tryz.prog 47 [.sl (l.map encI)] (.int (addK l)):=by
 refine quiet_of (rs:=#[.tmp 2]) Go.Proofs.Tryz.func47 rfl rfl rfl mixed rfl rfl fun H hs=>?_
 push_cast -implicitDefEqProofs [eq_self,iff_self]
 refine loop_at hs (σ:=Nat) (fun i=>i ≤ l.length) (fun i=>l.length - i)
  (fun i=>[(4, .int i),(0, .sl (l.map encI)),(3, .int (addK (l.take i)))]) (fun _=>[]) [] 0 (by omega) rfl ?_ ?_ ?_
 ·(try push_cast -implicitDefEqProofs [eq_self,iff_self,encIs_pure,List.take_zero,addK_nil])
 ·(try push_cast -implicitDefEqProofs [eq_self,iff_self])
 intro i hi2
 by_cases hi:i < l.length
 ·have hi':((i:Int) < (l.length:Int)) = True:=by simp; omega
  have hi0:(0 ≤ (i:Int)) = True:=by simp
  have hsn:=addTo_snoc l i hi
  have hr:=addK_range (l.take i)
  generalize addK (l.take i) = v at hsn hr ⊢
  generalize hx:l[i] = x at hsn
  by_cases hp:0 < x
  ·have hp':(0 < x) = True:=by simp [hp]
   push_cast -implicitDefEqProofs [eq_self,iff_self,hi',hi0,encIs_get l i hi,encI,hx,hp']
   refine callq (least10_ok _) ?_
   push_cast -implicitDefEqProofs [eq_self,iff_self]
   have hb:leastK x = min (max x 0) capK:=by unfold leastK capK; omega
   have hb2:0 ≤ leastK x ∧ leastK x ≤ capK:=by unfold leastK capK; omega
   rw [wrap64 (n:=v + leastK x) (by unfold capK at *; omega) (by unfold capK at *; omega)]
   refine callq (least10_ok _) ?_
   push_cast -implicitDefEqProofs [eq_self,iff_self]
   rw [wrap64 (n:=(i:Int) + 1) (by omega) (by omega)]
   have hv:addK (l.take (i + 1)) = leastK (v + leastK x):=by rw [hsn,hb]; rfl
   refine next_at [] (i + 1) (by omega) (by omega) rfl ?_ ?_
   ·(try push_cast -implicitDefEqProofs [eq_self,iff_self,hv,encIs_pure])
   ·(try push_cast -implicitDefEqProofs [eq_self,iff_self])
  ·have hp':(0 < x) = False:=by simp; omega
   push_cast -implicitDefEqProofs [eq_self,iff_self,hi',hi0,encIs_get l i hi,encI,hx,hp']
   rw [wrap64 (n:=(i:Int) + 1) (by omega) (by omega)]
   have hv:addK (l.take (i + 1)) = v:=by rw [hsn]; unfold capK at *; omega
   refine next_at [] (i + 1) (by omega) (by omega) rfl ?_ ?_
   ·(try push_cast -implicitDefEqProofs [eq_self,iff_self,hv,encIs_pure])
   ·(try push_cast -implicitDefEqProofs [eq_self,iff_self])
 ·have hi':((i:Int) < (l.length:Int)) = False:=by simp; omega
  push_cast -implicitDefEqProofs [eq_self,iff_self,hi']
  rw [List.take_of_length_le (by omega)]
theorem nest_div {x y:Int} (hx:0 < x) (hy:0 ≤ y):(1125899906842624 / x < y ↔ 1125899906842624 < x * y):=by
 constructor
 ·intro h
  have h1:1125899906842624 / x + 1 ≤ y:=by omega
  have h2:=Int.mul_le_mul_of_nonneg_left h1 (Int.le_of_lt hx)
  have h3:=Int.lt_mul_ediv_self_add (x:=1125899906842624) hx
  rw [Int.mul_add] at h2
  omega
 ·intro h
  rw [Int.ediv_lt_iff_lt_mul hx,Int.mul_comm]
  exact h
theorem Nest10_ok (a b:Int):Quiet Go.Proofs.Tryz.prog 94 [.int a, .int b] (.int (nestK a b)):=by
 have ha:=rowsK_range a
 have hb:=rowsK_range b
 refine quiet_of (rs:=#[.tmp 4]) Go.Proofs.Tryz.func94 rfl rfl rfl mixed rfl rfl fun H hs=>?_
 push_cast -implicitDefEqProofs [eq_self,iff_self]
 refine callq (rows10_ok a) ?_
 push_cast -implicitDefEqProofs [eq_self,iff_self]
 refine callq (rows10_ok b) ?_
 unfold nestK leastK
 generalize rowsK a = x at *
 generalize rowsK b = y at *
 by_cases hx:0 < x
 ·have hx':(0 < x) = True:=by simp [hx]
  have hd:=nest_div hx hb.1
  have hxy:0 ≤ x * y:=Int.mul_nonneg ha.1 hb.1
  have hz:(x = 0) = False:=by simp; omega
  push_cast -implicitDefEqProofs [eq_self,iff_self,hx',hz]
  have h1:0 ≤ 1125899906842624 / x:=Int.ediv_nonneg (by omega) (by omega)
  have h2:1125899906842624 / x ≤ 1125899906842624:=Int.ediv_le_self _ (by omega)
  rw [Int.tdiv_eq_ediv_of_nonneg (by omega),wrap64 (n:=1125899906842624 / x) (by omega) (by omega)]
  unfold capK
  refine ⟨fun h=>?_,fun h=>?_⟩
  ·have:=hd.1 h
   generalize x * y = M at *
   omega
  ·have h5:¬ 1125899906842624 < x * y:=fun h6=>h (hd.2 h6)
   generalize x * y = M at *
   rw [wrap64 (by omega) (by omega)]
   omega
 ·obtain rfl:x = 0:=by omega
  push_cast -implicitDefEqProofs [eq_self,iff_self]
  rw [Int.zero_mul,wrap64 (by omega) (by omega)]
  unfold capK
  omega
end
section
attribute [local push_cast] encE_mk encE_take encE_len encV encE_one encEs_pure encE_pure
theorem log2_shift (n k:Nat) (h:2 ^ k ≤ n):n.log2 = (n / 2 ^ k).log2 + k:=by
 have hp:0 < 2 ^ k:=Nat.two_pow_pos k
 have hm:n / 2 ^ k ≠ 0:=by have:=Nat.div_pos h hp; omega
 have h1:=Nat.log2_self_le hm
 have h2:n / 2 ^ k < 2 ^ ((n / 2 ^ k).log2 + 1):=Nat.lt_log2_self
 rw [Nat.log2_eq_iff (by omega)]
 refine ⟨?_, ?_⟩
 ·rw [Nat.pow_add]
  exact Nat.le_trans (Nat.mul_le_mul_right _ h1) (Nat.div_mul_le_self _ _)
 ·have h3:n / 2 ^ k + 1 ≤ 2 ^ ((n / 2 ^ k).log2 + 1):=h2
  have h4:=Nat.mul_le_mul_right (2 ^ k) h3
  have h5:=Nat.lt_mul_div_succ n hp
  have e:2 ^ ((n / 2 ^ k).log2 + k + 1) = 2 ^ ((n / 2 ^ k).log2 + 1) * 2 ^ k:=by rw [← Nat.pow_add]; congr 1; omega
  rw [e]
  rw [Nat.mul_comm] at h5
  omega
theorem lenK_nat (n:Nat) (h:0 < n):lenK n = n.log2 + 1:=by
 unfold lenK
 rw [if_neg (by omega),Int.toNat_natCast]
theorem lenK_shift (n k:Nat) (h:2 ^ k ≤ n):lenK n = lenK ((n / 2 ^ k:Nat):Int) + k:=by
 have hp:0 < 2 ^ k:=Nat.two_pow_pos k
 have hm:0 < n / 2 ^ k:=Nat.div_pos h hp
 rw [lenK_nat n (by omega),lenK_nat _ hm,log2_shift n k h]
 omega
theorem lenK_count (x:Nat) (k:Nat):(2 ^ k ≤ x ↔ (k:Int) < lenK x):=by
 rcases Nat.eq_zero_or_pos x with rfl | hx
 ·have:0 < 2 ^ k:=Nat.two_pow_pos k
  have e:lenK ((0:Nat):Int) = 0:=by decide
  rw [e]
  omega
 ·rw [lenK_nat x hx,← Nat.le_log2 (by omega)]
  omega
theorem lenK_range {n:Int} (h0:0 ≤ n) (h1:n ≤ 1099511627776):0 ≤ lenK n ∧ lenK n ≤ 41:=by
 obtain ⟨m,rfl⟩:∃ m:Nat,n = m:=⟨n.toNat,by omega⟩
 rcases Nat.eq_zero_or_pos m with rfl | hm
 ·decide
 ·rw [lenK_nat m hm]
  have:m.log2 < 41:=(Nat.log2_lt (by omega)).2 (by omega)
  omega
theorem Sort10_ok (n:Int):Quiet Go.Proofs.Tryz.prog 53 [.int n] (.int (sortK n)):=by
 have hn:=rowsK_range n
 refine quiet_of (rs:=#[.tmp 2]) Go.Proofs.Tryz.func53 rfl rfl rfl mixed rfl rfl fun H hs=>?_
 push_cast -implicitDefEqProofs [eq_self,iff_self]
 refine callq (rows10_ok n) ?_
 unfold sortK
 generalize rowsK n = x at hn ⊢
 obtain ⟨m,rfl⟩:∃ m:Nat,x = m:=⟨x.toNat,by omega⟩
 have hl:=lenK_range hn.1 hn.2
 push_cast -implicitDefEqProofs [eq_self,iff_self]
 refine loop_at hs (σ:=Nat) (fun k=>(k:Int) ≤ lenK m) (fun k=>42 - k)
  (fun k=>[(5, .int (2 ^ k)),(4, .int k),(3, .int m)]) (fun _=>[]) [] 0 (by omega) rfl ?_ ?_ ?_
 ·(try push_cast -implicitDefEqProofs [eq_self,iff_self,Int.pow_zero])
 ·(try push_cast -implicitDefEqProofs [eq_self,iff_self])
 intro k hk
 have hc:=lenK_count m k
 have hcast:((2 ^ k:Nat):Int) = (2:Int) ^ k:=by simp
 by_cases hlt:2 ^ k ≤ m
 ·have hk1:=hc.1 hlt
  have hle:((2:Int) ^ k ≤ (m:Int)) = True:=by simp only [eq_iff_iff,iff_true]; omega
  have hps:(2:Int) ^ (k + 1) = 2 * 2 ^ k:=by rw [Int.pow_succ]; omega
  have hpos:0 < (2:Int) ^ k:=by rw [← hcast]; have:=Nat.two_pow_pos k; omega
  push_cast -implicitDefEqProofs [eq_self,iff_self,hle]
  rw [wrap64 (n:=2 * 2 ^ k) (by omega) (by omega),wrap64 (n:=(k:Int) + 1) (by omega) (by omega)]
  refine next_at [] (k + 1) (by omega) (by omega) rfl ?_ ?_
  ·(try push_cast -implicitDefEqProofs [eq_self,iff_self,hps])
  ·(try push_cast -implicitDefEqProofs [eq_self,iff_self])
 ·have hk1:lenK m = k:=by have:=mt hc.2 hlt; omega
  have hle:((2:Int) ^ k ≤ (m:Int)) = False:=by simp only [eq_iff_iff,iff_false]; omega
  push_cast -implicitDefEqProofs [eq_self,iff_self,hle]
  rw [← hk1]
  have hb:(m:Int) * lenK m ≤ 1099511627776 * 41:=Int.mul_le_mul hn.2 hl.2 hl.1 (by omega)
  have hb0:0 ≤ (m:Int) * lenK m:=Int.mul_nonneg hn.1 hl.1
  rw [wrap64 (n:=(m:Int) * lenK m) (by omega) (by omega)]
  refine callq (least10_ok _) ?_
  push_cast -implicitDefEqProofs [eq_self,iff_self]
theorem bshr32 (x:Nat):bshr .u64 (x:Int) 32 = ((x / 4294967296:Nat):Int):=by
 have e:bshr .u64 (x:Int) 32 = Int.fdiv x 4294967296:=rfl
 rw [e,Int.fdiv_eq_ediv_of_nonneg _ (by omega)]
 rfl
theorem bshr16 (x:Nat):bshr .u64 (x:Int) 16 = ((x / 65536:Nat):Int):=by
 have e:bshr .u64 (x:Int) 16 = Int.fdiv x 65536:=rfl
 rw [e,Int.fdiv_eq_ediv_of_nonneg _ (by omega)]
 rfl
theorem bshr8 (x:Nat):bshr .u64 (x:Int) 8 = ((x / 256:Nat):Int):=by
 have e:bshr .u64 (x:Int) 8 = Int.fdiv x 256:=rfl
 rw [e,Int.fdiv_eq_ediv_of_nonneg _ (by omega)]
 rfl
theorem len_end (T:ByteArray) (hs:T.size = 256) (ht:∀ y:Fin 256,((T[y.val]?.getD 0).toNat:Int) = lenK (y.val:Int)) (y:Nat) (hy:y < 256) (c L:Int) (c0:0 ≤ c) (c1:c ≤ 56) (hL:L = lenK y + c) :
  (0 ≤ IntKind.wrap .u8 (y:Int) ∧ IntKind.wrap .u8 (y:Int) < T.size) ∧ IntKind.wrap .i64 (c + IntKind.wrap .i64 ((T[(IntKind.wrap .u8 (y:Int)).toNat]?.getD 0).toNat:Int)) = L:=by
 have e:IntKind.wrap .u8 (y:Int) = y:=by unfold IntKind.wrap; simp [IntKind.signed,IntKind.bits]; omega
 have h:=ht ⟨y,hy⟩
 have hr:=lenK_range (n:=(y:Int)) (by omega) (by omega)
 dsimp only at h
 rw [e,Int.toNat_natCast,h,wrap64 (n:=lenK y) (by omega) (by omega),wrap64 (n:=c + lenK y) (by omega) (by omega),hL,hs]
 omega
theorem Len64_ok (x:Nat) (hx:x < 18446744073709551616):Quiet Go.Proofs.Tryz.prog 71 [.lit (.int .u64 x)] (.int (lenK x)):=by
 refine quiet_of (rs:=#[.tmp 2]) Go.Proofs.Tryz.func71 rfl rfl rfl mixed rfl rfl fun H hs=>?_
 push_cast -implicitDefEqProofs [eq_self,iff_self]
 generalize hT:(ByteArray.mk _) = T
 have hsz:T.size = 256:=by rw [← hT]; decide +kernel
 have htb:∀ y:Fin 256,((T[y.val]?.getD 0).toNat:Int) = lenK (y.val:Int):=by rw [← hT]; decide +kernel
 clear hT
 have w1:IntKind.wrap .i64 (IntKind.wrap .i64 (32 + 16) + 8) = 56:=by decide
 have w2:IntKind.wrap .i64 (32 + 16) = 48:=by decide
 have w3:IntKind.wrap .i64 (32 + 8) = 40:=by decide
 have w4:IntKind.wrap .i64 (IntKind.wrap .i64 (0 + 16) + 8) = 24:=by decide
 have w5:IntKind.wrap .i64 (0 + 16) = 16:=by decide
 have w6:IntKind.wrap .i64 (0 + 8) = 8:=by decide
 simp only [w1,w2,w3,w4,w5,w6,bshr32,bshr16,bshr8]
 have s32:∀ y:Nat,4294967296 ≤ y → lenK y = lenK ((y / 4294967296:Nat):Int) + 32:=fun y h=>lenK_shift y 32 h
 have s16:∀ y:Nat,65536 ≤ y → lenK y = lenK ((y / 65536:Nat):Int) + 16:=fun y h=>lenK_shift y 16 h
 have s8:∀ y:Nat,256 ≤ y → lenK y = lenK ((y / 256:Nat):Int) + 8:=fun y h=>lenK_shift y 8 h
 refine ⟨fun h1=>⟨fun h2=>⟨fun h3=>?_,fun h3=>?_⟩,fun h2=>⟨fun h3=>?_,fun h3=>?_⟩⟩,fun h1=>⟨fun h2=>⟨fun h3=>?_,fun h3=>?_⟩,fun h2=>⟨fun h3=>?_,fun h3=>?_⟩⟩⟩
 ·exact len_end T hsz htb _ (by omega) 56 _ (by omega) (by omega) (by rw [s32 x (by omega),s16 _ (by omega),s8 _ (by omega)]; omega)
 ·exact len_end T hsz htb _ (by omega) 48 _ (by omega) (by omega) (by rw [s32 x (by omega),s16 _ (by omega)]; omega)
 ·exact len_end T hsz htb _ (by omega) 40 _ (by omega) (by omega) (by rw [s32 x (by omega),s8 _ (by omega)]; omega)
 ·exact len_end T hsz htb _ (by omega) 32 _ (by omega) (by omega) (by rw [s32 x (by omega)])
 ·exact len_end T hsz htb _ (by omega) 24 _ (by omega) (by omega) (by rw [s16 x (by omega),s8 _ (by omega)]; omega)
 ·exact len_end T hsz htb _ (by omega) 16 _ (by omega) (by omega) (by rw [s16 x (by omega)])
 ·exact len_end T hsz htb _ (by omega) 8 _ (by omega) (by omega) (by rw [s8 x (by omega)])
 ·exact len_end T hsz htb _ (by omega) 0 _ (by omega) (by omega) (by omega)
theorem SortK_ok (n:Int):Quiet Go.Proofs.Tryz.prog 29 [.int n] (.int (sortK n)):=by
 have hn:=rowsK_range n
 have hl:=lenK_range hn.1 hn.2
 refine quiet_of (rs:=#[.tmp 2]) Go.Proofs.Tryz.func29 rfl rfl rfl mixed rfl rfl fun H hs=>?_
 push_cast -implicitDefEqProofs [eq_self,iff_self]
 refine callq (rowsK_ok n) ?_
 push_cast -implicitDefEqProofs [eq_self,iff_self]
 refine callq (rowsK_ok n) ?_
 unfold sortK
 generalize rowsK n = x at hn hl ⊢
 obtain ⟨m,rfl⟩:∃ m:Nat,x = m:=⟨x.toNat,by omega⟩
 have e1:IntKind.wrap .u64 (m:Int) = m:=by rw [IntKind.wrap_u64]; omega
 push_cast -implicitDefEqProofs [eq_self,iff_self]
 rw [e1]
 refine callq (Len64_ok m (by omega)) ?_
 push_cast -implicitDefEqProofs [eq_self,iff_self]
 refine callq (timesK_ok (m:Int) (lenK m) hn.1 hn.2 hl.1 (by omega)) ?_
 push_cast -implicitDefEqProofs [eq_self,iff_self]
end
section
attribute [local push_cast] encPl_mk encPl_take encPl_len encPl_one encPls_pure encPl_pure encT_pure encT_len encT_one encT_take
def mayP (c:List Df) (q:Qy) (p:Pl):Bool:=p.tree.2 && q.may c && decide ((treeP p).set < 2 ^ q.occ.length) && (parts p).all (fitP c q)
def ownC (c:List Df) (q:Qy):Pl → Int
 | .mk op occ a b l =>
  match l with
  | []=>scanK (baseR c q occ)
  | [x]=>sortK (rowsQ c q (treeP x).set)
  | x :: y :: _=>if op = 1 then nestK (rowsQ c q (treeP x).set) (rowsQ c q (treeP y).set) else if op = 2 then hashK (rowsQ c q (treeP x).set) (rowsQ c q (treeP y).set) else mergeK (rowsQ c q (treeP x).set) (rowsQ c q (treeP y).set)
theorem leastK_range {n:Int} (h:0 ≤ n):0 ≤ leastK n ∧ leastK n ≤ capK:=by unfold leastK capK; omega
theorem lenK_pos (n:Int):0 ≤ lenK n:=by unfold lenK; split <;> omega
theorem nestK_range (a b:Int):0 ≤ nestK a b ∧ nestK a b ≤ capK:=leastK_range (Int.mul_nonneg (rowsK_range a).1 (rowsK_range b).1)
theorem hashK_range (a b:Int):0 ≤ hashK a b ∧ hashK a b ≤ capK:=leastK_range (by have:=rowsK_range a; have:=rowsK_range b; omega)
theorem mergeK_range (a b:Int):0 ≤ mergeK a b ∧ mergeK a b ≤ capK:=leastK_range (by have:=rowsK_range a; have:=rowsK_range b; omega)
theorem sortK_range (a:Int):0 ≤ sortK a ∧ sortK a ≤ capK:=leastK_range (Int.mul_nonneg (rowsK_range a).1 (lenK_pos _))
theorem scanK_range (a:Int):0 ≤ scanK a ∧ scanK a ≤ capK:=by unfold scanK capK; have:=rowsK_range a; omega
theorem groupK_range (a:Int) (h:Bool):0 ≤ groupK a h ∧ groupK a h ≤ capK:=by
 have:=rowsK_range a
 unfold groupK
 split
 ·exact leastK_range (by omega)
 ·unfold capK; omega
theorem ownC_range (c:List Df) (q:Qy) (p:Pl):0 ≤ ownC c q p ∧ ownC c q p ≤ capK:=by
 obtain ⟨op,occ,a,b,l⟩:=p
 match l with
 | []=>exact scanK_range _
 | [x]=>exact sortK_range _
 | x :: y :: l =>
  simp only [ownC]
  split
  ·exact nestK_range _ _
  ·split
   ·exact hashK_range _ _
   ·exact mergeK_range _ _
def costP (c:List Df) (q:Qy) (p:Pl):Int:=if mayP c q p then addK ((parts p).map (ownC c q)) else capK
theorem few_forms {p:Pl} (h:p.few = true):(parts p).all Pl.form = true:=by
 unfold Pl.few at h
 rw [Bool.and_eq_true] at h
 exact h.2
theorem form_len {p:Pl} (h:p.form = true):p.l.length ≤ 2:=by
 obtain ⟨op,occ,a,b,l⟩:=p
 rcases form_split h with ⟨_,rfl⟩ | ⟨_,x,rfl⟩ | ⟨_,x,y,rfl⟩ <;> simp [Pl.l]
theorem cost_tree {c:List Df} {q:Qy} {p:Pl} (h:p.few = true):addK ((parts p).map (ownC c q)) = costT (ownC c q) p :=
 cost_parts (ownC c q) (ownC_range c q) p fun x hx=>form_len (List.all_eq_true.1 (few_forms h) x hx)
theorem leaf_in {occ a b op:Int} (h:(treeP (.mk op occ a b [])).may = true):0 ≤ occ ∧ occ < 4:=by
 rw [treeP,leaf_may] at h
 simpa using h
set_option maxHeartbeats 4000000 in
theorem costsR_ok (c:List Df) (hcl:c.length ≤ 1000000) (q:Qy) (hq:q.Ok) (hqi:q.In) (p:Pl):p.Ok → p.few = true → (treeP p).may = true → Quiet Go.Proofs.Tryz.prog 142 [.agg [.sl (c.map encD)], .agg (encQ q), .agg (encPl p)] (.int (costT (ownC c q) p)):=by
 induction p using Pl.ind with
 | h op occ a b l ih =>
 intro hok hf hm
 obtain ⟨hl,hlo⟩:=hok
 have hmx:=part_may (few_own hf) hm
 have hfx:∀ x ∈ l,x.few = true:=fun x hx=>few_part hf hx
 have ih':=fun x hx=>ih x hx (hlo x hx) (hfx x hx) (hmx x hx)
 have hS:∀ x ∈ l,Quiet Go.Proofs.Tryz.prog 165 [.agg (encPl x)] (.int (treeP x).set):=fun x hx=>by
  rw [← setOf_may (hfx x hx) (hmx x hx)]; exact SetP_ok x (hlo x hx)
 refine quiet_of (rs:=#[.tmp 6]) Go.Proofs.Tryz.func142 rfl rfl rfl mixed rfl rfl fun H hs=>?_
 rcases form_split (few_own hf) with ⟨rfl,rfl⟩ | ⟨rfl,x,rfl⟩ | ⟨hop,x,y,rfl⟩
 ·have hlf:=leaf_in hm
  have hv:costT (ownC c q) (.mk 0 occ a b []) = scanK (baseR c q occ):=rfl
  rw [hv]
  push_cast -implicitDefEqProofs [eq_self,iff_self,encQ,if_true]
  refine callq (BaseR_ok c hcl q hq hqi occ (by unfold In64; omega)) ?_
  push_cast -implicitDefEqProofs [eq_self,iff_self]
  refine callq (Scan10_ok _) ?_
  push_cast -implicitDefEqProofs [eq_self,iff_self]
 ·have hx:=ih' x (by simp)
  have hSx:=hS x (by simp)
  have hv:costT (ownC c q) (.mk 4 occ a b [x]) = addK [costT (ownC c q) x,sortK (rowsQ c q (treeP x).set)]:=rfl
  have hA:=Add10_ok [costT (ownC c q) x,sortK (rowsQ c q (treeP x).set)] (by simp)
  rw [hv]
  push_cast -implicitDefEqProofs [eq_self,iff_self,encQ,if_false,if_true,or_true,or_false,true_or,false_or,List.map_cons,List.map_nil,List.length_cons,List.length_nil]
  refine areg_at 9 (by kernel_rfl) (by kernel_rfl) ?_
  push_cast -implicitDefEqProofs [eq_self,iff_self,encQ,if_false,if_true,or_true,or_false,true_or,false_or,List.map_cons,List.map_nil,List.length_cons,List.length_nil]
  refine ahdq hSx ?_
  push_cast -implicitDefEqProofs [eq_self,iff_self,encQ,if_false,if_true,or_true,or_false,true_or,false_or,List.map_cons,List.map_nil,List.length_cons,List.length_nil]
  refine ahdq (RowsR_ok c hcl q hq hqi _) ?_
  push_cast -implicitDefEqProofs [eq_self,iff_self,encQ,if_false,if_true,or_true,or_false,true_or,false_or,List.map_cons,List.map_nil,List.length_cons,List.length_nil]
  refine areg_im [39] 12 (by kernel_rfl) (by kernel_rfl) ?_
  push_cast -implicitDefEqProofs [eq_self,iff_self,encQ,if_false,if_true,or_true,or_false,true_or,false_or,List.map_cons,List.map_nil,List.length_cons,List.length_nil]
  refine ahdq hx ?_
  push_cast -implicitDefEqProofs [eq_self,iff_self,encQ,if_false,if_true,or_true,or_false,true_or,false_or,List.map_cons,List.map_nil,List.length_cons,List.length_nil]
  refine ahdq (Sort10_ok _) ?_
  push_cast -implicitDefEqProofs [eq_self,iff_self,encQ,if_false,if_true,or_true,or_false,true_or,false_or,List.map_cons,List.map_nil,List.length_cons,List.length_nil]
  refine ahdq hA ?_
  push_cast -implicitDefEqProofs [eq_self,iff_self,encQ,if_false,if_true,or_true,or_false,true_or,false_or,List.map_cons,List.map_nil,List.length_cons,List.length_nil]
 ·have hx:=ih' x (by simp)
  have hSx:=hS x (by simp)
  have hy:=ih' y (by simp)
  have hSy:=hS y (by simp)
  rcases hop with rfl | rfl | rfl
  ·have hv:costT (ownC c q) (.mk 1 occ a b [x,y]) = addK [costT (ownC c q) x,costT (ownC c q) y,nestK (rowsQ c q (treeP x).set) (rowsQ c q (treeP y).set)]:=rfl
   have hA:=Add10_ok [costT (ownC c q) x,costT (ownC c q) y,nestK (rowsQ c q (treeP x).set) (rowsQ c q (treeP y).set)] (by simp)
   rw [hv]
   push_cast -implicitDefEqProofs [eq_self,iff_self,encQ,if_false,if_true,or_true,or_false,true_or,false_or,List.map_cons,List.map_nil,List.length_cons,List.length_nil]
   refine areg_at 9 (by kernel_rfl) (by kernel_rfl) ?_
   push_cast -implicitDefEqProofs [eq_self,iff_self,encQ,if_false,if_true,or_true,or_false,true_or,false_or,List.map_cons,List.map_nil,List.length_cons,List.length_nil]
   refine ahdq hSx ?_
   push_cast -implicitDefEqProofs [eq_self,iff_self,encQ,if_false,if_true,or_true,or_false,true_or,false_or,List.map_cons,List.map_nil,List.length_cons,List.length_nil]
   refine ahdq (RowsR_ok c hcl q hq hqi _) ?_
   push_cast -implicitDefEqProofs [eq_self,iff_self,encQ,if_false,if_true,or_true,or_false,true_or,false_or,List.map_cons,List.map_nil,List.length_cons,List.length_nil]
   refine areg_at 9 (by kernel_rfl) (by kernel_rfl) ?_
   push_cast -implicitDefEqProofs [eq_self,iff_self,encQ,if_false,if_true,or_true,or_false,true_or,false_or,List.map_cons,List.map_nil,List.length_cons,List.length_nil]
   refine ahdq hSy ?_
   push_cast -implicitDefEqProofs [eq_self,iff_self,encQ,if_false,if_true,or_true,or_false,true_or,false_or,List.map_cons,List.map_nil,List.length_cons,List.length_nil]
   refine ahdq (RowsR_ok c hcl q hq hqi _) ?_
   push_cast -implicitDefEqProofs [eq_self,iff_self,encQ,if_false,if_true,or_true,or_false,true_or,false_or,List.map_cons,List.map_nil,List.length_cons,List.length_nil]
   refine callq (Nest10_ok _ _) ?_
   push_cast -implicitDefEqProofs [eq_self,iff_self,encQ,if_false,if_true,or_true,or_false,true_or,false_or,List.map_cons,List.map_nil,List.length_cons,List.length_nil]
   refine areg_im [79] 18 (by kernel_rfl) (by kernel_rfl) ?_
   push_cast -implicitDefEqProofs [eq_self,iff_self,encQ,if_false,if_true,or_true,or_false,true_or,false_or,List.map_cons,List.map_nil,List.length_cons,List.length_nil]
   refine ahdq hx ?_
   push_cast -implicitDefEqProofs [eq_self,iff_self,encQ,if_false,if_true,or_true,or_false,true_or,false_or,List.map_cons,List.map_nil,List.length_cons,List.length_nil]
   refine ahdq hy ?_
   push_cast -implicitDefEqProofs [eq_self,iff_self,encQ,if_false,if_true,or_true,or_false,true_or,false_or,List.map_cons,List.map_nil,List.length_cons,List.length_nil]
   refine ahdq hA ?_
   push_cast -implicitDefEqProofs [eq_self,iff_self,encQ,if_false,if_true,or_true,or_false,true_or,false_or,List.map_cons,List.map_nil,List.length_cons,List.length_nil]
  ·have hv:costT (ownC c q) (.mk 2 occ a b [x,y]) = addK [costT (ownC c q) x,costT (ownC c q) y,hashK (rowsQ c q (treeP x).set) (rowsQ c q (treeP y).set)]:=rfl
   have hA:=Add10_ok [costT (ownC c q) x,costT (ownC c q) y,hashK (rowsQ c q (treeP x).set) (rowsQ c q (treeP y).set)] (by simp)
   rw [hv]
   push_cast -implicitDefEqProofs [eq_self,iff_self,encQ,if_false,if_true,or_true,or_false,true_or,false_or,List.map_cons,List.map_nil,List.length_cons,List.length_nil]
   refine areg_at 9 (by kernel_rfl) (by kernel_rfl) ?_
   push_cast -implicitDefEqProofs [eq_self,iff_self,encQ,if_false,if_true,or_true,or_false,true_or,false_or,List.map_cons,List.map_nil,List.length_cons,List.length_nil]
   refine ahdq hSx ?_
   push_cast -implicitDefEqProofs [eq_self,iff_self,encQ,if_false,if_true,or_true,or_false,true_or,false_or,List.map_cons,List.map_nil,List.length_cons,List.length_nil]
   refine ahdq (RowsR_ok c hcl q hq hqi _) ?_
   push_cast -implicitDefEqProofs [eq_self,iff_self,encQ,if_false,if_true,or_true,or_false,true_or,false_or,List.map_cons,List.map_nil,List.length_cons,List.length_nil]
   refine areg_at 9 (by kernel_rfl) (by kernel_rfl) ?_
   push_cast -implicitDefEqProofs [eq_self,iff_self,encQ,if_false,if_true,or_true,or_false,true_or,false_or,List.map_cons,List.map_nil,List.length_cons,List.length_nil]
   refine ahdq hSy ?_
   push_cast -implicitDefEqProofs [eq_self,iff_self,encQ,if_false,if_true,or_true,or_false,true_or,false_or,List.map_cons,List.map_nil,List.length_cons,List.length_nil]
   refine ahdq (RowsR_ok c hcl q hq hqi _) ?_
   push_cast -implicitDefEqProofs [eq_self,iff_self,encQ,if_false,if_true,or_true,or_false,true_or,false_or,List.map_cons,List.map_nil,List.length_cons,List.length_nil]
   refine callq (Nest10_ok _ _) ?_
   push_cast -implicitDefEqProofs [eq_self,iff_self,encQ,if_false,if_true,or_true,or_false,true_or,false_or,List.map_cons,List.map_nil,List.length_cons,List.length_nil]
   refine callq (Hash10_ok _ _) ?_
   push_cast -implicitDefEqProofs [eq_self,iff_self,encQ,if_false,if_true,or_true,or_false,true_or,false_or,List.map_cons,List.map_nil,List.length_cons,List.length_nil]
   refine areg_im [79] 18 (by kernel_rfl) (by kernel_rfl) ?_
   push_cast -implicitDefEqProofs [eq_self,iff_self,encQ,if_false,if_true,or_true,or_false,true_or,false_or,List.map_cons,List.map_nil,List.length_cons,List.length_nil]
   refine ahdq hx ?_
   push_cast -implicitDefEqProofs [eq_self,iff_self,encQ,if_false,if_true,or_true,or_false,true_or,false_or,List.map_cons,List.map_nil,List.length_cons,List.length_nil]
   refine ahdq hy ?_
   push_cast -implicitDefEqProofs [eq_self,iff_self,encQ,if_false,if_true,or_true,or_false,true_or,false_or,List.map_cons,List.map_nil,List.length_cons,List.length_nil]
   refine ahdq hA ?_
   push_cast -implicitDefEqProofs [eq_self,iff_self,encQ,if_false,if_true,or_true,or_false,true_or,false_or,List.map_cons,List.map_nil,List.length_cons,List.length_nil]
  ·have hv:costT (ownC c q) (.mk 3 occ a b [x,y]) = addK [costT (ownC c q) x,costT (ownC c q) y,mergeK (rowsQ c q (treeP x).set) (rowsQ c q (treeP y).set)]:=rfl
   have hA:=Add10_ok [costT (ownC c q) x,costT (ownC c q) y,mergeK (rowsQ c q (treeP x).set) (rowsQ c q (treeP y).set)] (by simp)
   rw [hv]
   push_cast -implicitDefEqProofs [eq_self,iff_self,encQ,if_false,if_true,or_true,or_false,true_or,false_or,List.map_cons,List.map_nil,List.length_cons,List.length_nil]
   refine areg_at 9 (by kernel_rfl) (by kernel_rfl) ?_
   push_cast -implicitDefEqProofs [eq_self,iff_self,encQ,if_false,if_true,or_true,or_false,true_or,false_or,List.map_cons,List.map_nil,List.length_cons,List.length_nil]
   refine ahdq hSx ?_
   push_cast -implicitDefEqProofs [eq_self,iff_self,encQ,if_false,if_true,or_true,or_false,true_or,false_or,List.map_cons,List.map_nil,List.length_cons,List.length_nil]
   refine ahdq (RowsR_ok c hcl q hq hqi _) ?_
   push_cast -implicitDefEqProofs [eq_self,iff_self,encQ,if_false,if_true,or_true,or_false,true_or,false_or,List.map_cons,List.map_nil,List.length_cons,List.length_nil]
   refine areg_at 9 (by kernel_rfl) (by kernel_rfl) ?_
   push_cast -implicitDefEqProofs [eq_self,iff_self,encQ,if_false,if_true,or_true,or_false,true_or,false_or,List.map_cons,List.map_nil,List.length_cons,List.length_nil]
   refine ahdq hSy ?_
   push_cast -implicitDefEqProofs [eq_self,iff_self,encQ,if_false,if_true,or_true,or_false,true_or,false_or,List.map_cons,List.map_nil,List.length_cons,List.length_nil]
   refine ahdq (RowsR_ok c hcl q hq hqi _) ?_
   push_cast -implicitDefEqProofs [eq_self,iff_self,encQ,if_false,if_true,or_true,or_false,true_or,false_or,List.map_cons,List.map_nil,List.length_cons,List.length_nil]
   refine callq (Nest10_ok _ _) ?_
   push_cast -implicitDefEqProofs [eq_self,iff_self,encQ,if_false,if_true,or_true,or_false,true_or,false_or,List.map_cons,List.map_nil,List.length_cons,List.length_nil]
   refine callq (Merge10_ok _ _) ?_
   push_cast -implicitDefEqProofs [eq_self,iff_self,encQ,if_false,if_true,or_true,or_false,true_or,false_or,List.map_cons,List.map_nil,List.length_cons,List.length_nil]
   refine areg_im [79] 18 (by kernel_rfl) (by kernel_rfl) ?_
   push_cast -implicitDefEqProofs [eq_self,iff_self,encQ,if_false,if_true,or_true,or_false,true_or,false_or,List.map_cons,List.map_nil,List.length_cons,List.length_nil]
   refine ahdq hx ?_
   push_cast -implicitDefEqProofs [eq_self,iff_self,encQ,if_false,if_true,or_true,or_false,true_or,false_or,List.map_cons,List.map_nil,List.length_cons,List.length_nil]
   refine ahdq hy ?_
   push_cast -implicitDefEqProofs [eq_self,iff_self,encQ,if_false,if_true,or_true,or_false,true_or,false_or,List.map_cons,List.map_nil,List.length_cons,List.length_nil]
   refine ahdq hA ?_
   push_cast -implicitDefEqProofs [eq_self,iff_self,encQ,if_false,if_true,or_true,or_false,true_or,false_or,List.map_cons,List.map_nil,List.length_cons,List.length_nil]
theorem MayPR_ok (c:List Df) (hcl:c.length ≤ 1000000) (q:Qy) (hq:q.Ok) (hqi:q.In) (p:Pl) (hok:p.Ok):Quiet Go.Proofs.Tryz.prog 141 [.agg [.sl (c.map encD)], .agg (encQ q), .agg (encPl p)] (.bool (mayP c q p)):=by
 have hT:=TreeR_ok p hok
 have hM:=MayRQ_ok c hcl q hq hqi
 refine quiet_of (rs:=#[.tmp 6]) Go.Proofs.Tryz.func141 rfl rfl rfl mixed rfl rfl fun H hs=>?_
 push_cast -implicitDefEqProofs [eq_self,iff_self,encQ]
 refine callq hT ?_
 push_cast -implicitDefEqProofs [eq_self,iff_self,encQ]
 refine callq hM ?_
 unfold mayP
 cases ht:p.tree.2
 ·push_cast -implicitDefEqProofs [eq_self,iff_self,encQ,Bool.false_and,Bool.false_eq_true,if_false]
 cases hm:q.may c
 ·push_cast -implicitDefEqProofs [eq_self,iff_self,encQ,Bool.false_and,Bool.and_false,Bool.false_eq_true,if_false]
 have hfm:p.few = true ∧ (treeP p).may = true:=by rw [tree_iff,Bool.and_eq_true] at ht; exact ht
 have hF:=fitsR_ok c hcl q hq hqi p hok hfm.1 hfm.2
 have hL:=LeavesR_ok (treeP p) (treeP_ok p)
 have h4:q.occ.length ≤ 4:=(may_split hm).2.2.1
 have hb:=set_below hfm.2 q.occ.length h4
 have hl16:=lvsT_len 4 (treeP p) (by omega)
 rw [tree_1 ht]
 push_cast -implicitDefEqProofs [eq_self,iff_self,encQ,Bool.true_and]
 refine callq hL ?_
 push_cast -implicitDefEqProofs [eq_self,iff_self,encQ]
 generalize (lvsT 4 (treeP p)).1 = lv at hb hl16 ⊢
 refine loop_at hs (σ:=Nat) (fun i=>i ≤ lv.length ∧ ∀ (j:Nat) (h:j < lv.length),j < i → lv[j] < q.occ.length) (fun i=>lv.length - i)
  (fun i=>[(11, .int i),(10, .sl (lv.map encI)),(3, .ptr (H.nxt + 0) 1 0 0),(4, .ptr (H.nxt + 1) 6 0 0),(5, .ptr (H.nxt + 2) 5 0 0)]) (fun i=>[some (.cells 1 [[.sl (c.map encD)]] 0),some (.cells 6 [encQ q] 0),some (.cells 5 [encPl p] 0)]) [some 0,some 1,some 2] 0 ⟨by omega,fun j _ h=>by omega⟩ rfl ?_ ?_ ?_
 ·(try push_cast -implicitDefEqProofs [eq_self,iff_self,encDs_pure,encEs_pure,encIs_pure,encQ])
 ·(try push_cast -implicitDefEqProofs [eq_self,iff_self,encDs_pure,encEs_pure,encIs_pure,encQ])
 rintro i ⟨hi2,hai⟩
 by_cases hi:i < lv.length
 ·have hi':((i:Int) < (lv.length:Int)) = True:=by simp; omega
  have hi0:(0 ≤ (i:Int)) = True:=by simp
  push_cast -implicitDefEqProofs [eq_self,iff_self,hi',hi0,encIs_get lv i hi,encI,encQ]
  refine areg_at 8 (by kernel_rfl) (by kernel_rfl) ?_
  push_cast -implicitDefEqProofs [eq_self,iff_self,hi',hi0,encIs_get lv i hi,encI,encQ]
  refine ⟨fun h=>?_,fun h=>?_⟩
  ·have hn:¬ (treeP p).set < 2 ^ q.occ.length:=fun h2=>by have:=hb.1 h2 lv[i] (List.getElem_mem hi); omega
   rw [decide_eq_false hn]
   try rfl
  ·rw [wrap64 (n:=(i:Int) + 1) (by omega) (by omega)]
   refine next_at [some 0,some 1,some 2] (i + 1) ⟨by omega,fun j hj hji=>?_⟩ (by omega) rfl ?_ ?_
   ·rcases Nat.lt_or_ge j i with h4 | h4
    ·exact hai j hj h4
    ·obtain rfl:j = i:=by omega
     omega
   ·(try push_cast -implicitDefEqProofs [eq_self,iff_self,encDs_pure,encEs_pure,encIs_pure,encQ])
   ·(try push_cast -implicitDefEqProofs [eq_self,iff_self,encDs_pure,encEs_pure,encIs_pure,encQ])
 ·have hi':((i:Int) < (lv.length:Int)) = False:=by simp; omega
  have hy:(treeP p).set < 2 ^ q.occ.length:=hb.2 fun o ho=>by
   obtain ⟨j,hj,rfl⟩:=List.getElem_of_mem ho
   exact hai j hj (by omega)
  rw [decide_eq_true hy]
  push_cast -implicitDefEqProofs [eq_self,iff_self,hi',encQ,Bool.true_and]
  refine callq hF ?_
  push_cast -implicitDefEqProofs [eq_self,iff_self,encQ]
theorem CostR_ok (c:List Df) (hcl:c.length ≤ 1000000) (q:Qy) (hq:q.Ok) (hqi:q.In) (p:Pl) (hok:p.Ok):Quiet Go.Proofs.Tryz.prog 92 [.agg [.sl (c.map encD)], .agg (encQ q), .agg (encPl p)] (.int (costP c q p)):=by
 have hM:=MayPR_ok c hcl q hq hqi p hok
 unfold costP
 refine quiet_of (rs:=#[.tmp 6]) Go.Proofs.Tryz.func92 rfl rfl rfl mixed rfl rfl fun H hs=>?_
 push_cast -implicitDefEqProofs [eq_self,iff_self,encQ]
 refine callq hM ?_
 cases hm:mayP c q p
 ·push_cast -implicitDefEqProofs [eq_self,iff_self,encQ,Bool.false_eq_true,if_false,capK]
 ·have hfm:p.few = true ∧ (treeP p).may = true:=by
   unfold mayP at hm
   simp only [Bool.and_eq_true] at hm
   have:=hm.1.1.1
   rw [tree_iff,Bool.and_eq_true] at this
   exact this
  have hC:=costsR_ok c hcl q hq hqi p hok hfm.1 hfm.2
  rw [cost_tree hfm.1]
  push_cast -implicitDefEqProofs [eq_self,iff_self,encQ,if_true]
  refine callq hC ?_
  push_cast -implicitDefEqProofs [eq_self,iff_self,encQ]
end
section
attribute [local push_cast] encPl_mk encPl_take encPl_len encPl_one encPls_pure encPl_pure encT_pure encT_len encT_one encT_take
theorem indexP_ok (l:List (Int × Int)) (hl:l.length ≤ 140737488355328) (a b:Int):Quiet Go.Proofs.Tryz.prog 157 [.sl (l.map encP), .agg [.int a, .int b]] (.int (idx (fun p=>decide (a = p.1) && decide (b = p.2)) l)):=by
 refine quiet_of (rs:=#[.tmp 4]) Go.Proofs.Tryz.func157 rfl rfl rfl mixed rfl rfl fun H hs=>?_
 push_cast -implicitDefEqProofs [eq_self,iff_self]
 refine loop_at hs (σ:=Nat) (fun i=>i ≤ l.length ∧ ∀ (j:Nat) (h:j < l.length),j < i → (decide (a = l[j].1) && decide (b = l[j].2)) = false) (fun i=>l.length - i)
  (fun i=>[(0, .sl (l.map encP)),(3, .ptr (H.nxt + 0) 2 0 0),(7, .int l.length),(8, .int i)]) (fun i=>[some (.cells 2 [[.int a, .int b]] 0)]) [some 0] 0 ⟨by omega,fun j _ h=>by omega⟩ rfl ?_ ?_ ?_
 ·(try push_cast -implicitDefEqProofs [eq_self,iff_self,rowP_pure])
 ·(try push_cast -implicitDefEqProofs [eq_self,iff_self])
 rintro i ⟨h2,h3⟩
 by_cases hi:i < l.length
 ·have hi':((i:Int) < (l.length:Int)) = True:=by simp; omega
  have hi0:(0 ≤ (i:Int)) = True:=by simp
  have hps:=encPs_get l i hi
  rw [encP] at hps
  push_cast -implicitDefEqProofs [eq_self,iff_self,hi',hi0]
  refine areg_at 6 (by kernel_rfl) (by kernel_rfl) ?_
  push_cast -implicitDefEqProofs [eq_self,iff_self,hi',hi0,hps,lits,cellsEq,cellEq,cmpPl]
  refine ⟨fun h=>?_,fun h=>?_⟩
  ·exact (idx_hit (p:=fun p:Int × Int=>decide (a = p.1) && decide (b = p.2)) hi h3 h).symm
  ·rw [wrap64 (n:=(i:Int) + 1) (by omega) (by omega)]
   refine next_at [some 0] (i + 1) ⟨by omega,fun j hj hji=>?_⟩ (by omega) rfl ?_ ?_
   ·rcases Nat.lt_or_ge j i with h4 | h4
    ·exact h3 j hj h4
    ·obtain rfl:j = i:=by omega
     exact h
   ·(try push_cast -implicitDefEqProofs [eq_self,iff_self,rowP_pure])
   ·(try push_cast -implicitDefEqProofs [eq_self,iff_self])
 ·have hi':((i:Int) < (l.length:Int)) = False:=by simp; omega
  push_cast -implicitDefEqProofs [eq_self,iff_self,hi']
  exact (idx_miss (p:=fun p:Int × Int=>decide (a = p.1) && decide (b = p.2)) fun j hj=>h3 j hj (by omega)).symm
theorem any_pair (l:List (Int × Int)) (a b:Int):l.any (fun p=>decide (a = p.1) && decide (b = p.2)) = l.contains (a,b):=by
 induction l with
 | nil=>rfl
 | cons p l ih =>
  rw [List.any_cons,List.contains_cons,ih]
  congr 1
theorem containsP_ok (l:List (Int × Int)) (hl:l.length ≤ 1000000) (a b:Int):Quiet Go.Proofs.Tryz.prog 134 [.sl (l.map encP), .agg [.int a, .int b]] (.bool (l.contains (a,b))):=by
 rw [← any_pair]
 refine quiet_of (rs:=#[.tmp 4]) Go.Proofs.Tryz.func134 rfl rfl rfl mixed rfl rfl fun H hs=>?_
 push_cast -implicitDefEqProofs [eq_self,iff_self]
 refine callq (indexP_ok l (by omega) a b) ?_
 push_cast -implicitDefEqProofs [eq_self,iff_self,idx_nonneg]
def Pl.good (p:Pl):Prop:=p.Ok ∧ p.few = true ∧ (treeP p).may = true
theorem good_part {op occ a b:Int} {l:List Pl} (h:Pl.good (.mk op occ a b l)):∀ x ∈ l,Pl.good x:=by
 obtain ⟨⟨hl,hlo⟩,hf,hm⟩:=h
 exact fun x hx=>⟨hlo x hx,few_part hf hx,part_may (few_own hf) hm x hx⟩
set_option maxHeartbeats 4000000 in
theorem fits_ok (c:List Df) (hcl:c.length ≤ 1000000) (q:Qy) (hq:q.Ok) (p:Pl) (hp:Pl.good p):Quiet Go.Proofs.Tryz.prog 78 [.agg (encPl p), .agg [.sl (c.map encD)], .agg (encQ q)] (.bool (fitP c q p)):=by
 obtain ⟨op,occ,a,b,l⟩:=p
 have hsub:=good_part hp
 have hSp:=partSet_ok _ (few_forms hp.2.1)
 rcases form_split (few_own hp.2.1) with ⟨rfl,rfl⟩ | ⟨rfl,x,rfl⟩ | ⟨hop,x,y,rfl⟩
 ·refine quiet_of (rs:=#[.tmp 6]) Go.Proofs.Tryz.func78 rfl rfl rfl mixed rfl rfl fun H hs=>?_
  push_cast -implicitDefEqProofs [eq_self,iff_self,encQ,if_false,if_true,or_true,or_false,true_or,false_or,List.map_cons,List.map_nil,List.length_cons,List.length_nil]
  try rfl
 ·have hv:fitP c q (.mk 4 occ a b [x]) = (q.cols c (treeP (.mk 4 occ a b [x])).set).contains a:=by rw [treeP]; rfl
  have hcl2:(q.cols c (treeP (.mk 4 occ a b [x])).set).length ≤ 1000000:=by
   unfold Qy.cols
   split
   ·have:=colsIn_le c q (bitI (treeP (.mk 4 occ a b [x])).set); omega
   ·simp
  rw [hv]
  refine quiet_of (rs:=#[.tmp 6]) Go.Proofs.Tryz.func78 rfl rfl rfl mixed rfl rfl fun H hs=>?_
  rw [encPl_mk] at hSp
  push_cast -implicitDefEqProofs [eq_self,iff_self,encQ,if_false,if_true,or_true,or_false,true_or,false_or,List.map_cons,List.map_nil,List.length_cons,List.length_nil]
  refine areg_at 11 (by kernel_rfl) (by kernel_rfl) ?_
  push_cast -implicitDefEqProofs [eq_self,iff_self,encQ,if_false,if_true,or_true,or_false,true_or,false_or,List.map_cons,List.map_nil,List.length_cons,List.length_nil]
  refine ahdq hSp ?_
  push_cast -implicitDefEqProofs [eq_self,iff_self,encQ,if_false,if_true,or_true,or_false,true_or,false_or,List.map_cons,List.map_nil,List.length_cons,List.length_nil]
  refine ahdq (ColsQ_ok c hcl q hq _) ?_
  push_cast -implicitDefEqProofs [eq_self,iff_self,encQ,if_false,if_true,or_true,or_false,true_or,false_or,List.map_cons,List.map_nil,List.length_cons,List.length_nil]
  refine ahdq (containsI_ok _ hcl2 a) ?_
  push_cast -implicitDefEqProofs [eq_self,iff_self,encQ,if_false,if_true,or_true,or_false,true_or,false_or,List.map_cons,List.map_nil,List.length_cons,List.length_nil]
 ·have hx:=hsub x (by simp)
  have hy:=hsub y (by simp)
  have hSx:=partSet_ok x (few_forms hx.2.1)
  have hSy:=partSet_ok y (few_forms hy.2.1)
  have hOx:=Order_ok x hx.1
  have hOy:=Order_ok y hy.1
  have hg0:∀ z:List AV,([x,y].map encPl).getD 0 z = encPl x:=fun _=>rfl
  have hg1:∀ z:List AV,([x,y].map encPl).getD 1 z = encPl y:=fun _=>rfl
  have hv:fitP c q (.mk op occ a b [x,y]) = (if op = 1 then true else (q.pairs (treeP x).set (treeP y).set).contains (a,b) && (decide (op = 2) || (decide (x.order = a) && decide (y.order = b)))):=rfl
  rw [hv]
  have hple:=pairs_le q hq (treeP x).set (treeP y).set
  have hP:=Pairs_ok q hq (treeP x).set (treeP y).set
  generalize q.pairs (treeP x).set (treeP y).set = ps at hple hP ⊢
  refine quiet_of (rs:=#[.tmp 6]) Go.Proofs.Tryz.func78 rfl rfl rfl mixed rfl rfl fun H hs=>?_
  rcases hop with rfl | rfl | rfl
  ·push_cast -implicitDefEqProofs [eq_self,iff_self,encQ,if_false,if_true,or_true,or_false,true_or,false_or,List.map_cons,List.map_nil,List.length_cons,List.length_nil]
  ·push_cast -implicitDefEqProofs [eq_self,iff_self,encQ,if_false,if_true,or_true,or_false,true_or,false_or,List.map_cons,List.map_nil,List.length_cons,List.length_nil]
   refine areg_at 16 (by kernel_rfl) (by kernel_rfl) ?_
   push_cast -implicitDefEqProofs [eq_self,iff_self,encQ,if_false,if_true,or_true,or_false,true_or,false_or,List.map_cons,List.map_nil,List.length_cons,List.length_nil]
   refine areg_at 11 (by kernel_rfl) (by kernel_rfl) ?_
   push_cast -implicitDefEqProofs [eq_self,iff_self,encQ,if_false,if_true,or_true,or_false,true_or,false_or,List.map_cons,List.map_nil,List.length_cons,List.length_nil]
   refine ahdq hSx ?_
   push_cast -implicitDefEqProofs [eq_self,iff_self,encQ,if_false,if_true,or_true,or_false,true_or,false_or,List.map_cons,List.map_nil,List.length_cons,List.length_nil]
   refine ahdq hSy ?_
   push_cast -implicitDefEqProofs [eq_self,iff_self,encQ,if_false,if_true,or_true,or_false,true_or,false_or,List.map_cons,List.map_nil,List.length_cons,List.length_nil]
   refine ahdq hP ?_
   push_cast -implicitDefEqProofs [eq_self,iff_self,encQ,if_false,if_true,or_true,or_false,true_or,false_or,List.map_cons,List.map_nil,List.length_cons,List.length_nil]
   refine ahdq (containsP_ok ps hple a b) ?_
   push_cast -implicitDefEqProofs [eq_self,iff_self,encQ,if_false,if_true,or_true,or_false,true_or,false_or,List.map_cons,List.map_nil,List.length_cons,List.length_nil]
   refine areg_at 28 (by kernel_rfl) (by kernel_rfl) ?_
   push_cast -implicitDefEqProofs [eq_self,iff_self,encQ,if_false,if_true,or_true,or_false,true_or,false_or,List.map_cons,List.map_nil,List.length_cons,List.length_nil]
   refine gcallq (.int x.order) (fun _=>hOx) ?_
   push_cast -implicitDefEqProofs [eq_self,iff_self,encQ,if_false,if_true,or_true,or_false,true_or,false_or,List.map_cons,List.map_nil,List.length_cons,List.length_nil]
   refine gcallq (.int y.order) (fun _=>hOy) ?_
   push_cast -implicitDefEqProofs [eq_self,iff_self,encQ,if_false,if_true,or_true,or_false,true_or,false_or,List.map_cons,List.map_nil,List.length_cons,List.length_nil]
  ·push_cast -implicitDefEqProofs [eq_self,iff_self,encQ,if_false,if_true,or_true,or_false,true_or,false_or,List.map_cons,List.map_nil,List.length_cons,List.length_nil]
   refine areg_at 16 (by kernel_rfl) (by kernel_rfl) ?_
   push_cast -implicitDefEqProofs [eq_self,iff_self,encQ,if_false,if_true,or_true,or_false,true_or,false_or,List.map_cons,List.map_nil,List.length_cons,List.length_nil]
   refine areg_at 11 (by kernel_rfl) (by kernel_rfl) ?_
   push_cast -implicitDefEqProofs [eq_self,iff_self,encQ,if_false,if_true,or_true,or_false,true_or,false_or,List.map_cons,List.map_nil,List.length_cons,List.length_nil]
   refine ahdq hSx ?_
   push_cast -implicitDefEqProofs [eq_self,iff_self,encQ,if_false,if_true,or_true,or_false,true_or,false_or,List.map_cons,List.map_nil,List.length_cons,List.length_nil]
   refine ahdq hSy ?_
   push_cast -implicitDefEqProofs [eq_self,iff_self,encQ,if_false,if_true,or_true,or_false,true_or,false_or,List.map_cons,List.map_nil,List.length_cons,List.length_nil]
   refine ahdq hP ?_
   push_cast -implicitDefEqProofs [eq_self,iff_self,encQ,if_false,if_true,or_true,or_false,true_or,false_or,List.map_cons,List.map_nil,List.length_cons,List.length_nil]
   refine ahdq (containsP_ok ps hple a b) ?_
   push_cast -implicitDefEqProofs [eq_self,iff_self,encQ,if_false,if_true,or_true,or_false,true_or,false_or,List.map_cons,List.map_nil,List.length_cons,List.length_nil]
   refine areg_at 28 (by kernel_rfl) (by kernel_rfl) ?_
   push_cast -implicitDefEqProofs [eq_self,iff_self,encQ,if_false,if_true,or_true,or_false,true_or,false_or,List.map_cons,List.map_nil,List.length_cons,List.length_nil]
   refine gcallq (.int x.order) (fun _=>hOx) ?_
   push_cast -implicitDefEqProofs [eq_self,iff_self,encQ,if_false,if_true,or_true,or_false,true_or,false_or,List.map_cons,List.map_nil,List.length_cons,List.length_nil]
   refine gcallq (.int y.order) (fun _=>hOy) ?_
   push_cast -implicitDefEqProofs [eq_self,iff_self,encQ,if_false,if_true,or_true,or_false,true_or,false_or,List.map_cons,List.map_nil,List.length_cons,List.length_nil]
   exact fun h1 h2=>by rw [h1,decide_eq_true h2]; rfl
end
section
attribute [local push_cast] encPl_mk encPl_take encPl_len encPl_one encPls_pure encPl_pure encT_pure encT_len encT_one encT_take
def stNone:St Unit where
 inv _ _ B:=B = fun _=>False
 stable:=by rintro s H H' B rfl _ _; rfl
 low:=by rintro s H B rfl q hq; exact hq.elim
def allStep (f:Pl → Bool) (s:Unit) (p:Pl):Unit × Bool:=((),f p)
mutual
theorem eachP_all (f:Pl → Bool):∀ (p:Pl) (s:Unit),(eachP (allStep f) p s).2 = (parts p).all f
 | .mk op occ a b l,s=>by
  rw [eachP,parts_mk,List.all_cons]
  have h:=eachPL_all f l ()
  by_cases hf:f (.mk op occ a b l) = true
  ·simp only [allStep,hf,if_true,Bool.true_and]; exact h
  ·rw [Bool.not_eq_true] at hf
   simp [allStep,hf]
theorem eachPL_all (f:Pl → Bool):∀ (l:List Pl) (s:Unit),(eachPL (allStep f) l s).2 = (partsPl l).all f
 | [],s=>by rw [eachPL,partsPl]; rfl
 | x :: l,s=>by
  rw [eachPL,partsPl_cons,List.all_append,← eachP_all f x s]
  cases hx:(eachP (allStep f) x s).2
  ·simp
  ·rw [if_pos rfl,Bool.true_and]; exact eachPL_all f l _
end
def addStep (f:Pl → Int) (s:List Int) (p:Pl):List Int × Bool:=(s ++ [f p],true)
mutual
theorem eachP_add (f:Pl → Int):∀ (p:Pl) (s:List Int),eachP (addStep f) p s = (s ++ (parts p).map f,true)
 | .mk op occ a b l,s=>by
  rw [eachP,parts_mk,List.map_cons]
  simp only [addStep,if_true]
  have h:=eachPL_add f l (s ++ [f (.mk op occ a b l)])
  rw [h,List.append_assoc]
  rfl
theorem eachPL_add (f:Pl → Int):∀ (l:List Pl) (s:List Int),eachPL (addStep f) l s = (s ++ (partsPl l).map f,true)
 | [],s=>by rw [eachPL,partsPl,List.map_nil,List.append_nil]
 | x :: l,s=>by
  rw [eachPL,partsPl_cons,List.map_append,eachP_add f x s]
  simp only [if_true]
  rw [eachPL_add f l,List.append_assoc]
end
mutual
theorem cntP_parts:∀ p:Pl,cntP p = (parts p).length
 | .mk op occ a b l=>by rw [cntP,parts_mk,List.length_cons,cntPL_parts l]; omega
theorem cntPL_parts:∀ l:List Pl,cntPL l = (partsPl l).length
 | []=>by rw [cntPL,partsPl]; rfl
 | x :: l=>by rw [cntPL,partsPl_cons,List.length_append,cntP_parts x,cntPL_parts l]
end
theorem mayPl1_ok (c:List Df) (hcl:c.length ≤ 1000000) (q:Qy) (hq:q.Ok) (p:Pl) (hp:Pl.good p) (s:Unit) (H:AH) (B:Nat → Prop) (hI:stNone.inv s H B) :
  ACalls Go.Proofs.Tryz.prog 77 [.agg (encPl p), .iptr [.sl (c.map encD)], .iptr (encQ q)] H (fun r H'=>r = .bool (allStep (fitP c q) s p).2 ∧ Moves stNone (allStep (fitP c q) s p).1 H B H'):=by
 have hF:=fits_ok c hcl q hq p hp
 obtain ⟨op,occ,a,b,l⟩:=p
 rw [encPl_mk] at hF
 refine acalls_sc (rs:=#[.tmp 4]) Go.Proofs.Tryz.func77 rfl rfl rfl mixed rfl (Nat.le_of_ble_eq_true rfl) fun hs _=>?_
 push_cast -implicitDefEqProofs [eq_self,iff_self,encQ]
 refine callq hF ?_
 push_cast -implicitDefEqProofs [eq_self,iff_self,encQ]
 exact retk trivial ⟨rfl,Moves.new hI _⟩
theorem mayP_split {c:List Df} {q:Qy} {p:Pl} (h:mayP c q p = true):q.may c = true ∧ p.tree.2 = true ∧ (p.few = true ∧ (treeP p).may = true) ∧ (treeP p).set < 2 ^ q.occ.length:=by
 unfold mayP at h
 simp only [Bool.and_eq_true,decide_eq_true_eq] at h
 obtain ⟨⟨⟨h1,h2⟩,h3⟩,h4⟩:=h
 refine ⟨h2,h1, ?_,h3⟩
 rw [tree_iff,Bool.and_eq_true] at h1
 exact h1
theorem shr_iff {t:Tr} {n:Nat} (hn:n ≤ 4):¬ 0 < bshr .i64 t.set n ↔ t.set < 2 ^ n:=by
 have hs:=t.set_range
 generalize t.set = s at hs ⊢
 obtain ⟨i,rfl⟩:∃ i:Fin 16,s = (i.val:Int):=⟨⟨s.toNat,by omega⟩,by simp; omega⟩
 obtain ⟨j,rfl⟩:∃ j:Fin 5,n = j.val:=⟨⟨n,by omega⟩,rfl⟩
 clear hs hn
 revert i j
 decide +kernel
theorem shr_below {t:Tr} {n:Nat} (h:t.set < 2 ^ n) (hn:n ≤ 4):¬ 0 < bshr .i64 t.set n:=(shr_iff hn).2 h
theorem below_shr {t:Tr} {n:Nat} (h:¬ 0 < bshr .i64 t.set n) (hn:n ≤ 4):t.set < 2 ^ n:=(shr_iff hn).1 h
theorem MayPl_ok (c:List Df) (hcl:c.length ≤ 1000000) (q:Qy) (hq:q.Ok) (p:Pl) (hok:p.Ok):Quiet Go.Proofs.Tryz.prog 35 [.agg [.sl (c.map encD)], .agg (encQ q), .agg (encPl p)] (.bool (mayP c q p)):=by
 have hT:=Tree_ok p hok
 have hM:=MayQ_ok c hcl q hq
 refine quiet_of (rs:=#[.tmp 6]) Go.Proofs.Tryz.func35 rfl rfl rfl mixed rfl rfl fun H hs=>?_
 push_cast -implicitDefEqProofs [eq_self,iff_self,encQ]
 refine callq hT ?_
 push_cast -implicitDefEqProofs [eq_self,iff_self,encQ]
 refine areg_at 17 (by kernel_rfl) (by kernel_rfl) ?_
 push_cast -implicitDefEqProofs [eq_self,iff_self,encQ]
 refine gcallq (.bool (q.may c)) (fun _=>hM) ?_
 push_cast -implicitDefEqProofs [eq_self,iff_self,encQ]
 refine gcallq (.int p.tree.1.set) (fun _=>SetT_ok _ (tree_ok p)) ?_
 push_cast -implicitDefEqProofs [eq_self,iff_self,encQ]
 refine ⟨fun _=>by omega,fun h=>?_,fun h=>?_⟩
 ·cases hm:mayP c q p
  ·rfl
  have h1:=mayP_split hm
  rw [tree_1 h1.2.1,h1.2.1,h1.1] at h
  have:=shr_below h1.2.2.2 (may_split h1.1).2.2.1
  simp only [Bool.not_true,Bool.false_or,decide_eq_true_eq] at h
  exact absurd h this
 simp only [Bool.or_eq_false_iff,Bool.not_eq_false',decide_eq_false_iff_not] at h
 obtain ⟨⟨ht,hm⟩,hb⟩:=h
 have hfm:p.few = true ∧ (treeP p).may = true:=by rw [tree_iff,Bool.and_eq_true] at ht; exact ht
 rw [tree_1 ht] at hb
 have hv:mayP c q p = (parts p).all (fitP c q):=by
  rw [mayP,ht,hm,decide_eq_true (below_shr hb (may_split hm).2.2.1)]
  rfl
 rw [hv,← eachP_all (fitP c q) p ()]
 refine fzk H 0 1 [.agg (encPl p), .clo (.func 77) [] [.iptr [.sl (c.map encD)], .ptr (H.nxt + 1) 6 0 0]] (by rfl) (by omega) (by simp) ?_ ?_
 ·(try push_cast -implicitDefEqProofs [eq_self,iff_self,encDs_pure])
 refine fzk H 1 1 [.agg (encPl p), .clo (.func 77) [] [.iptr [.sl (c.map encD)], .iptr (encQ q)]] (by rfl) (by omega) (by simp) ?_ ?_
 ·(try push_cast -implicitDefEqProofs [eq_self,iff_self,encDs_pure,encIs_pure,encEs_pure,encQ])
 refine ((eachQ_ok Pl.good (fun e h=>h.1) (fun _ _ _ _ _ h=>good_part h) stNone (allStep (fitP c q)) _ [.iptr [.sl (c.map encD)], .iptr (encQ q)] (fun _=>0) (fun _ _=>by omega) (cntP p) (fun s e H B he _ hI=>mayPl1_ok c hcl q hq e he s H B hI) p () _ (fun _=>False) ⟨hok,hfm⟩ (by omega) rfl).hsc).mono ?_
 rintro r H2 ⟨⟨rfl,hm⟩,hsc2,hle2,-⟩
 obtain ⟨l',rfl⟩:=hm.is_plus (fun q hq=>hq.elim) hsc2
 push_cast -implicitDefEqProofs [eq_self,iff_self]
set_option maxHeartbeats 4000000 in
theorem partCost_ok (c:List Df) (hcl:c.length ≤ 1000000) (q:Qy) (hq:q.Ok) (p:Pl) (hp:Pl.good p):Quiet Go.Proofs.Tryz.prog 80 [.agg (encPl p), .agg [.sl (c.map encD)], .agg (encQ q)] (.int (ownC c q p)):=by
 obtain ⟨op,occ,a,b,l⟩:=p
 have hsub:=good_part hp
 have hSp:=partSet_ok _ (few_forms hp.2.1)
 rcases form_split (few_own hp.2.1) with ⟨rfl,rfl⟩ | ⟨rfl,x,rfl⟩ | ⟨hop,x,y,rfl⟩
 ·have hlf:=leaf_in hp.2.2
  refine quiet_of (rs:=#[.tmp 6]) Go.Proofs.Tryz.func80 rfl rfl rfl mixed rfl rfl fun H hs=>?_
  push_cast -implicitDefEqProofs [eq_self,iff_self,encQ,if_false,if_true,or_true,or_false,true_or,false_or,List.map_cons,List.map_nil,List.length_cons,List.length_nil]
  refine callq (Base_ok c hcl q hq occ (by unfold In64; omega)) ?_
  push_cast -implicitDefEqProofs [eq_self,iff_self,encQ,if_false,if_true,or_true,or_false,true_or,false_or,List.map_cons,List.map_nil,List.length_cons,List.length_nil]
  refine callq (ScanK_ok _) ?_
  push_cast -implicitDefEqProofs [eq_self,iff_self,encQ,if_false,if_true,or_true,or_false,true_or,false_or,List.map_cons,List.map_nil,List.length_cons,List.length_nil,ownC]
 ·have hv:ownC c q (.mk 4 occ a b [x]) = sortK (rowsQ c q (treeP (.mk 4 occ a b [x])).set):=by rw [treeP]; rfl
  rw [hv]
  rw [encPl_mk] at hSp
  refine quiet_of (rs:=#[.tmp 6]) Go.Proofs.Tryz.func80 rfl rfl rfl mixed rfl rfl fun H hs=>?_
  push_cast -implicitDefEqProofs [eq_self,iff_self,encQ,if_false,if_true,or_true,or_false,true_or,false_or,List.map_cons,List.map_nil,List.length_cons,List.length_nil]
  refine areg_at 7 (by kernel_rfl) (by kernel_rfl) ?_
  push_cast -implicitDefEqProofs [eq_self,iff_self,encQ,if_false,if_true,or_true,or_false,true_or,false_or,List.map_cons,List.map_nil,List.length_cons,List.length_nil]
  refine ahdq hSp ?_
  push_cast -implicitDefEqProofs [eq_self,iff_self,encQ,if_false,if_true,or_true,or_false,true_or,false_or,List.map_cons,List.map_nil,List.length_cons,List.length_nil]
  refine ahdq (Rows_ok c hcl q hq _) ?_
  push_cast -implicitDefEqProofs [eq_self,iff_self,encQ,if_false,if_true,or_true,or_false,true_or,false_or,List.map_cons,List.map_nil,List.length_cons,List.length_nil]
  refine ahdq (SortK_ok _) ?_
  push_cast -implicitDefEqProofs [eq_self,iff_self,encQ,if_false,if_true,or_true,or_false,true_or,false_or,List.map_cons,List.map_nil,List.length_cons,List.length_nil]
 ·have hx:=hsub x (by simp)
  have hy:=hsub y (by simp)
  have hSx:=partSet_ok x (few_forms hx.2.1)
  have hSy:=partSet_ok y (few_forms hy.2.1)
  have hg0:∀ z:List AV,([x,y].map encPl).getD 0 z = encPl x:=fun _=>rfl
  have hg1:∀ z:List AV,([x,y].map encPl).getD 1 z = encPl y:=fun _=>rfl
  have hPr:=prices_ok op
  refine quiet_of (rs:=#[.tmp 6]) Go.Proofs.Tryz.func80 rfl rfl rfl mixed rfl rfl fun H hs=>?_
  rcases hop with rfl | rfl | rfl
  ·push_cast -implicitDefEqProofs [eq_self,iff_self,encQ,if_false,if_true,or_true,or_false,true_or,false_or,List.map_cons,List.map_nil,List.length_cons,List.length_nil]
   refine areg_at 16 (by kernel_rfl) (by kernel_rfl) ?_
   push_cast -implicitDefEqProofs [eq_self,iff_self,encQ,if_false,if_true,or_true,or_false,true_or,false_or,List.map_cons,List.map_nil,List.length_cons,List.length_nil]
   refine areg_at 17 (by kernel_rfl) (by kernel_rfl) ?_
   push_cast -implicitDefEqProofs [eq_self,iff_self,encQ,if_false,if_true,or_true,or_false,true_or,false_or,List.map_cons,List.map_nil,List.length_cons,List.length_nil]
   refine ahdq hPr ?_
   push_cast -implicitDefEqProofs [eq_self,iff_self,encQ,if_false,if_true,or_true,or_false,true_or,false_or,List.map_cons,List.map_nil,List.length_cons,List.length_nil]
   refine ahdq hSx ?_
   push_cast -implicitDefEqProofs [eq_self,iff_self,encQ,if_false,if_true,or_true,or_false,true_or,false_or,List.map_cons,List.map_nil,List.length_cons,List.length_nil]
   refine ahdq (Rows_ok c hcl q hq _) ?_
   push_cast -implicitDefEqProofs [eq_self,iff_self,encQ,if_false,if_true,or_true,or_false,true_or,false_or,List.map_cons,List.map_nil,List.length_cons,List.length_nil]
   refine ahdq hSy ?_
   push_cast -implicitDefEqProofs [eq_self,iff_self,encQ,if_false,if_true,or_true,or_false,true_or,false_or,List.map_cons,List.map_nil,List.length_cons,List.length_nil]
   refine ahdq (Rows_ok c hcl q hq _) ?_
   push_cast -implicitDefEqProofs [eq_self,iff_self,encQ,if_false,if_true,or_true,or_false,true_or,false_or,List.map_cons,List.map_nil,List.length_cons,List.length_nil]
   refine ahdq (NestK_ok _ _) ?_
   push_cast -implicitDefEqProofs [eq_self,iff_self,encQ,if_false,if_true,or_true,or_false,true_or,false_or,List.map_cons,List.map_nil,List.length_cons,List.length_nil,ownC]
  ·push_cast -implicitDefEqProofs [eq_self,iff_self,encQ,if_false,if_true,or_true,or_false,true_or,false_or,List.map_cons,List.map_nil,List.length_cons,List.length_nil]
   refine areg_at 16 (by kernel_rfl) (by kernel_rfl) ?_
   push_cast -implicitDefEqProofs [eq_self,iff_self,encQ,if_false,if_true,or_true,or_false,true_or,false_or,List.map_cons,List.map_nil,List.length_cons,List.length_nil]
   refine areg_at 17 (by kernel_rfl) (by kernel_rfl) ?_
   push_cast -implicitDefEqProofs [eq_self,iff_self,encQ,if_false,if_true,or_true,or_false,true_or,false_or,List.map_cons,List.map_nil,List.length_cons,List.length_nil]
   refine ahdq hPr ?_
   push_cast -implicitDefEqProofs [eq_self,iff_self,encQ,if_false,if_true,or_true,or_false,true_or,false_or,List.map_cons,List.map_nil,List.length_cons,List.length_nil]
   refine ahdq hSx ?_
   push_cast -implicitDefEqProofs [eq_self,iff_self,encQ,if_false,if_true,or_true,or_false,true_or,false_or,List.map_cons,List.map_nil,List.length_cons,List.length_nil]
   refine ahdq (Rows_ok c hcl q hq _) ?_
   push_cast -implicitDefEqProofs [eq_self,iff_self,encQ,if_false,if_true,or_true,or_false,true_or,false_or,List.map_cons,List.map_nil,List.length_cons,List.length_nil]
   refine ahdq hSy ?_
   push_cast -implicitDefEqProofs [eq_self,iff_self,encQ,if_false,if_true,or_true,or_false,true_or,false_or,List.map_cons,List.map_nil,List.length_cons,List.length_nil]
   refine ahdq (Rows_ok c hcl q hq _) ?_
   push_cast -implicitDefEqProofs [eq_self,iff_self,encQ,if_false,if_true,or_true,or_false,true_or,false_or,List.map_cons,List.map_nil,List.length_cons,List.length_nil]
   refine ahdq (HashK_ok _ _) ?_
   push_cast -implicitDefEqProofs [eq_self,iff_self,encQ,if_false,if_true,or_true,or_false,true_or,false_or,List.map_cons,List.map_nil,List.length_cons,List.length_nil,ownC]
  ·push_cast -implicitDefEqProofs [eq_self,iff_self,encQ,if_false,if_true,or_true,or_false,true_or,false_or,List.map_cons,List.map_nil,List.length_cons,List.length_nil]
   refine areg_at 16 (by kernel_rfl) (by kernel_rfl) ?_
   push_cast -implicitDefEqProofs [eq_self,iff_self,encQ,if_false,if_true,or_true,or_false,true_or,false_or,List.map_cons,List.map_nil,List.length_cons,List.length_nil]
   refine areg_at 17 (by kernel_rfl) (by kernel_rfl) ?_
   push_cast -implicitDefEqProofs [eq_self,iff_self,encQ,if_false,if_true,or_true,or_false,true_or,false_or,List.map_cons,List.map_nil,List.length_cons,List.length_nil]
   refine ahdq hPr ?_
   push_cast -implicitDefEqProofs [eq_self,iff_self,encQ,if_false,if_true,or_true,or_false,true_or,false_or,List.map_cons,List.map_nil,List.length_cons,List.length_nil]
   refine ahdq hSx ?_
   push_cast -implicitDefEqProofs [eq_self,iff_self,encQ,if_false,if_true,or_true,or_false,true_or,false_or,List.map_cons,List.map_nil,List.length_cons,List.length_nil]
   refine ahdq (Rows_ok c hcl q hq _) ?_
   push_cast -implicitDefEqProofs [eq_self,iff_self,encQ,if_false,if_true,or_true,or_false,true_or,false_or,List.map_cons,List.map_nil,List.length_cons,List.length_nil]
   refine ahdq hSy ?_
   push_cast -implicitDefEqProofs [eq_self,iff_self,encQ,if_false,if_true,or_true,or_false,true_or,false_or,List.map_cons,List.map_nil,List.length_cons,List.length_nil]
   refine ahdq (Rows_ok c hcl q hq _) ?_
   push_cast -implicitDefEqProofs [eq_self,iff_self,encQ,if_false,if_true,or_true,or_false,true_or,false_or,List.map_cons,List.map_nil,List.length_cons,List.length_nil]
   refine ahdq (MergeK_ok _ _) ?_
   push_cast -implicitDefEqProofs [eq_self,iff_self,encQ,if_false,if_true,or_true,or_false,true_or,false_or,List.map_cons,List.map_nil,List.length_cons,List.length_nil,ownC]
end
section
attribute [local push_cast] encPl_mk encPl_take encPl_len encPl_one encPls_pure encPl_pure encT_pure encT_len encT_one encT_take
theorem cost1_ok (c:List Df) (hcl:c.length ≤ 1000000) (q:Qy) (hq:q.Ok) (i:Nat) (p:Pl) (hp:Pl.good p) (s:List Int) (H:AH) (B:Nat → Prop) (hs1:s.length < 1000000) (hI:(stRow i).inv s H B) :
  ACalls Go.Proofs.Tryz.prog 79 [.agg (encPl p), .ptr i 1 0 0, .iptr [.sl (c.map encD)], .iptr (encQ q)] H (fun r H'=>r = .bool (addStep (ownC c q) s p).2 ∧ Moves (stRow i) (addStep (ownC c q) s p).1 H B H'):=by
 have hC:=partCost_ok c hcl q hq p hp
 have hpl:=encPl_len p
 refine acalls_sc (rs:=#[.tmp 5]) Go.Proofs.Tryz.func79 rfl rfl rfl mixed rfl (Nat.le_of_ble_eq_true rfl) fun hs _=>?_
 have hIc:=hI
 rcases hI with ⟨rfl,h2,h3,rfl⟩ | ⟨j,h1,h2,h3,h4,h5,rfl⟩
 ·have hob:∀ l,(H.plus l).obj i = some (.cells 1 [[.nilS]] 0):=fun l=>by rw [plus_low H l h2]; exact h3
  have hset:∀ l o,(H.plus l).set i o = (H.set i o).plus l:=fun l o=>plus_setlow H l h2 o
  push_cast -implicitDefEqProofs [eq_self,iff_self,hob,hset,encQ]
  refine areg_grow [some (.cells 5 [encPl p] 0)] 7 ?_ (by kernel_rfl) (by kernel_rfl) (by kernel_rfl) ?_
  ·intro j o hj
   exact hj
  push_cast -implicitDefEqProofs [eq_self,iff_self,hob,hset,encQ]
  refine ⟨_,hC, ?_⟩
  push_cast -implicitDefEqProofs [eq_self,iff_self,hob,hset,encQ]
  refine retk trivial ⟨rfl, ?_⟩
  simp only [addStep,List.nil_append]
  refine stRow_push rfl rfl (fun q hq hb=>?_) h2 1 rfl ?_
  ·show (if q = i then _ else H.obj q) = _
   rw [if_neg hb]
  ·show (if i = i then _ else H.obj i) = _
   rw [if_pos rfl]
   rfl
 ·have hob:∀ l,(H.plus l).obj i = some (.cells 1 [[.rsl j 1 0 s.length]] 0):=fun l=>by rw [plus_low H l h2]; exact h4
  have hoj:∀ l,(H.plus l).obj j = some (.cells 1 (rowI s) 0):=fun l=>by rw [plus_low H l h3]; exact h5
  have hdel:∀ l,(H.plus l).del j = (H.del j).plus l:=fun l=>plus_dellow H l h3
  have hob2:∀ l,((H.del j).plus l).obj i = some (.cells 1 [[.rsl j 1 0 s.length]] 0):=fun l=>by
   rw [plus_low (H.del j) l h2]
   show (if i = j then none else H.obj i) = _
   rw [if_neg (Ne.symm h1),h4]
  have hoj2:∀ l,((H.del j).plus l).obj j = none:=fun l=>by
   rw [plus_low (H.del j) l h3]
   show (if j = j then none else H.obj j) = _
   rw [if_pos rfl]
  have hpo:∀ l k,((H.del j).plus l).obj (H.nxt + k) = (l[k]?).join:=fun l k=>plus_obj (H.del j) l k
  have hset2:∀ l o,((H.del j).plus l).set i o = ((H.del j).set i o).plus l:=fun l o=>plus_setlow (H.del j) l h2 o
  push_cast -implicitDefEqProofs [eq_self,iff_self,hob,hoj,hdel,hob2,hset2,del_nxt,encQ]
  refine .inl (aregE_chain ((H.del j).plus [some (.cells 5 [encPl p] 0)]) 7 (by kernel_rfl) (by kernel_rfl) (by kernel_rfl) (fun k o hk=>?_) ?_)
  ·rw [← hdel] at hk
   change (if k = j then none else _) = _ at hk
   split at hk
   ·cases hk
   ·exact hk
  push_cast -implicitDefEqProofs [eq_self,iff_self,hob,hoj,hdel,hob2,hoj2,hset2,hpo,del_nxt,encQ]
  refine ⟨_,hC, ?_⟩
  push_cast -implicitDefEqProofs [eq_self,iff_self,hob,hoj,hdel,hob2,hoj2,hset2,hpo,del_nxt,encQ]
  refine ⟨by omega,retk trivial ⟨rfl, ?_⟩⟩
  simp only [addStep]
  refine stRow_push rfl (.inl rfl) (fun q hq hb=>?_) h2 1 ?_ ?_
  ·show (if q = i then _ else (if q = j then none else H.obj q)) = _
   rw [if_neg (fun e=>hb (.inl e)),if_neg (fun e=>hb (.inr e))]
  ·simp only [List.getElem?_cons_succ,List.getElem?_cons_zero]
   rw [List.take_of_length_le (by simp [rowI]),rowI,rowI,List.map_append]
   rfl
  ·show (if i = i then _ else _) = _
   rw [if_pos rfl,List.length_append]
   rfl
theorem CostPl_ok (c:List Df) (hcl:c.length ≤ 1000000) (q:Qy) (hq:q.Ok) (p:Pl) (hok:p.Ok):Quiet Go.Proofs.Tryz.prog 38 [.agg [.sl (c.map encD)], .agg (encQ q), .agg (encPl p)] (.int (costP c q p)):=by
 have hM:=MayPl_ok c hcl q hq p hok
 unfold costP
 refine quiet_of (rs:=#[.tmp 6]) Go.Proofs.Tryz.func38 rfl rfl rfl mixed rfl rfl fun H hs=>?_
 push_cast -implicitDefEqProofs [eq_self,iff_self,encQ]
 refine callq hM ?_
 cases hm:mayP c q p
 ·push_cast -implicitDefEqProofs [eq_self,iff_self,encQ,Bool.false_eq_true,if_false,capK]
 have h1:=mayP_split hm
 have hgood:Pl.good p:=⟨hok,h1.2.2.1⟩
 have hpl:(parts p).length ≤ 20:=by
  have:=h1.2.2.1.1
  unfold Pl.few at this
  simp only [Bool.and_eq_true,decide_eq_true_eq] at this
  exact this.1
 have hpp:1 ≤ (parts p).length:=by obtain ⟨op,occ,a,b,l⟩:=p; rw [parts_mk]; simp
 have hA:=AddK_ok ((parts p).map (ownC c q)) (by rw [List.length_map]; omega)
 have hst:=eachP_add (ownC c q) p []
 rw [List.nil_append] at hst
 push_cast -implicitDefEqProofs [eq_self,iff_self,encQ,if_true]
 refine fzk H 0 1 [.agg (encPl p), .clo (.func 79) [] [.ptr (H.nxt + 3) 1 0 0, .iptr [.sl (c.map encD)], .ptr (H.nxt + 1) 6 0 0]] (by rfl) (by omega) (by simp) ?_ ?_
 ·(try push_cast -implicitDefEqProofs [eq_self,iff_self,encDs_pure])
 refine fzk H 1 1 [.agg (encPl p), .clo (.func 79) [] [.ptr (H.nxt + 3) 1 0 0, .iptr [.sl (c.map encD)], .iptr (encQ q)]] (by rfl) (by omega) (by simp) ?_ ?_
 ·(try push_cast -implicitDefEqProofs [eq_self,iff_self,encDs_pure,encIs_pure,encEs_pure,encQ])
 refine ((eachQ_ok Pl.good (fun e h=>h.1) (fun _ _ _ _ _ h=>good_part h) (stRow (H.nxt + 3)) (addStep (ownC c q)) _ [.ptr (H.nxt + 3) 1 0 0, .iptr [.sl (c.map encD)], .iptr (encQ q)] List.length (fun _ _=>by simp [addStep]) 1000000 (fun s e H B he hw hI=>cost1_ok c hcl q hq _ e he s H B hw hI) p [] _ (fun q=>q = H.nxt + 3) hgood (by rw [cntP_parts]; simp; omega) (.inl ⟨rfl,by simp [plus_nxt],by rw [plus_obj]; rfl,rfl⟩)).hsc).mono ?_
 rintro r H2 ⟨⟨rfl,hm⟩,hsc2,hle2,-⟩
 rw [hst] at hm ⊢
 obtain ⟨l',rfl⟩:=hm.is_plus (fun q hq=>by omega) hsc2
 obtain ⟨hm1,hm2,B',hB',hBB⟩:=hm
 rcases hB' with ⟨hnil,_,hv,rfl⟩ | ⟨j,hj1,hj2,hj3,hv,hrow,rfl⟩
 ·have:((parts p).map (ownC c q)).length = 0:=by dsimp only at hnil; rw [hnil]; rfl
  rw [List.length_map] at this
  omega
 have hjn:H.nxt ≤ j:=by
  rcases hBB j (.inr rfl) with h1 | h1
  ·omega
  ·rw [plus_nxt] at h1; omega
 obtain ⟨k,rfl⟩:∃ k,j = H.nxt + k:=⟨j - H.nxt,by omega⟩
 have hkl:k < l'.length:=by rw [plus_nxt] at hj3; omega
 rw [plus_obj] at hv hrow
 push_cast -implicitDefEqProofs [eq_self,iff_self,hv,hrow]
 have hk:l'[k]? = some (some (.cells 1 (rowI ((parts p).map (ownC c q))) 0)):=by
  cases hx:l'[k]? with
  | none=>rw [hx] at hrow; cases hrow
  | some x=>rw [hx] at hrow; simp only [Option.join_some] at hrow; rw [hrow]
 have htk:List.take (parts p).length (rowI ((parts p).map (ownC c q))) = ((parts p).map (ownC c q)).map encI:=List.take_of_length_le (by simp [rowI])
 refine fzk H k (parts p).length [.sl (((parts p).map (ownC c q)).map encI)] hk (by omega) (by simp [rowI]) ?_ ?_
 ·(try push_cast -implicitDefEqProofs [eq_self,iff_self,hrow,htk,encIs_pure])
  rw [List.getElem?_set_self hkl]
  exact Nat.le_refl (parts p).length
 refine callq hA ?_
 push_cast -implicitDefEqProofs [eq_self,iff_self]
end
section
attribute [local push_cast] encPl_mk encPl_take encPl_len encPl_one encPls_pure encPl_pure encT_pure encT_len encT_one encT_take
def encW (p:Pl) (e:Int) (s:Bool):List AV:=encPl p ++ [.int e, .bool s]
theorem encW_mk (op occ a b:Int) (l:List Pl) (e:Int) (s:Bool):encW (.mk op occ a b l) e s = [.int op, .int occ, .int a, .int b, .sl (l.map encPl), .int e, .bool s]:=by rw [encW,encPl_mk]; rfl
def endP (q:Qy) (o e:Int) (s:Bool):Bool:=decide (0 ≤ e) && decide (e < 3) && (decide (e = 0) == decide (q.by_ = -1)) &&
 (if s then decide (q.ord ≠ -1) && decide (e = 1) else if e = 2 then decide (o = q.by_) else if q.ord ≠ -1 then decide (e = 0) && decide (o = q.ord) else true)
def fineP (c:List Df) (q:Qy) (p:Pl) (e:Int) (s:Bool):Bool:=mayP c q p && decide ((treeP p).set = 2 ^ q.occ.length - 1) && endP q p.order e s
def allL (c:List Df) (q:Qy) (p:Pl) (e:Int) (s:Bool):List Int:=[costP c q p] ++ (if e = 0 then [] else [groupK (rowsQ c q 15) (decide (e = 1))]) ++ (if s then [sortK (groupsQ c q)] else [])
def allP (c:List Df) (q:Qy) (p:Pl) (e:Int) (s:Bool):Int:=if fineP c q p e s then addK (allL c q p e s) else capK
theorem shl_one {n:Nat} (hn:n ≤ 4):bshl .i64 1 n = 2 ^ n:=by
 obtain ⟨j,rfl⟩:∃ j:Fin 5,n = j.val:=⟨⟨n,by omega⟩,rfl⟩
 clear hn
 revert j
 decide +kernel
theorem pow_full {n:Nat} (hn:n ≤ 4):(1:Int) ≤ 2 ^ n ∧ (2:Int) ^ n ≤ 16:=by
 obtain ⟨j,rfl⟩:∃ j:Fin 5,n = j.val:=⟨⟨n,by omega⟩,rfl⟩
 clear hn
 revert j
 decide +kernel
theorem rows_full {c:List Df} {q:Qy} (h:q.may c = true):rowsQ c q (2 ^ q.occ.length - 1) = rowsQ c q 15:=by
 refine rowsQ_congr h fun i hi=>?_
 have h4:=(may_split h).2.2.1
 obtain ⟨j,hj⟩:∃ j:Fin 5,q.occ.length = j.val:=⟨⟨q.occ.length,by omega⟩,rfl⟩
 rw [hj] at hi ⊢
 obtain ⟨k,rfl⟩:∃ k:Fin 5,i = k.val:=⟨⟨i,by omega⟩,rfl⟩
 clear hj h4
 revert hi
 revert j k
 decide +kernel
set_option maxHeartbeats 4000000 in
theorem FinePl_ok (c:List Df) (hcl:c.length ≤ 1000000) (q:Qy) (hq:q.Ok) (p:Pl) (hok:p.Ok) (e:Int) (s:Bool):Quiet Go.Proofs.Tryz.prog 32 [.agg [.sl (c.map encD)], .agg (encQ q), .agg (encW p e s)] (.bool (fineP c q p e s)):=by
 have hM:=MayPl_ok c hcl q hq p hok
 have hT:=Tree_ok p hok
 have hO:=Order_ok p hok
 have hS:=SetT_ok _ (tree_ok p)
 cases hm:mayP c q p
 ·have hv:fineP c q p e s = false:=by rw [fineP,hm]; rfl
  rw [hv]
  rw [hm] at hM
  obtain ⟨op,occ,a,b,l⟩:=p
  rw [encPl_mk] at hM hT hO
  rw [encW_mk]
  refine quiet_of (rs:=#[.tmp 6]) Go.Proofs.Tryz.func32 rfl rfl rfl mixed rfl rfl fun H hs=>?_
  push_cast -implicitDefEqProofs [eq_self,iff_self,encQ]
  refine callq hT ?_
  push_cast -implicitDefEqProofs [eq_self,iff_self,encQ]
  refine areg_at 35 (by kernel_rfl) (by kernel_rfl) ?_
  push_cast -implicitDefEqProofs [eq_self,iff_self,encQ]
  refine ahdq hM ?_
  push_cast -implicitDefEqProofs [eq_self,iff_self,encQ]
  refine gcallq (.int 0) (fun h=>by cases h) ?_
  push_cast -implicitDefEqProofs [eq_self,iff_self,encQ]
 ·have h1:=mayP_split hm
  have h4:=(may_split h1.1).2.2.1
  have hpw:=pow_full h4
  have hsh:=shl_one h4
  have hv:fineP c q p e s = (decide ((treeP p).set = 2 ^ q.occ.length - 1) && endP q p.order e s):=by rw [fineP,hm]; rfl
  rw [hv]
  rw [hm] at hM
  rw [tree_1 h1.2.1] at hT hS
  generalize (treeP p).set = S at hS ⊢
  generalize p.order = O at hO ⊢
  obtain ⟨op,occ,a,b,l⟩:=p
  rw [encPl_mk] at hM hT hO
  rw [encW_mk]
  refine quiet_of (rs:=#[.tmp 6]) Go.Proofs.Tryz.func32 rfl rfl rfl mixed rfl rfl fun H hs=>?_
  push_cast -implicitDefEqProofs [eq_self,iff_self,encQ]
  refine callq hT ?_
  push_cast -implicitDefEqProofs [eq_self,iff_self,encQ]
  refine areg_at 35 (by kernel_rfl) (by kernel_rfl) ?_
  push_cast -implicitDefEqProofs [eq_self,iff_self,encQ]
  refine ahdq hM ?_
  push_cast -implicitDefEqProofs [eq_self,iff_self,encQ]
  refine gcallq (.int S) (fun _=>hS) ?_
  push_cast -implicitDefEqProofs [eq_self,iff_self,encQ,hsh]
  rw [wrap64 (n:=2 ^ q.occ.length - 1) (by omega) (by omega)]
  generalize (2:Int) ^ q.occ.length - 1 = F
  refine ⟨by omega,fun h=>?_,fun h=>?_⟩
  ·unfold endP
   generalize q.by_ = by_ at h ⊢
   grind
  simp only [Bool.or_eq_false_iff,Bool.not_eq_false',decide_eq_false_iff_not,decide_eq_true_eq] at h
  obtain ⟨⟨⟨rfl,h0⟩,h3⟩,hb⟩:=h
  refine callq hO ?_
  have hv2:(decide (S = S) && endP q O e s) = (if s then decide (q.ord ≠ -1) && decide (e = 1) else if e = 2 then decide (O = q.by_) else if q.ord ≠ -1 then decide (e = 0) && decide (O = q.ord) else true):=by
   unfold endP
   generalize q.by_ = by_ at hb ⊢
   grind
  rw [hv2]
  cases s
  ·push_cast -implicitDefEqProofs [eq_self,iff_self,encQ]
   generalize q.by_ = by_
   grind
  ·push_cast -implicitDefEqProofs [eq_self,iff_self,encQ,if_true]
   grind
end
section
theorem bor_lt {a b:Int} (a0:0 ≤ a) (a1:a ≤ 15) (b0:0 ≤ b) (b1:b ≤ 15) {n:Nat} (hn:n ≤ 4):bor .i64 a b < 2 ^ n ↔ a < 2 ^ n ∧ b < 2 ^ n:=by
 obtain ⟨i,rfl⟩:∃ i:Fin 16,a = (i.val:Int):=⟨⟨a.toNat,by omega⟩,by simp; omega⟩
 obtain ⟨j,rfl⟩:∃ j:Fin 16,b = (j.val:Int):=⟨⟨b.toNat,by omega⟩,by simp; omega⟩
 obtain ⟨k,rfl⟩:∃ k:Fin 5,n = k.val:=⟨⟨n,by omega⟩,rfl⟩
 clear a0 a1 b0 b1 hn
 revert i j k
 decide +kernel
theorem mayP_iff {c:List Df} {q:Qy} {p:Pl}:mayP c q p = true ↔ q.may c = true ∧ p.few = true ∧ (treeP p).may = true ∧ (treeP p).set < 2 ^ q.occ.length ∧ (parts p).all (fitP c q) = true:=by
 unfold mayP
 rw [tree_iff]
 simp only [Bool.and_eq_true,decide_eq_true_eq]
 constructor
 ·rintro ⟨⟨⟨⟨h1,h2⟩,h3⟩,h4⟩,h5⟩
  exact ⟨h3,h1,h2,h4,h5⟩
 ·rintro ⟨h3,h1,h2,h4,h5⟩
  exact ⟨⟨⟨⟨h1,h2⟩,h3⟩,h4⟩,h5⟩
theorem may_len {c:List Df} {q:Qy} (h:q.may c = true):q.occ.length ≤ 4:=(may_split h).2.2.1
theorem mayP_part {c:List Df} {q:Qy} {op occ a b:Int} {l:List Pl} (h:mayP c q (.mk op occ a b l) = true):∀ x ∈ l,mayP c q x = true:=by
 obtain ⟨h1,h2,h3,h4,h5⟩:=mayP_iff.1 h
 intro x hx
 have hn:=may_len h1
 refine mayP_iff.2 ⟨h1,few_part h2 hx,part_may (few_own h2) h3 x hx, ?_, ?_⟩
 ·rcases form_split (few_own h2) with ⟨_,rfl⟩ | ⟨_,y,rfl⟩ | ⟨_,y,z,rfl⟩
  ·cases hx
  ·simp only [List.mem_singleton] at hx
   subst hx
   rwa [treeP] at h4
  ·rw [treeP] at h3 h4
   obtain ⟨_,_,_,hs⟩:=join_may h3
   have ry:=(treeP y).set_range
   have rz:=(treeP z).set_range
   rw [hs,bor_lt ry.1 ry.2 rz.1 rz.2 hn] at h4
   simp only [List.mem_cons,List.not_mem_nil,or_false] at hx
   rcases hx with rfl | rfl
   ·exact h4.1
   ·exact h4.2
 ·rw [parts_mk] at h5
  simp only [List.all_cons,Bool.and_eq_true,List.all_eq_true] at h5 ⊢
  exact fun y hy=>h5.2 y (partsPl_mem hx y hy)
theorem costP_tree {c:List Df} {q:Qy} {p:Pl} (h:mayP c q p = true):costP c q p = costT (ownC c q) p:=by
 rw [costP,if_pos h]
 exact cost_tree (mayP_iff.1 h).2.1
theorem costP_mk {c:List Df} {q:Qy} {op occ a b:Int} {l:List Pl} (h:mayP c q (.mk op occ a b l) = true):costP c q (.mk op occ a b l) = addK (l.map (costP c q) ++ [ownC c q (.mk op occ a b l)]):=by
 have hs:=mayP_part h
 rw [costP_tree h]
 rcases form_split (few_own (mayP_iff.1 h).2.1) with ⟨_,rfl⟩ | ⟨_,x,rfl⟩ | ⟨_,x,y,rfl⟩
 ·have ho:=ownC_range c q (.mk op occ a b [])
  rw [costT,List.map_nil,List.nil_append,addK_eq]
  simp only [sumK,List.map_cons,List.map_nil,List.foldr_cons,List.foldr_nil]
  omega
 ·rw [costT,List.map_cons,List.map_nil,costP_tree (hs x (by simp))]
  rfl
 ·rw [costT,List.map_cons,List.map_cons,List.map_nil,costP_tree (hs x (by simp)),costP_tree (hs y (by simp))]
  rfl
theorem nest_order {a b:Pl} (h:(Pl.mk 1 0 0 0 [a,b]).few = true):(Pl.mk 1 0 0 0 [a,b]).order = a.order:=by
 rw [Pl.order,Pl.order,if_pos h,if_pos (few_part h (by simp)),orderL,if_pos rfl]
theorem sort_may {c:List Df} {q:Qy} {x:Pl} {col:Int} (hx:mayP c q x = true) (hf:(Pl.mk 4 0 col 0 [x]).few = true):mayP c q (.mk 4 0 col 0 [x]) = (q.cols c (treeP x).set).contains col:=by
 obtain ⟨h1,_,h3,h4,h5⟩:=mayP_iff.1 hx
 rw [Bool.eq_iff_iff,mayP_iff,treeP,parts_all,partsPl_cons,partsPl,List.append_nil,h5,Bool.and_true]
 exact ⟨fun h=>h.2.2.2.2,fun h=>⟨h1,hf,h3,h4,h⟩⟩
theorem sort_cost {c:List Df} {q:Qy} {x:Pl} {col b:Int} (h:mayP c q (.mk 4 0 col b [x]) = true):costP c q (.mk 4 0 col b [x]) = addK [costP c q x,sortK (rowsQ c q (treeP x).set)]:=by
 rw [costP_mk h]
 rfl
theorem sort_order {x:Pl} {col b:Int} (h:(Pl.mk 4 0 col b [x]).few = true):(Pl.mk 4 0 col b [x]).order = col:=by
 rw [Pl.order,if_pos h,orderL,if_neg (by decide),if_pos (.inl rfl)]
theorem form_two {op a b:Int} {x y:Pl} (ho:op = 2 ∨ op = 3):(Pl.mk op 0 a b [x,y]).form = true:=by
 rcases ho with rfl | rfl <;> simp [Pl.form,Pl.op,Pl.l,Pl.occ,plansP]
theorem fit_of {c:List Df} {q:Qy} {op occ a b:Int} {x y:Pl} (h1:(q.pairs (treeP x).set (treeP y).set).contains (a,b) = true) (h2:op = 2 ∨ (x.order = a ∧ y.order = b)):fitP c q (.mk op occ a b [x,y]) = true:=by
 have e:fitP c q (.mk op occ a b [x,y]) = (if op = 1 then true else (q.pairs (treeP x).set (treeP y).set).contains (a,b) && (decide (op = 2) || (decide (x.order = a) && decide (y.order = b)))):=rfl
 rw [e,h1]
 split
 ·rfl
 ·simpa only [Bool.and_eq_true,Bool.or_eq_true,decide_eq_true_eq,Bool.true_and] using h2
end
section
def innerL (op col:Int) (ps:List (Int × Int)):List Pl:=(ps.filter fun p=>decide (col = -1) || (decide (op = 3) && decide (col = p.1))).map fun p=>.mk op 0 p.1 p.2 []
def nestW:Pl:=.mk 1 0 0 0 []
def waysP (q:Qy) (a b col:Int):List Pl:=[nestW] ++ innerL 2 col (q.pairs a b) ++ innerL 3 col (q.pairs a b)
def mustP (w:Pl) (col:Int):Int × Int:=if w.op = 1 then (col,-1) else if w.op = 3 then (w.a,w.b) else (-1,-1)
def sortedC (c:List Df) (q:Qy) (s n:Int):Int:=addK [n,sortK (rowsQ c q s)]
def ownW (c:List Df) (q:Qy) (w:Pl) (a b:Int):Int:=if w.op = 1 then nestK (rowsQ c q a) (rowsQ c q b) else if w.op = 2 then hashK (rowsQ c q a) (rowsQ c q b) else mergeK (rowsQ c q a) (rowsQ c q b)
abbrev Ch:=Int × Pl
def plO:Pl:=.mk 0 0 0 0 []
def leastC:List Ch → Ch
 | []=>(0,plO)
 | x :: l=>l.foldl (fun out y=>if y.1 < out.1 then y else out) x
def wayC (c:List Df) (q:Qy) (f g:Int → Ch) (a b col:Int) (w:Pl):List Ch :=
 if (mustP w col).1 ≠ -1 ∧ (q.cols c a).contains (mustP w col).1 = false then []
 else [(addK [(f (mustP w col).1).1,(g (mustP w col).2).1,ownW c q w a b], .mk w.op w.occ w.a w.b [(f (mustP w col).1).2,(g (mustP w col).2).2])]
def candC (c:List Df) (q:Qy) (f:Tr → Int → Ch) (t:Tr) (col:Int):List Ch :=
 match t with
 | .mk o l =>
  match l with
  | []=>if col = -1 then [(costP c q (.mk 0 o 0 0 []), .mk 0 o 0 0 [])] else []
  | [x,y]=>(waysP q x.set y.set col).flatMap (wayC c q (f x) (f y) x.set y.set col)
  | _=>[]
def sortC (c:List Df) (q:Qy) (t:Tr) (col:Int) (x:Ch):Ch:=(sortedC c q t.set x.1, .mk 4 0 col 0 [x.2])
def bestF (c:List Df) (q:Qy):Nat → Tr → Int → Ch
 | 0,_,_=>(0,plO)
 | d + 1,t,col=>if col = -1 then leastC (candC c q (bestF c q d) t (-1)) else leastC (candC c q (bestF c q d) t col ++ [sortC c q t col (leastC (candC c q (bestF c q d) t (-1)))])
theorem innerL_snoc (op col:Int) (ps:List (Int × Int)) (i:Nat) (h:i < ps.length):innerL op col (ps.take (i + 1)) = innerL op col (ps.take i) ++ (if (decide (col = -1) || (decide (op = 3) && decide (col = ps[i].1))) = true then [.mk op 0 ps[i].1 ps[i].2 []] else []):=by
 unfold innerL
 rw [List.take_succ_eq_append_getElem h,List.filter_append,List.map_append]
 congr 1
 cases hc:(decide (col = -1) || (decide (op = 3) && decide (col = ps[i].1)))
 ·rw [List.filter_cons,hc]; rfl
 ·rw [List.filter_cons,hc]; rfl
theorem innerL_len (op col:Int) (ps:List (Int × Int)):(innerL op col ps).length ≤ ps.length:=by
 unfold innerL
 rw [List.length_map]
 exact List.length_filter_le _ _
end
section
theorem foldC_spec (l:List Ch):∀ x:Ch,let r:=l.foldl (fun out y=>if y.1 < out.1 then y else out) x
  (r = x ∨ r ∈ l) ∧ r.1 ≤ x.1 ∧ ∀ y ∈ l,r.1 ≤ y.1:=by
 induction l with
 | nil=>intro x; exact ⟨.inl rfl,Int.le_refl _,by simp⟩
 | cons y l ih =>
  intro x
  rw [List.foldl_cons]
  have h:=ih (if y.1 < x.1 then y else x)
  generalize l.foldl (fun out y=>if y.1 < out.1 then y else out) (if y.1 < x.1 then y else x) = r at h ⊢
  obtain ⟨h1,h2,h3⟩:=h
  by_cases hc:y.1 < x.1
  ·rw [if_pos hc] at h1 h2
   refine ⟨?_,by omega, ?_⟩
   ·rcases h1 with h1 | h1
    ·right; rw [h1]; exact .head _
    ·right; exact .tail _ h1
   ·intro z hz
    rcases List.mem_cons.1 hz with rfl | hz
    ·exact h2
    ·exact h3 z hz
  ·rw [if_neg hc] at h1 h2
   refine ⟨?_,h2, ?_⟩
   ·rcases h1 with h1 | h1
    ·left; exact h1
    ·right; exact .tail _ h1
   ·intro z hz
    rcases List.mem_cons.1 hz with rfl | hz
    ·omega
    ·exact h3 z hz
theorem leastC_mem {l:List Ch} (h:l ≠ []):leastC l ∈ l:=by
 match l,h with
 | x :: l,_ =>
  rw [leastC]
  rcases (foldC_spec l x).1 with h | h
  ·rw [h]; exact .head _
  ·exact .tail _ h
theorem cols_mem_iff {c:List Df} {q:Qy} (h:q.may c = true) (s x:Int):(q.cols c s).contains x = true ↔ isCol c q x = true ∧ bitI s (x / 4).toNat = true:=by
 rw [List.contains_iff_mem,Qy.cols,if_pos h,colsIn,List.mem_filter,Bool.and_eq_true]
 refine ⟨fun h=>h.2,fun h=>⟨?_,h⟩⟩
 have:=isCol_range h.1
 simp only [upto,List.mem_map,List.mem_range]
 exact ⟨x.toNat,by omega,by show ((x.toNat:Nat):Int) = x; omega⟩
theorem isCol_pos {c:List Df} {q:Qy} {x:Int} (h:isCol c q x = true):x ≠ -1:=by
 have:=isCol_range h
 omega
theorem pairs_cols {c:List Df} {q:Qy} (h:q.may c = true) {a b:Int} (h0:band .i64 a b = 0) {p:Int × Int} (hp:(q.pairs a b).contains p = true):(q.cols c a).contains p.1 = true ∧ (q.cols c b).contains p.2 = true:=by
 have hd:=apart_band h0
 rw [List.contains_iff_mem] at hp
 obtain ⟨h1,h2,h3,h4,_⟩:=pairs_mem hd hp
 rw [cols_mem_iff h,cols_mem_iff h]
 unfold Qy.pairs pairsF at hp
 rw [List.mem_flatMap] at hp
 obtain ⟨i,hi,hp⟩:=hp
 obtain ⟨hn,hm⟩:=new_mem hi
 rcases (pairOf_new hd hn).2 with ⟨_,h0⟩ | ⟨his,x,y,h0,_,_,_,_,_,h6⟩
 ·rw [h0] at hp; cases hp
 ·rw [h0,List.mem_singleton] at hp
  subst hp
  have hs:=(pair_spec his).2.2.2.2
  have hc:=((may_split h).2.2.2.2.2.1 _ hm).2
  refine ⟨⟨hc _ ((hs _).2 (h6.elim (fun h=>.inl h.1) fun h=>.inr h.1)),h3⟩,⟨hc _ ((hs _).2 (h6.elim (fun h=>.inr h.2) fun h=>.inl h.2)),h4⟩⟩
theorem ways_mem {q:Qy} {a b col:Int} {w:Pl} (h:w ∈ waysP q a b col):w = nestW ∨ ∃ (op:Int) (p:Int × Int),w = .mk op 0 p.1 p.2 [] ∧ (q.pairs a b).contains p = true ∧ ((op = 2 ∧ col = -1) ∨ (op = 3 ∧ (col = -1 ∨ col = p.1))):=by
 unfold waysP at h
 have one:∀ op:Int,w ∈ innerL op col (q.pairs a b) → ∃ p:Int × Int,w = .mk op 0 p.1 p.2 [] ∧ (q.pairs a b).contains p = true ∧ (col = -1 ∨ (op = 3 ∧ col = p.1)):=by
  intro op h
  unfold innerL at h
  rw [List.mem_map] at h
  obtain ⟨p,hp,rfl⟩:=h
  rw [List.mem_filter,Bool.or_eq_true,Bool.and_eq_true,decide_eq_true_eq,decide_eq_true_eq,decide_eq_true_eq] at hp
  exact ⟨p,rfl,List.contains_iff_mem.2 hp.1,hp.2⟩
 rcases List.mem_append.1 h with h | h
 ·rcases List.mem_append.1 h with h | h
  ·left; simpa using h
  ·obtain ⟨p,h1,h2,h3⟩:=one 2 h
   exact .inr ⟨2,p,h1,h2, .inl ⟨rfl,by omega⟩⟩
 ·obtain ⟨p,h1,h2,h3⟩:=one 3 h
  exact .inr ⟨3,p,h1,h2, .inr ⟨rfl,by omega⟩⟩
theorem ways_nest (q:Qy) (a b col:Int):nestW ∈ waysP q a b col:=by unfold waysP; simp
theorem setT_join {d:Nat} {x y:Tr} (h:(setT (d + 1) (.join x y)).2 = true):(setT d x).2 = true ∧ (setT d y).2 = true ∧ band .i64 (setT d x).1 (setT d y).1 = 0:=by
 rw [Tr.join,setT_two,if_pos rfl] at h
 simp only [Bool.and_eq_true,decide_eq_true_eq] at h
 exact ⟨h.1.1,h.1.2,h.2⟩
theorem may_of_d {d:Nat} (hd:d ≤ 4) {t:Tr} (h:(setT d t).2 = true):t.may = true ∧ t.set = (setT d t).1:=by
 have e:=setT_le hd h
 have hm:t.may = true:=by unfold Tr.may; rw [e]; exact h
 exact ⟨hm,by rw [set_of_may hm,e]⟩
theorem wayC_mem {c:List Df} {q:Qy} {f g:Int → Ch} {a b col:Int} {w:Pl} (h:(mustP w col).1 = -1 ∨ (q.cols c a).contains (mustP w col).1 = true) :
  (addK [(f (mustP w col).1).1,(g (mustP w col).2).1,ownW c q w a b],Pl.mk w.op w.occ w.a w.b [(f (mustP w col).1).2,(g (mustP w col).2).2]) ∈ wayC c q f g a b col w:=by
 unfold wayC
 rw [if_neg]
 ·exact List.mem_singleton.2 rfl
 ·rintro ⟨h1,h2⟩
  rcases h with h | h
  ·exact h1 h
  ·rw [h] at h2; cases h2
theorem few_mk {op occ a b:Int} {l:List Pl} (h:(Pl.mk op occ a b l).form = true) (hl:∀ x ∈ l,x.few = true) (hn:1 + (partsPl l).length ≤ 20):(Pl.mk op occ a b l).few = true:=by
 unfold Pl.few
 rw [parts_mk,List.all_cons,h,List.length_cons,Bool.true_and,Bool.and_eq_true,decide_eq_true_eq]
 refine ⟨by omega, ?_⟩
 clear hn h
 induction l with
 | nil=>rfl
 | cons x l ih =>
  rw [partsPl_cons,List.all_append,Bool.and_eq_true]
  exact ⟨few_forms (hl x (.head _)),ih fun y hy=>hl y (.tail _ hy)⟩
theorem two_of {c:List Df} {q:Qy} {op a b:Int} {x y:Pl} (hx:mayP c q x = true) (hy:mayP c q y = true) (h0:band .i64 (treeP x).set (treeP y).set = 0) (hf:(Pl.mk op 0 a b [x,y]).form = true) (hn:1 + ((parts x).length + (parts y).length) ≤ 20)
  (hfit:fitP c q (.mk op 0 a b [x,y]) = true):mayP c q (.mk op 0 a b [x,y]) = true:=by
 obtain ⟨h1,h2,h3,h4,h5⟩:=mayP_iff.1 hx
 obtain ⟨_,k2,k3,k4,k5⟩:=mayP_iff.1 hy
 have hj:=may_join h3 k3 h0
 have ra:=(treeP x).set_range
 have rb:=(treeP y).set_range
 have hfew:(Pl.mk op 0 a b [x,y]).few = true:=by
  refine few_mk hf (fun z hz=>?_) ?_
  ·simp only [List.mem_cons,List.not_mem_nil,or_false] at hz
   rcases hz with rfl | rfl
   ·exact h2
   ·exact k2
  ·rw [partsPl_cons,partsPl_cons,partsPl,List.append_nil,List.length_append]
   exact hn
 refine mayP_iff.2 ⟨h1,hfew,by rw [treeP]; exact hj, ?_, ?_⟩
 ·rw [treeP,(join_may hj).2.2.2,bor_lt ra.1 ra.2 rb.1 rb.2 (may_len h1)]
  exact ⟨h4,k4⟩
 ·rw [parts_all,partsPl_cons,partsPl_cons,partsPl,List.append_nil,List.all_append,h5,k5,hfit]
  rfl
def Good (c:List Df) (q:Qy) (d:Nat) (t:Tr) (col:Int) (x:Ch):Prop :=
 mayP c q x.2 = true ∧ treeP x.2 = t ∧ costP c q x.2 = x.1 ∧ (col ≠ -1 → x.2.order = col) ∧ (parts x.2).length + (if col = -1 then 3 else 2) ≤ 4 * (lvsT d t).1.length
theorem lv4 {d:Nat} {t:Tr} (h:(setT d t).2 = true):(lvsT d t).1.length ≤ 4:=by
 have:=(set_lvs d t).1.1 h
 exact nodup4 this.2 (lvsT_range d t this.1)
theorem way_good {c:List Df} {q:Qy} {d:Nat} {a b:Tr} {col:Int} (hq:q.may c = true) (hd:d + 1 ≤ 4) (hs:(setT (d + 1) (.join a b)).2 = true) (f:Tr → Int → Ch)
  (ha:∀ x,x = -1 ∨ (q.cols c a.set).contains x = true → Good c q d a x (f a x)) (hb:∀ x,x = -1 ∨ (q.cols c b.set).contains x = true → Good c q d b x (f b x)) {w:Pl} (hw:w ∈ waysP q a.set b.set col)
  (hm:(mustP w col).1 = -1 ∨ (q.cols c a.set).contains (mustP w col).1 = true) :
  Good c q (d + 1) (.join a b) col (addK [(f a (mustP w col).1).1,(f b (mustP w col).2).1,ownW c q w a.set b.set], .mk w.op w.occ w.a w.b [(f a (mustP w col).1).2,(f b (mustP w col).2).2]):=by
 obtain ⟨sx,sy,s0⟩:=setT_join hs
 have mx:=may_of_d (by omega) sx
 have my:=may_of_d (by omega) sy
 have hb0:band .i64 a.set b.set = 0:=by rw [mx.2,my.2]; exact s0
 have hlv:(lvsT (d + 1) (.join a b)).1.length = (lvsT d a).1.length + (lvsT d b).1.length:=by
  rw [Tr.join,lvsT_two,if_pos rfl,List.length_append]
 have h4:=lv4 hs
 have hA:=ha (mustP w col).1 hm
 have hB:(mustP w col).2 = -1 ∨ (q.cols c b.set).contains (mustP w col).2 = true:=by
  rcases ways_mem hw with rfl | ⟨op,p,rfl,hp,h⟩
  ·exact .inl rfl
  ·rcases h with ⟨rfl,_⟩ | ⟨rfl,_⟩
   ·exact .inl rfl
   ·exact .inr (pairs_cols hq hb0 hp).2
 have hB:=hb _ hB
 generalize hx:f a (mustP w col).1 = x at hA
 generalize hy:f b (mustP w col).2 = y at hB
 obtain ⟨a1,a2,a3,a4,a5⟩:=hA
 obtain ⟨b1,b2,b3,b4,b5⟩:=hB
 have hn:(parts x.2).length + (parts y.2).length + 4 ≤ 4 * (lvsT (d + 1) (.join a b)).1.length:=by
  rw [hlv]
  split at a5 <;> split at b5 <;> omega
 have fin:∀ op p1 p2:Int,w = .mk op 0 p1 p2 [] → (Pl.mk op 0 p1 p2 [x.2,y.2]).form = true → fitP c q (.mk op 0 p1 p2 [x.2,y.2]) = true → (col ≠ -1 → (Pl.mk op 0 p1 p2 [x.2,y.2]).few = true → (Pl.mk op 0 p1 p2 [x.2,y.2]).order = col) → ownC c q (.mk op 0 p1 p2 [x.2,y.2]) = ownW c q w a.set b.set →
   Good c q (d + 1) (.join a b) col (addK [x.1,y.1,ownW c q w a.set b.set], .mk w.op w.occ w.a w.b [x.2,y.2]):=by
  intro op p1 p2 hwe hf hfit ho hown
  subst hwe
  have hmay:=two_of a1 b1 (by rw [a2,b2]; exact hb0) hf (by omega) hfit
  refine ⟨hmay, ?_, ?_,fun hc=>ho hc (mayP_iff.1 hmay).2.1, ?_⟩
  ·show treeP (.mk op 0 p1 p2 [x.2,y.2]) = _
   rw [treeP,a2,b2]
  ·show costP c q (.mk op 0 p1 p2 [x.2,y.2]) = addK [x.1,y.1,_]
   rw [costP_mk hmay,← hown,← a3,← b3]
   rfl
  ·show (parts (.mk op 0 p1 p2 [x.2,y.2])).length + _ ≤ _
   rw [parts_mk,partsPl_cons,partsPl_cons,partsPl,List.append_nil,List.length_cons,List.length_append]
   split <;> omega
 rcases ways_mem hw with rfl | ⟨op,p,rfl,hp,h⟩
 ·refine fin 1 0 0 rfl rfl rfl (fun hc hf=>?_) ?_
  ·rw [nest_order hf]
   exact a4 hc
  ·show nestK (rowsQ c q (treeP x.2).set) (rowsQ c q (treeP y.2).set) = nestK _ _
   rw [a2,b2]
 ·rcases h with ⟨rfl,h⟩ | ⟨rfl,h⟩
  ·refine fin 2 p.1 p.2 rfl (form_two (.inl rfl)) (fit_of (by rw [a2,b2]; exact hp) (.inl rfl)) (fun hc=>absurd h hc) ?_
   show hashK (rowsQ c q (treeP x.2).set) (rowsQ c q (treeP y.2).set) = hashK _ _
   rw [a2,b2]
  ·have hpc:=pairs_cols hq hb0 hp
   have n1:=isCol_pos ((cols_mem_iff hq _ _).1 hpc.1).1
   have n2:=isCol_pos ((cols_mem_iff hq _ _).1 hpc.2).1
   refine fin 3 p.1 p.2 rfl (form_two (.inr rfl)) (fit_of (by rw [a2,b2]; exact hp) (.inr ⟨a4 n1,b4 n2⟩)) (fun hc hf=>?_) ?_
   ·rw [Pl.order,if_pos hf,orderL,if_neg (by decide),if_pos (.inr rfl)]
    rcases h with h | h
    ·exact absurd h hc
    ·exact h.symm
   ·show mergeK (rowsQ c q (treeP x.2).set) (rowsQ c q (treeP y.2).set) = mergeK _ _
    rw [a2,b2]
theorem cand_good {c:List Df} {q:Qy} {d:Nat} {a b:Tr} {col:Int} (hq:q.may c = true) (hd:d + 1 ≤ 4) (hs:(setT (d + 1) (.join a b)).2 = true) (f:Tr → Int → Ch)
  (ha:∀ x,x = -1 ∨ (q.cols c a.set).contains x = true → Good c q d a x (f a x)) (hb:∀ x,x = -1 ∨ (q.cols c b.set).contains x = true → Good c q d b x (f b x)) {x:Ch} (hx:x ∈ candC c q f (.join a b) col):Good c q (d + 1) (.join a b) col x:=by
 have hx':x ∈ (waysP q a.set b.set col).flatMap (wayC c q (f a) (f b) a.set b.set col):=hx
 rw [List.mem_flatMap] at hx'
 obtain ⟨w,hw,hx'⟩:=hx'
 unfold wayC at hx'
 split at hx'
 ·cases hx'
 ·rename_i hn
  rw [List.mem_singleton] at hx'
  subst hx'
  refine way_good hq hd hs f ha hb hw ?_
  by_cases h1:(mustP w col).1 = -1
  ·exact .inl h1
  ·right
   rcases Bool.eq_false_or_eq_true ((q.cols c a.set).contains (mustP w col).1) with h2 | h2
   ·exact h2
   ·exact absurd ⟨h1,h2⟩ hn
theorem leaf_good {c:List Df} {q:Qy} {d:Nat} {o:Int} (hq:q.may c = true) (hs:(setT (d + 1) (.mk o [])).2 = true) (hlt:(Tr.leaf o).set < 2 ^ q.occ.length):Good c q (d + 1) (.leaf o) (-1) (costP c q (.mk 0 o 0 0 []), .mk 0 o 0 0 []):=by
 have ho:0 ≤ o ∧ o < 4:=by rw [setT_nil] at hs; simpa using hs
 refine ⟨mayP_iff.2 ⟨hq,by rfl,by rw [treeP,leaf_may]; simp [ho],by rw [treeP]; exact hlt,by rw [parts_all]; rfl⟩,by rw [treeP],rfl,fun h=>absurd rfl h, ?_⟩
 rw [parts_mk,partsPl,Tr.leaf,lvsT_nil]
 exact Nat.le_refl _
theorem sort_good {c:List Df} {q:Qy} {d:Nat} {t:Tr} {col:Int} {x:Ch} (hs:(setT d t).2 = true) (hc:col ≠ -1) (hcol:(q.cols c t.set).contains col = true) (hx:Good c q d t (-1) x):Good c q d t col (sortC c q t col x):=by
 obtain ⟨a1,a2,a3,_,a5⟩:=hx
 rw [if_pos rfl] at a5
 have h4:=lv4 hs
 have hfew:(Pl.mk 4 0 col 0 [x.2]).few = true:=by
  refine few_mk (by simp [Pl.form,Pl.op,Pl.b,Pl.a,Pl.occ,Pl.l,plansP]) (fun z hz=>?_) ?_
  ·rw [List.mem_singleton] at hz
   subst hz
   exact (mayP_iff.1 a1).2.1
  ·rw [partsPl_cons,partsPl,List.append_nil]
   omega
 have hmay:mayP c q (.mk 4 0 col 0 [x.2]) = true:=by rw [sort_may a1 hfew,a2]; exact hcol
 refine ⟨hmay, ?_, ?_,fun _=>sort_order hfew, ?_⟩
 ·show treeP (.mk 4 0 col 0 [x.2]) = t
  rw [treeP,a2]
 ·show costP c q (.mk 4 0 col 0 [x.2]) = sortedC c q t.set x.1
  rw [sort_cost hmay,a2,a3]
  rfl
 ·show (parts (.mk 4 0 col 0 [x.2])).length + _ ≤ _
  rw [parts_mk,partsPl_cons,partsPl,List.append_nil,List.length_cons,if_neg hc]
  omega
theorem tr_form {d:Nat} {t:Tr} (h:(setT (d + 1) t).2 = true):(∃ o,t = .leaf o) ∨ ∃ a b,t = .join a b:=by
 obtain ⟨o,l⟩:=t
 match l,h with
 | [],_=>exact .inl ⟨o,rfl⟩
 | [a],h=>rw [setT_one] at h; cases h
 | [a,b],h =>
  rw [setT_two] at h
  by_cases ho:o = 0
  ·subst ho; exact .inr ⟨a,b,rfl⟩
  ·rw [if_neg ho] at h; cases h
 | a :: b :: e :: l,h=>rw [setT_more] at h; cases h
theorem best_good {c:List Df} {q:Qy} (hq:q.may c = true):∀ (d:Nat) (t:Tr) (col:Int),d ≤ 4 → (setT d t).2 = true → t.set < 2 ^ q.occ.length → (col = -1 ∨ (q.cols c t.set).contains col = true) → Good c q d t col (bestF c q d t col):=by
 intro d
 induction d with
 | zero=>intro t col _ h; simp [setT] at h
 | succ d ih =>
 intro t col hd hs hlt hcol
 have hcand:(∀ col x,x ∈ candC c q (bestF c q d) t col → Good c q (d + 1) t col x) ∧ candC c q (bestF c q d) t (-1) ≠ []:=by
  rcases tr_form hs with ⟨o,rfl⟩ | ⟨a,b,rfl⟩
  ·refine ⟨fun col x hx=>?_,by simp [candC,Tr.leaf]⟩
   simp only [candC,Tr.leaf] at hx
   split at hx
   ·rename_i h
    subst h
    rw [List.mem_singleton] at hx
    subst hx
    exact leaf_good hq hs hlt
   ·cases hx
  ·obtain ⟨sx,sy,s0⟩:=setT_join hs
   have mx:=may_of_d (by omega) sx
   have my:=may_of_d (by omega) sy
   have mt:=(may_of_d hd hs).1
   have ra:=a.set_range
   have rb:=b.set_range
   have hl2:=hlt
   rw [(join_may mt).2.2.2,bor_lt ra.1 ra.2 rb.1 rb.2 (may_len hq)] at hl2
   refine ⟨fun col x hx=>cand_good hq hd hs _ (fun y hy=>ih a y (by omega) sx hl2.1 hy) (fun y hy=>ih b y (by omega) sy hl2.2 hy) hx, ?_⟩
   have h1:=wayC_mem (c:=c) (q:=q) (f:=bestF c q d a) (g:=bestF c q d b) (a:=a.set) (b:=b.set) (col:=-1) (w:=nestW) (.inl rfl)
   have h2:_ ∈ candC c q (bestF c q d) (.join a b) (-1):=List.mem_flatMap.2 ⟨nestW,ways_nest q _ _ _,h1⟩
   exact fun h=>by rw [h] at h2; cases h2
 have hnone:Good c q (d + 1) t (-1) (leastC (candC c q (bestF c q d) t (-1))):=hcand.1 _ _ (leastC_mem hcand.2)
 rw [bestF]
 split
 ·rename_i h
  subst h
  exact hnone
 ·rename_i h
  have hc:(q.cols c t.set).contains col = true:=by rcases hcol with h2 | h2; exact absurd h2 h; exact h2
  rcases List.mem_append.1 (leastC_mem (l:=candC c q (bestF c q d) t col ++ [sortC c q t col (leastC (candC c q (bestF c q d) t (-1)))]) (by simp)) with h2 | h2
  ·exact hcand.1 _ _ h2
  ·rw [List.mem_singleton] at h2
   rw [h2]
   exact sort_good hs h hc hnone
end
section
def leafSet (s:Int):List Tr:=((List.range 4).filter fun (o:Nat)=>decide (s = 2 ^ o)).map fun (o:Nat)=>Tr.leaf (o:Int)
def cutT (f:Int → List Tr) (s a:Int):List Tr:=if (decide (a < s) && decide (band .i64 a s = a)) = true then (f a).flatMap fun x=>(f (s - a)).map fun y=>Tr.join x y else []
def allT:Nat → Int → List Tr
 | 0,_=>[]
 | d + 1,s=>if 1 ≤ s ∧ s < 16 then leafSet s ++ (List.range 15).flatMap fun (k:Nat)=>cutT (allT d) s ((k:Int) + 1) else []
end
section
theorem cut16 {a b:Int} (a0:1 ≤ a) (a1:a ≤ 15) (b0:1 ≤ b) (b1:b ≤ 15) (h:band .i64 a b = 0):bor .i64 a b = a + b ∧ a + b ≤ 15 ∧ band .i64 a (a + b) = a:=by
 obtain ⟨i,rfl⟩:∃ i:Fin 16,a = (i.val:Int):=⟨⟨a.toNat,by omega⟩,by simp; omega⟩
 obtain ⟨j,rfl⟩:∃ j:Fin 16,b = (j.val:Int):=⟨⟨b.toNat,by omega⟩,by simp; omega⟩
 clear a0 a1 b0 b1
 revert i j
 decide +kernel
theorem uncut16 {a s:Int} (a0:1 ≤ a) (s1:s ≤ 15) (h:a < s) (hb:band .i64 a s = a):band .i64 a (s - a) = 0 ∧ bor .i64 a (s - a) = s:=by
 obtain ⟨i,rfl⟩:∃ i:Fin 16,a = (i.val:Int):=⟨⟨a.toNat,by omega⟩,by simp; omega⟩
 obtain ⟨j,rfl⟩:∃ j:Fin 16,s = (j.val:Int):=⟨⟨s.toNat,by omega⟩,by simp; omega⟩
 clear a0 s1
 revert i j
 decide +kernel
theorem setT_pos:∀ (d:Nat) (t:Tr),(setT d t).2 = true → 1 ≤ (setT d t).1
 | 0,_,h=>by simp [setT] at h
 | d + 1,t,h=>by
  rcases tr_form h with ⟨o,rfl⟩ | ⟨a,b,rfl⟩
  ·rw [Tr.leaf,setT_nil]
   have h1:=tmod4 o
   have:=pow2_cases (n:=(max (o.tmod 4) 0).toNat) (by omega)
   dsimp only
   omega
  ·obtain ⟨ha,hb,h0⟩:=setT_join h
   have pa:=setT_pos d a ha
   have pb:=setT_pos d b hb
   have ra:=setT_range d a
   have rb:=setT_range d b
   rw [Tr.join,setT_two,if_pos rfl]
   have:=cut16 pa ra.2 pb rb.2 h0
   dsimp only
   omega
theorem leafSet_mem {s:Int} {t:Tr}:t ∈ leafSet s ↔ ∃ o:Nat,o < 4 ∧ s = 2 ^ o ∧ t = .leaf (o:Int):=by
 unfold leafSet
 simp only [List.mem_map,List.mem_filter,List.mem_range,decide_eq_true_eq]
 constructor
 ·rintro ⟨o,⟨h1,h2⟩,rfl⟩; exact ⟨o,h1,h2,rfl⟩
 ·rintro ⟨o,h1,h2,rfl⟩; exact ⟨o,⟨h1,h2⟩,rfl⟩
theorem cutT_mem {f:Int → List Tr} {s a:Int} {t:Tr}:t ∈ cutT f s a ↔ (a < s ∧ band .i64 a s = a) ∧ ∃ x ∈ f a,∃ y ∈ f (s - a),t = .join x y:=by
 unfold cutT
 simp only [Bool.and_eq_true,decide_eq_true_eq]
 split
 ·rename_i h
  simp only [List.mem_flatMap,List.mem_map]
  constructor
  ·rintro ⟨x,hx,y,hy,rfl⟩; exact ⟨h,x,hx,y,hy,rfl⟩
  ·rintro ⟨_,x,hx,y,hy,rfl⟩; exact ⟨x,hx,y,hy,rfl⟩
 ·rename_i h
  constructor
  ·intro h; cases h
  ·rintro ⟨h2,_⟩; exact absurd h2 h
theorem allT_mem:∀ (d:Nat) (s:Int) (t:Tr),t ∈ allT d s ↔ (setT d t).2 = true ∧ (setT d t).1 = s
 | 0,s,t=>by simp [allT,setT]
 | d + 1,s,t=>by
  rw [allT]
  constructor
  ·intro h
   split at h
   ·rename_i hs
    rcases List.mem_append.1 h with h | h
    ·obtain ⟨o,ho,rfl,rfl⟩:=leafSet_mem.1 h
     rw [Tr.leaf,setT_nil]
     have hc:o = 0 ∨ o = 1 ∨ o = 2 ∨ o = 3:=by omega
     rcases hc with rfl | rfl | rfl | rfl <;> decide
    ·obtain ⟨k,_,hk⟩:=List.mem_flatMap.1 h
     obtain ⟨⟨h1,h2⟩,x,hx,y,hy,rfl⟩:=cutT_mem.1 hk
     obtain ⟨x1,x2⟩:=(allT_mem d _ x).1 hx
     obtain ⟨y1,y2⟩:=(allT_mem d _ y).1 hy
     have hu:=uncut16 (a:=(k:Int) + 1) (s:=s) (by omega) (by omega) h1 h2
     rw [Tr.join,setT_two,if_pos rfl,x1,x2,y1,y2,hu.1,hu.2]
     exact ⟨rfl,rfl⟩
   ·cases h
  ·rintro ⟨h1,h2⟩
   have hp:=setT_pos _ _ h1
   have hr:=setT_range (d + 1) t
   rw [h2] at hp hr
   rw [if_pos ⟨hp,by omega⟩]
   rcases tr_form h1 with ⟨o,rfl⟩ | ⟨a,b,rfl⟩
   ·refine List.mem_append.2 (.inl (leafSet_mem.2 ?_))
    rw [Tr.leaf,setT_nil] at h1 h2
    simp only [Bool.and_eq_true,decide_eq_true_eq] at h1
    refine ⟨o.toNat,by omega, ?_,by rw [Int.toNat_of_nonneg h1.1]⟩
    dsimp only at h2
    rw [← h2]
    have hc:o = 0 ∨ o = 1 ∨ o = 2 ∨ o = 3:=by omega
    rcases hc with rfl | rfl | rfl | rfl <;> decide
   ·obtain ⟨ha,hb,h0⟩:=setT_join h1
    have pa:=setT_pos d a ha
    have pb:=setT_pos d b hb
    have ra:=setT_range d a
    have rb:=setT_range d b
    have hc:=cut16 pa ra.2 pb rb.2 h0
    rw [Tr.join,setT_two,if_pos rfl] at h2
    dsimp only at h2
    rw [hc.1] at h2
    refine List.mem_append.2 (.inr (List.mem_flatMap.2 ⟨((setT d a).1 - 1).toNat,List.mem_range.2 (by omega), ?_⟩))
    have e:((((setT d a).1 - 1).toNat:Nat):Int) + 1 = (setT d a).1:=by omega
    rw [e]
    refine cutT_mem.2 ⟨⟨by omega,by rw [← h2]; exact hc.2.2⟩,a,(allT_mem d _ a).2 ⟨ha,rfl⟩,b,(allT_mem d _ b).2 ⟨hb,by omega⟩,rfl⟩
theorem all_mem {s:Int} {t:Tr} (hs:1 ≤ s):t ∈ allT 4 s ↔ t.may = true ∧ t.set = s:=by
 rw [allT_mem]
 constructor
 ·rintro ⟨h1,h2⟩
  exact ⟨h1,by rw [Tr.set,if_pos (show t.may = true from h1)]; exact h2⟩
 ·rintro ⟨h1,h2⟩
  rw [Tr.set,if_pos h1] at h2
  exact ⟨h1,h2⟩
end
end Go.Sim.Tryz
