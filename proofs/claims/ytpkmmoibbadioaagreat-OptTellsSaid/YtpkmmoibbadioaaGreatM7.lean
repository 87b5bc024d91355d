/- What the row rests on, part 7. Conditions: none. -/
import Derived.Test.YtpkmmoibbadioaaGreatM6
set_option linter.unusedSimpArgs false
set_option linter.unusedVariables false
set_option maxRecDepth 100000
namespace Go.Sim.Tryz
open Go Go.Sim
attribute [local push_cast] aops_cons aops_nil aopG_none aopG_some aopP_eq aopE_eq aopC_eq aopE?_eq aopC?_eq aopB_eq aopB?_eq abr anilq gopP_eq gopL_eq ahead_cons ahead_nil ahdG_none ahdG_some ahdP_eq ahdN_eq ahdC_eq ahdN?_eq ahdS_eq ahdS?_eq astoreN ahdC?_eq ghdP_eq ghdC_eq ghdC?_eq ghdZ_f ghdZ_t ahdI_eq ahdI?_eq ghdN?_eq aim_nil aim_cons isIn_nil isIn_none isIn_cons aimm aheP_eq aheA_eq aheC_eq aheC?_eq aheI?_eq aheA?_eq gheP_eq gheC_eq gheC?_eq gheZ_eq aheG_none aheG_some aheff_cons aheff_nil aapp gro_rsl gro_lit gro_esl opt_some opt_none no_eq acondT_true acondT_false acondT_lit aw_skip aw_region aw_regionD aw_seq aw_cond aw_block aw_loop aw_exit aw_label aw_ret thn_normal thn_exit thn_ret inb_normal inb_exit inb_ret qret_ret qret_normal gcond apure aeff anew acallee ares aresT aresL aresC ares1 qfin_eq ev ofV evL gokL tget tput_some tput_none initT abin aint aun aload afaddr aiaddr afield aindex aextract apick pickv_lit Bool.or_false Bool.false_or Bool.or_true Bool.true_or imp_self aslice chunk roomB abound aconv abuild afill splice alen aminmax abuiltin anil apart Value.oneCell' astore aappend srcEs abuildSlice amakeSlice amapPut alookup aput afind mget keyV sameV_int Option.isSome_some Option.isSome_none cond_true cond_false asets isEq plus_obj plus_nxt plus_add plus_set plus_del IntKind.bits Option.map_some Option.map_none Option.bind_some Option.bind_none Option.join_some Option.getD_some Option.getD_none Option.toList List.getElem?_toArray List.getElem?_cons_zero List.getElem?_cons_succ List.getElem?_nil List.length_cons List.length_nil List.length_map List.head?_cons List.cons_append List.nil_append List.append_nil List.map_cons List.map_nil List.getD_cons_zero List.getD_cons_succ List.replicate_succ List.replicate_zero List.set_cons_zero List.set_cons_succ List.take_succ_cons List.take_zero List.drop_succ_cons List.drop_zero List.all_cons List.all_nil Nat.zero_add if_true if_false true_and and_true false_and and_false true_implies implies_true forall_const Bool.and_true Bool.true_and Bool.false_and Bool.and_false Bool.true_beq Bool.false_beq Bool.not_not beq_tt beq_ff Int.toNat_natCast decide_true decide_false Bool.not_true Bool.not_false Bool.true_eq_false Bool.false_eq_true false_implies exists_prop eq_self bne_self_eq_false beq_self_eq_true decide_eq_true_eq decide_eq_false_iff_not Bool.not_eq_true' Bool.not_eq_false' AV.int AV.bool AV.nilS ne_eq not_false_eq_true not_true_eq_false exists_eq_left exists_eq_left' Nat.lt_irrefl core_lit grd_lit acells_lit one_lit core_agg grd_agg acells_agg one_agg core_tup grd_tup acells_tup one_tup core_sl grd_sl acells_sl one_sl core_esl grd_esl acells_esl one_esl core_rsl grd_rsl acells_rsl one_rsl core_ptr grd_ptr acells_ptr one_ptr core_iptr grd_iptr acells_iptr one_iptr core_clo grd_clo acells_clo one_clo core_mp grd_mp acells_mp one_mp core_any grd_any acells_any one_any core_gv grd_gv fit_agg fit_lit fit_sl fit_esl fit_rsl fit_ptr fit_iptr fit_clo fit_mp retq_ret retq_normal set_nxt set_set plus_obj_set plus_set_set app_get0 app_get app_set0 app_set List.append_assoc List.length_append List.length_set Nat.lt_add_one Nat.add_lt_add_iff_right Nat.lt_add_right_iff_pos Nat.add_lt_add_iff_left List.mem_cons List.not_mem_nil or_false forall_eq forall_eq_or_imp lt_s0 lt_s1 lt_s2 lt_s3 lt_s4 lt_s5 lt_s6 lt_s7 lt_s8 pickv_t pickv_f or_nand or_nand2 imp_and_l SealT SealOs sealO_cells sl_lit sl_any sl_agg sl_tup sl_sl sl_rsl slO sl_esl sl_nil sl_eslesl sl_eslnil sl_rslrsl sl_eslrsl sl_nilrsl sl_ptr sl_iptr sl_ptri slP sl_clo sl_mp sl_gv sll_nil sll_cons slll_nil slll_cons shut_eq shutO Option.join_none Fn.func.injEq and_self sealL_self sealLL_self seal_self PureL PureLL Pure Nat.le_refl Nat.zero_le AV.lit.injEq Value.int.injEq Value.bool.injEq false_or or_true true_or Int.natCast_zero Int.ofNat_zero Int.cast_ofNat_Int Int.natCast_add Int.natCast_one Option.some.injEq piL_is sop_nil sop_cons sop_none sop_some sopO_some sop_new shut_pi shutL_nil shutL_cons exQ_exit exQ_ret exQ_normal Go.Sim.Tryz.ty_load1 Go.Sim.Tryz.ty_zero1 Go.Sim.Tryz.ty_load2 Go.Sim.Tryz.ty_zero2 Go.Sim.Tryz.ty_und2 Go.Sim.Tryz.ty_load3 Go.Sim.Tryz.ty_zero3 Go.Sim.Tryz.ty_und3 Go.Sim.Tryz.ty_load4 Go.Sim.Tryz.ty_zero4 Go.Sim.Tryz.ty_und4 Go.Sim.Tryz.ty_load5 Go.Sim.Tryz.ty_zero5 Go.Sim.Tryz.ty_und5 Go.Sim.Tryz.ty_load9 Go.Sim.Tryz.ty_zero9 Go.Sim.Tryz.ty_und9 Go.Sim.Tryz.ty_load22 Go.Sim.Tryz.ty_zero22 Go.Sim.Tryz.ty_el22 Go.Sim.Tryz.ty_zeroE22 Go.Sim.Tryz.ty_load24 Go.Sim.Tryz.ty_zero24 Go.Sim.Tryz.ty_fld24_0 Go.Sim.Tryz.ty_part24_0 Go.Sim.Tryz.ty_struct24 Go.Sim.Tryz.ty_load25 Go.Sim.Tryz.ty_zero25 Go.Sim.Tryz.ty_el25 Go.Sim.Tryz.ty_zeroE25 Go.Sim.Tryz.ty_load26 Go.Sim.Tryz.ty_zero26 Go.Sim.Tryz.ty_el26 Go.Sim.Tryz.ty_zeroE26 Go.Sim.Tryz.ty_load28 Go.Sim.Tryz.ty_zero28 Go.Sim.Tryz.ty_fld28_0 Go.Sim.Tryz.ty_part28_0 Go.Sim.Tryz.ty_fld28_1 Go.Sim.Tryz.ty_part28_1 Go.Sim.Tryz.ty_fld28_2 Go.Sim.Tryz.ty_part28_2 Go.Sim.Tryz.ty_fld28_3 Go.Sim.Tryz.ty_part28_3 Go.Sim.Tryz.ty_fld28_4 Go.Sim.Tryz.ty_part28_4 Go.Sim.Tryz.ty_fld28_5 Go.Sim.Tryz.ty_part28_5 Go.Sim.Tryz.ty_struct28 Go.Sim.Tryz.ty_load29 Go.Sim.Tryz.ty_zero29 Go.Sim.Tryz.ty_arr29 Go.Sim.Tryz.ty_part29_0 Go.Sim.Tryz.ty_part29_1 Go.Sim.Tryz.ty_struct29 Go.Sim.Tryz.ty_load30 Go.Sim.Tryz.ty_zero30 Go.Sim.Tryz.ty_el30 Go.Sim.Tryz.ty_zeroE30 Go.Sim.Tryz.ty_load32 Go.Sim.Tryz.ty_zero32 Go.Sim.Tryz.ty_fld32_0 Go.Sim.Tryz.ty_part32_0 Go.Sim.Tryz.ty_fld32_1 Go.Sim.Tryz.ty_part32_1 Go.Sim.Tryz.ty_fld32_2 Go.Sim.Tryz.ty_part32_2 Go.Sim.Tryz.ty_fld32_3 Go.Sim.Tryz.ty_part32_3 Go.Sim.Tryz.ty_struct32 Go.Sim.Tryz.ty_load34 Go.Sim.Tryz.ty_zero34 Go.Sim.Tryz.ty_fld34_0 Go.Sim.Tryz.ty_part34_0 Go.Sim.Tryz.ty_fld34_1 Go.Sim.Tryz.ty_part34_1 Go.Sim.Tryz.ty_fld34_2 Go.Sim.Tryz.ty_part34_2 Go.Sim.Tryz.ty_struct34 Go.Sim.Tryz.ty_load41 Go.Sim.Tryz.ty_zero41 Go.Sim.Tryz.ty_el41 Go.Sim.Tryz.ty_zeroE41 Go.Sim.Tryz.ty_load47 Go.Sim.Tryz.ty_zero47 Go.Sim.Tryz.ty_el47 Go.Sim.Tryz.ty_zeroE47 Go.Sim.Tryz.ty_load52 Go.Sim.Tryz.ty_zero52 Go.Sim.Tryz.ty_fld52_0 Go.Sim.Tryz.ty_part52_0 Go.Sim.Tryz.ty_fld52_1 Go.Sim.Tryz.ty_part52_1 Go.Sim.Tryz.ty_struct52 Go.Sim.Tryz.ty_load58 Go.Sim.Tryz.ty_zero58 Go.Sim.Tryz.ty_fld58_0 Go.Sim.Tryz.ty_part58_0 Go.Sim.Tryz.ty_fld58_1 Go.Sim.Tryz.ty_part58_1 Go.Sim.Tryz.ty_struct58 Go.Sim.Tryz.ty_load60 Go.Sim.Tryz.ty_zero60 Go.Sim.Tryz.ty_fld60_0 Go.Sim.Tryz.ty_part60_0 Go.Sim.Tryz.ty_fld60_1 Go.Sim.Tryz.ty_part60_1 Go.Sim.Tryz.ty_struct60 Go.Sim.Tryz.ty_load62 Go.Sim.Tryz.ty_zero62 Go.Sim.Tryz.ty_fld62_0 Go.Sim.Tryz.ty_part62_0 Go.Sim.Tryz.ty_fld62_1 Go.Sim.Tryz.ty_part62_1 Go.Sim.Tryz.ty_fld62_2 Go.Sim.Tryz.ty_part62_2 Go.Sim.Tryz.ty_fld62_3 Go.Sim.Tryz.ty_part62_3 Go.Sim.Tryz.ty_struct62 Go.Sim.Tryz.ty_load73 Go.Sim.Tryz.ty_zero73 Go.Sim.Tryz.ty_el73 Go.Sim.Tryz.ty_zeroE73 Go.Sim.Tryz.ty_load75 Go.Sim.Tryz.ty_zero75 Go.Sim.Tryz.ty_fld75_0 Go.Sim.Tryz.ty_part75_0 Go.Sim.Tryz.ty_struct75 Go.Sim.Tryz.ty_load79 Go.Sim.Tryz.ty_zero79 Go.Sim.Tryz.ty_load80 Go.Sim.Tryz.ty_zero80 Go.Sim.Tryz.ty_el80 Go.Sim.Tryz.ty_zeroE80 Go.Sim.Tryz.ty_load82 Go.Sim.Tryz.ty_zero82 Go.Sim.Tryz.ty_fld82_0 Go.Sim.Tryz.ty_part82_0 Go.Sim.Tryz.ty_fld82_1 Go.Sim.Tryz.ty_part82_1 Go.Sim.Tryz.ty_fld82_2 Go.Sim.Tryz.ty_part82_2 Go.Sim.Tryz.ty_struct82 Go.Sim.Tryz.ty_load87 Go.Sim.Tryz.ty_zero87 Go.Sim.Tryz.ty_fld87_0 Go.Sim.Tryz.ty_part87_0 Go.Sim.Tryz.ty_fld87_1 Go.Sim.Tryz.ty_part87_1 Go.Sim.Tryz.ty_struct87 Go.Sim.Tryz.ty_load90 Go.Sim.Tryz.ty_zero90 Go.Sim.Tryz.ty_arr90 Go.Sim.Tryz.ty_part90_0 Go.Sim.Tryz.ty_part90_1 Go.Sim.Tryz.ty_struct90 Go.Sim.Tryz.ty_load92 Go.Sim.Tryz.ty_zero92 Go.Sim.Tryz.ty_load103 Go.Sim.Tryz.ty_zero103 Go.Sim.Tryz.ty_fld103_0 Go.Sim.Tryz.ty_part103_0 Go.Sim.Tryz.ty_fld103_1 Go.Sim.Tryz.ty_part103_1 Go.Sim.Tryz.ty_struct103 Go.Sim.Tryz.ty_load107 Go.Sim.Tryz.ty_zero107 Go.Sim.Tryz.ty_und107 Go.Sim.Tryz.ty_load110 Go.Sim.Tryz.ty_zero110 Go.Sim.Tryz.ty_und110 Go.Sim.Tryz.ty_load116 Go.Sim.Tryz.ty_zero116 Go.Sim.Tryz.ty_fld116_0 Go.Sim.Tryz.ty_part116_0 Go.Sim.Tryz.ty_struct116 Go.Sim.Tryz.ty_load117 Go.Sim.Tryz.ty_zero117 Go.Sim.Tryz.ty_load118 Go.Sim.Tryz.ty_zero118 Go.Sim.Tryz.ty_el118 Go.Sim.Tryz.ty_zeroE118 Go.Sim.Tryz.ty_load119 Go.Sim.Tryz.ty_zero119 Go.Sim.Tryz.ty_el119 Go.Sim.Tryz.ty_zeroE119 Go.Sim.Tryz.ty_load120 Go.Sim.Tryz.ty_zero120 Go.Sim.Tryz.ty_load131 Go.Sim.Tryz.ty_zero131 Go.Sim.Tryz.ty_load137 Go.Sim.Tryz.ty_zero137 Go.Sim.Tryz.ty_el137 Go.Sim.Tryz.ty_zeroE137 Go.Sim.Tryz.ty_load144 Go.Sim.Tryz.ty_zero144 Go.Sim.Tryz.ty_load147 Go.Sim.Tryz.ty_zero147 Go.Sim.Tryz.ty_und147 Go.Sim.Tryz.ty_load151 Go.Sim.Tryz.ty_zero151 Go.Sim.Tryz.ty_el151 Go.Sim.Tryz.ty_zeroE151 Go.Sim.Tryz.ty_load154 Go.Sim.Tryz.ty_zero154 Go.Sim.Tryz.ty_fld154_0 Go.Sim.Tryz.ty_part154_0 Go.Sim.Tryz.ty_struct154 Go.Sim.Tryz.ty_load164 Go.Sim.Tryz.ty_zero164 Go.Sim.Tryz.ty_load168 Go.Sim.Tryz.ty_zero168 Go.Sim.Tryz.ty_und168 Go.Sim.Tryz.ty_vzero154 Go.Sim.Tryz.ty_load171 Go.Sim.Tryz.ty_zero171 Go.Sim.Tryz.ty_fld171_0 Go.Sim.Tryz.ty_part171_0 Go.Sim.Tryz.ty_fld171_1 Go.Sim.Tryz.ty_part171_1 Go.Sim.Tryz.ty_fld171_2 Go.Sim.Tryz.ty_part171_2 Go.Sim.Tryz.ty_struct171 Go.Sim.Tryz.ty_load173 Go.Sim.Tryz.ty_zero173 Go.Sim.Tryz.ty_load175 Go.Sim.Tryz.ty_zero175 Go.Sim.Tryz.ty_und175 Go.Sim.Tryz.ty_load182 Go.Sim.Tryz.ty_zero182 Go.Sim.Tryz.ty_und182 Go.Sim.Tryz.ty_load185 Go.Sim.Tryz.ty_zero185 Go.Sim.Tryz.ty_load188 Go.Sim.Tryz.ty_zero188 Go.Sim.Tryz.ty_und188 Go.Sim.Tryz.ty_load192 Go.Sim.Tryz.ty_zero192 Go.Sim.Tryz.ty_load195 Go.Sim.Tryz.ty_zero195
section
attribute [local push_cast] encPl_mk encPl_take encPl_len encPl_one encPls_pure encPl_pure encT_pure encT_len encT_one encT_take
theorem acc_pos {W:Pl → List Ch} (h:∀ w,∀ x ∈ W w,0 ≤ x.1) (ws:List Pl) (k:Nat):∀ x ∈ accC W ws k,0 ≤ x.1:=by
 intro x hx
 obtain ⟨w,_,h2⟩:=List.mem_flatMap.1 hx
 exact h w x h2
theorem acc_st {acc:List Ch} (h:acc ≠ []):leastC acc = (stN acc,stP acc):=by
 rw [stN,stP,if_neg h,if_neg h]
set_option maxHeartbeats 32000000 in
theorem refJoin_ok (c:List Df) (hcl:c.length ≤ 1000000) (q:Qy) (hq:q.Ok) (hqi:q.In) (hp8:q.p.length ≤ 8) (d:Nat) (a b:Tr) (hao:a.Ok) (hbo:b.Ok) (col:Int) (hv:validT c q (.join a b) col = true)
  (ha:∀ x,BestRAt c q d a x) (hb:∀ x,BestRAt c q d b x) (hn:col ≠ -1 → BestRAt c q (d + 1) (.join a b) (-1)):BestRAt c q (d + 1) (.join a b) col:=by
 have hto:(Tr.join a b).Ok:=.mk (by simp) (by
  intro x hx
  simp only [List.mem_cons,List.not_mem_nil,or_false] at hx
  rcases hx with rfl | rfl
  ·exact hao
  ·exact hbo)
 have hv1:validT c q (.join a b) (-1) = true:=valid_one hv
 obtain ⟨hm,hmt,hlt,hcolv⟩:=valid_split hv
 have h2:=hv1
 rw [two_valid] at h2
 simp only [Bool.and_eq_true,decide_eq_true_eq] at h2
 obtain ⟨⟨hva,hvb⟩,h0⟩:=h2
 have va:∀ x,validT c q a x = (decide (x = -1) || (q.cols c a.set).contains x):=fun x=>by
  obtain ⟨e1,e2,e3,_⟩:=valid_split hva
  unfold validT; simp [e1,e2,e3]
 have vb:∀ x,validT c q b x = (decide (x = -1) || (q.cols c b.set).contains x):=fun x=>by
  obtain ⟨e1,e2,e3,_⟩:=valid_split hvb
  unfold validT; simp [e1,e2,e3]
 have hM:=MayRQ_ok c hcl q hq hqi
 have hT:=MayTR_ok _ hto
 have hL:=LeavesR_ok _ hto
 have hS:=SetR_ok _ hto
 have hSa:=SetR_ok a hao
 have hSb:=SetR_ok b hbo
 rw [hm] at hM
 rw [hmt] at hT
 have hC:=ColsRQ_ok c hcl q hq hqi (Tr.join a b).set
 have h4:q.occ.length ≤ 4:=may_len hm
 have hbl:=(set_below hmt q.occ.length h4).1 hlt
 have hl16:=lvsT_len 4 (Tr.join a b) (by omega)
 have hcl2:(q.cols c (Tr.join a b).set).length ≤ 1000000:=by
  rw [Qy.cols,if_pos hm]
  have:=colsIn_le c q (bitI (Tr.join a b).set)
  omega
 have hPl:=Place_ok _ hcl2 col
 have hix:=idx_has (q.cols c (Tr.join a b).set) col
 have hcnd:(!decide (col = -1) && decide (idx (fun c=>decide (col = c)) (q.cols c (Tr.join a b).set) < 0)) = false:=by
  rw [hix]
  rcases hcolv with h | h
  ·simp [h]
  ·rw [h]; simp
 have hWs:=WaysR_ok q hq a.set b.set col
 have hwl:(waysP q a.set b.set col).length ≤ 100:=by
  have h1:=ways_len q hq a.set b.set col
  have h2:=pairs_len q a.set b.set
  have h3:(q.new a.set b.set).length ≤ q.p.length:=idxF_lt _ _
  omega
 have hRa:=RowsR_ok c hcl q hq hqi a.set
 have hRb:=RowsR_ok c hcl q hq hqi b.set
 have hSo:=fun n=>SortedR_ok c hcl q hq hqi (Tr.join a b).set n
 have hcand:candC c q (bestF c q d) (.join a b) col = accC (wayC c q (bestF c q d a) (bestF c q d b) a.set b.set col) (waysP q a.set b.set col) (waysP q a.set b.set col).length:=by
  rw [accC,List.take_length]; rfl
 have hvv:bestF c q (d + 1) (.join a b) col = leastC (candC c q (bestF c q d) (.join a b) col ++ (if col = -1 then [] else [sortC c q (.join a b) col (bestF c q (d + 1) (.join a b) (-1))])):=by
  rw [bestF]
  by_cases h:col = -1
  ·subst h
   rw [if_pos rfl,if_pos rfl,List.append_nil]
  ·rw [if_neg h,if_neg h,bestF,if_pos rfl]
 rw [hcand] at hvv
 have hWdef:∀ w,wayC c q (bestF c q d a) (bestF c q d b) a.set b.set col w = (if (mustP w col).1 ≠ -1 ∧ (q.cols c a.set).contains (mustP w col).1 = false then [] else [(addK [(bestF c q d a (mustP w col).1).1,(bestF c q d b (mustP w col).2).1,ownW c q w a.set b.set], .mk w.op w.occ w.a w.b [(bestF c q d a (mustP w col).1).2,(bestF c q d b (mustP w col).2).2])]):=fun w=>rfl
 have hWp:∀ w,∀ x ∈ wayC c q (bestF c q d a) (bestF c q d b) a.set b.set col w,0 ≤ x.1:=fun w x hx=>by
  rw [hWdef] at hx
  split at hx
  ·cases hx
  ·rw [List.mem_singleton] at hx
   subst hx
   exact addK_nonneg _
 have hWm:∀ w ∈ waysP q a.set b.set col,w = nestW ∨ ∃ (op:Int) (p:Int × Int),w = .mk op 0 p.1 p.2 [] ∧ ((q.cols c a.set).contains p.1 = true ∧ (q.cols c b.set).contains p.2 = true) ∧ ((op = 2 ∧ col = -1) ∨ op = 3):=fun w hw=>by
  rcases ways_mem hw with h | ⟨op,p,e,hp,h⟩
  ·exact .inl h
  ·exact .inr ⟨op,p,e,pairs_cols hm h0 hp,h.imp id fun h=>h.1⟩
 have hne:col = -1 → accC (wayC c q (bestF c q d a) (bestF c q d b) a.set b.set col) (waysP q a.set b.set col) (waysP q a.set b.set col).length ≠ []:=by
  intro e h
  have h1:=wayC_mem (c:=c) (q:=q) (f:=bestF c q d a) (g:=bestF c q d b) (a:=a.set) (b:=b.set) (col:=col) (w:=nestW) (.inl e)
  rw [accC,List.take_length] at h
  have h2:=List.mem_flatMap.2 ⟨nestW,ways_nest q a.set b.set col,h1⟩
  rw [h] at h2; cases h2
 have hown:∀ w,ownW c q w a.set b.set = (if w.op = 1 then nestK (rowsQ c q a.set) (rowsQ c q b.set) else if w.op = 2 then hashK (rowsQ c q a.set) (rowsQ c q b.set) else mergeK (rowsQ c q a.set) (rowsQ c q b.set)):=fun w=>rfl
 unfold BestRAt at ha hb hn ⊢
 have hr:bestRd c q (d + 1) (.join a b) col = ((bestF c q (d + 1) (.join a b) col).1,(bestF c q (d + 1) (.join a b) col).2,true):=by rw [bestRd,hv,if_pos rfl]
 have hr1:bestRd c q (d + 1) (.join a b) (-1) = ((bestF c q (d + 1) (.join a b) (-1)).1,(bestF c q (d + 1) (.join a b) (-1)).2,true):=by rw [bestRd,hv1,if_pos rfl]
 rw [hr,hvv]
 rw [hr1] at hn
 have hRa':∀ x,bestRd c q d a x = if (decide (x = -1) || (q.cols c a.set).contains x) = true then ((bestF c q d a x).1,(bestF c q d a x).2,true) else (0,plO,false):=fun x=>by rw [bestRd,va]
 have hRb':∀ x,bestRd c q d b x = if (decide (x = -1) || (q.cols c b.set).contains x) = true then ((bestF c q d b x).1,(bestF c q d b x).2,true) else (0,plO,false):=fun x=>by rw [bestRd,vb]
 generalize wayC c q (bestF c q d a) (bestF c q d b) a.set b.set col = W at hWp hWdef hne hvv ⊢
 generalize waysP q a.set b.set col = ws at hWs hwl hWm hne hvv ⊢
 have hSj:∀ n,sortC c q (.join a b) col n = (sortedC c q (Tr.join a b).set n.1, .mk 4 0 col 0 [n.2]):=fun n=>rfl
 generalize (lvsT 4 (Tr.join a b)).1 = lv at hbl hl16 hL
 generalize (Tr.join a b).set = sj at hS hC hSo hSj hPl hcnd hcl2
 generalize q.cols c sj = cols at hC hPl hcnd hcl2
 generalize rowsQ c q a.set = ra at hRa hown
 generalize rowsQ c q b.set = rb at hRb hown
 generalize a.set = sa at hSa hWs hRa hWdef hown hRa' hWm
 generalize b.set = sb at hSb hWs hRb hWdef hown hRb' hWm
 generalize bestF c q (d + 1) (a.join b) (-1) = xn at hn ⊢
 have hsj:=hSj xn
 obtain ⟨n,p⟩:=xn
 dsimp only at hsj hn ⊢
 rw [hsj]
 have hSo':=hSo n
 generalize hmd:sortedC c q sj n = m at hSo' ⊢
 have hm0:0 ≤ m:=hmd ▸ addK_nonneg _
 clear hr hr1 hvv hcand hmd hSj hSo hix
 have hta:encT (Tr.join a b) = [.int 0, .sl [encT a,encT b]]:=by rw [Tr.join,encT_mk]; rfl
 rw [hta] at hT hL hS hn ⊢
 refine quiet_of (rs:=#[.tmp 8, .cell 9 32, .tmp 10]) Go.Proofs.Tryz.func46 rfl rfl rfl mixed rfl rfl fun H hs=>?_
 push_cast -implicitDefEqProofs [eq_self,iff_self,encQ,if_false,if_true,or_true,or_false,true_or,false_or,List.map_cons,List.map_nil,List.length_cons,List.length_nil,List.set_cons_zero,List.set_cons_succ,List.cons_append,List.nil_append]
 refine callq hM ?_
 push_cast -implicitDefEqProofs [eq_self,iff_self,encQ,if_false,if_true,or_true,or_false,true_or,false_or,List.map_cons,List.map_nil,List.length_cons,List.length_nil,List.set_cons_zero,List.set_cons_succ,List.cons_append,List.nil_append]
 refine callq hT ?_
 push_cast -implicitDefEqProofs [eq_self,iff_self,encQ,if_false,if_true,or_true,or_false,true_or,false_or,List.map_cons,List.map_nil,List.length_cons,List.length_nil,List.set_cons_zero,List.set_cons_succ,List.cons_append,List.nil_append]
 refine callq hL ?_
 push_cast -implicitDefEqProofs [eq_self,iff_self,encQ,if_false,if_true,or_true,or_false,true_or,false_or,List.map_cons,List.map_nil,List.length_cons,List.length_nil,List.set_cons_zero,List.set_cons_succ,List.cons_append,List.nil_append]
 refine loop_at hs (σ:=Nat) (fun i=>i ≤ lv.length) (fun i=>lv.length - i)
  (fun i=>[(14, .int i),(13, .sl (lv.map encI)),(3, .int col),(4, .ptr (H.nxt + 0) 1 0 0),(5, .ptr (H.nxt + 1) 6 0 0),(6, .ptr (H.nxt + 2) 2 0 0),(9, .ptr (H.nxt + 3) 5 0 0)]) (fun i=>[some (.cells 1 [[.sl (c.map encD)]] 0),some (.cells 6 [encQ q] 0),some (.cells 2 [[.int 0, .sl [encT a,encT b]]] 0),some (.cells 5 [encPl plO] 0)]) [some 0,some 1,some 2,some 3] 0 (by omega) rfl ?_ ?_ ?_
 ·(try push_cast -implicitDefEqProofs [eq_self,iff_self,encDs_pure,encEs_pure,encIs_pure,encQ])
 ·(try push_cast -implicitDefEqProofs [eq_self,iff_self,encDs_pure,encEs_pure,encIs_pure,encQ,plO,List.map_nil])
 intro i hi2
 by_cases hi:i < lv.length
 ·have hi':((i:Int) < (lv.length:Int)) = True:=by simp; omega
  have hi0:(0 ≤ (i:Int)) = True:=by simp
  have hlv:=hbl lv[i] (List.getElem_mem hi)
  have hge:((q.occ.length:Int) ≤ lv[i]) = False:=by simp; omega
  push_cast -implicitDefEqProofs [eq_self,iff_self,hi',hi0,encIs_get lv i hi,encI,encQ]
  refine areg_at 8 (by kernel_rfl) (by kernel_rfl) ?_
  push_cast -implicitDefEqProofs [eq_self,iff_self,hi',hi0,encIs_get lv i hi,encI,encQ,hge]
  rw [wrap64 (n:=(i:Int) + 1) (by omega) (by omega)]
  refine next_at [some 0,some 1,some 2,some 3] (i + 1) (by omega) (by omega) rfl ?_ ?_
  ·(try push_cast -implicitDefEqProofs [eq_self,iff_self,encDs_pure,encEs_pure,encIs_pure,encQ])
  ·(try push_cast -implicitDefEqProofs [eq_self,iff_self,encDs_pure,encEs_pure,encIs_pure,encQ])
 have hi':((i:Int) < (lv.length:Int)) = False:=by simp; omega
 push_cast -implicitDefEqProofs [eq_self,iff_self,hi',encQ,if_false,if_true,or_true,or_false,true_or,false_or,List.map_cons,List.map_nil,List.length_cons,List.length_nil,List.set_cons_zero,List.set_cons_succ,List.cons_append,List.nil_append]
 refine callq hS ?_
 push_cast -implicitDefEqProofs [eq_self,iff_self,encQ,if_false,if_true,or_true,or_false,true_or,false_or,List.map_cons,List.map_nil,List.length_cons,List.length_nil,List.set_cons_zero,List.set_cons_succ,List.cons_append,List.nil_append]
 refine callq hC ?_
 push_cast -implicitDefEqProofs [eq_self,iff_self,encQ,if_false,if_true,or_true,or_false,true_or,false_or,List.map_cons,List.map_nil,List.length_cons,List.length_nil,List.set_cons_zero,List.set_cons_succ,List.cons_append,List.nil_append]
 refine gcallq' (.int (idx (fun c=>decide (col = c)) cols)) (fun h=>by simpa using h) (fun _=>hPl) ?_
 push_cast -implicitDefEqProofs [eq_self,iff_self,encQ,if_false,if_true,or_true,or_false,true_or,false_or,List.map_cons,List.map_nil,List.length_cons,List.length_nil,List.set_cons_zero,List.set_cons_succ,List.cons_append,List.nil_append,hcnd]
 refine callq hSa ?_
 push_cast -implicitDefEqProofs [eq_self,iff_self,encQ,if_false,if_true,or_true,or_false,true_or,false_or,List.map_cons,List.map_nil,List.length_cons,List.length_nil,List.set_cons_zero,List.set_cons_succ,List.cons_append,List.nil_append]
 refine callq hSb ?_
 push_cast -implicitDefEqProofs [eq_self,iff_self,encQ,if_false,if_true,or_true,or_false,true_or,false_or,List.map_cons,List.map_nil,List.length_cons,List.length_nil,List.set_cons_zero,List.set_cons_succ,List.cons_append,List.nil_append]
 refine callq hRa ?_
 push_cast -implicitDefEqProofs [eq_self,iff_self,encQ,if_false,if_true,or_true,or_false,true_or,false_or,List.map_cons,List.map_nil,List.length_cons,List.length_nil,List.set_cons_zero,List.set_cons_succ,List.cons_append,List.nil_append]
 refine callq hRb ?_
 push_cast -implicitDefEqProofs [eq_self,iff_self,encQ,if_false,if_true,or_true,or_false,true_or,false_or,List.map_cons,List.map_nil,List.length_cons,List.length_nil,List.set_cons_zero,List.set_cons_succ,List.cons_append,List.nil_append]
 refine callq hWs ?_
 push_cast -implicitDefEqProofs [eq_self,iff_self,encQ,if_false,if_true,or_true,or_false,true_or,false_or,List.map_cons,List.map_nil,List.length_cons,List.length_nil,List.set_cons_zero,List.set_cons_succ,List.cons_append,List.nil_append]
 clear hM hT hL hS hC hSa hSb hRa hRb hWs hbl hl16 hi2 hi hi'
 refine loop_at hs (σ:=Nat) (fun k=>k ≤ ws.length) (fun k=>ws.length - k)
  (fun k=>[(24, .int k),(23, .sl (ws.map encPl)),(21, .int ra),(22, .int rb),(17, .int (stN (accC W ws k))),(18, .ptr (H.nxt + 4) 5 0 0),(15, .int sj),(3, .int col),(4, .ptr (H.nxt + 0) 1 0 0),(5, .ptr (H.nxt + 1) 6 0 0),(6, .ptr (H.nxt + 2) 2 0 0),(9, .ptr (H.nxt + 3) 5 0 0)])
  (fun k=>[some (.cells 1 [[.sl (c.map encD)]] 0),some (.cells 6 [encQ q] 0),some (.cells 2 [[.int 0, .sl [encT a,encT b]]] 0),some (.cells 5 [encPl plO] 0),some (.cells 5 [encPl (stP (accC W ws k))] 0)]) [some 0,some 1,some 2,some 3,some 4] 0 (by omega) rfl ?_ ?_ ?_
 ·(try push_cast -implicitDefEqProofs [eq_self,iff_self,encPls_pure,encDs_pure,encEs_pure,encIs_pure,encQ,accC_zero,stN_nil])
 ·(try push_cast -implicitDefEqProofs [eq_self,iff_self,encPls_pure,encDs_pure,encEs_pure,encIs_pure,encQ,plO,List.map_nil,accC_zero,stP_nil])
 intro k hk
 by_cases hkl:k < ws.length
 ·have hk':((k:Int) < (ws.length:Int)) = True:=by simp; omega
  have hk0:(0 ≤ (k:Int)) = True:=by simp
  have hsn:=accC_snoc W ws hkl
  have hget:=encPls_get ws k hkl
  have hwd:=hWdef ws[k]
  have hmem:=hWm ws[k] (List.getElem_mem hkl)
  have how:=hown ws[k]
  generalize ws[k] = w at hsn hget hwd hmem how
  have hpos:=acc_pos hWp ws k
  have hpush:=st_push hpos
  generalize hrow:accC W ws k = row at hsn hpush ⊢
  generalize hnx:accC W ws (k + 1) = nx at hsn
  generalize hsN:stN row = sN at hpush ⊢
  generalize hsP:stP row = sP at hpush ⊢
  rcases hmem with rfl | ⟨op,p,rfl,⟨hp1,hp2⟩,⟨rfl,rfl⟩ | rfl⟩
  ·have hax:=ha col
   have hby:=hb (-1)
   have h1:=hRa' col
   have h2:=hRb' (-1)
   rw [decide_eq_true (rfl:(-1:Int) = -1),Bool.true_or,if_pos rfl] at h2
   rw [nestW,encPl_mk,List.map_nil] at hget
   have hmp:mustP nestW col = (col,-1):=rfl
   rw [hmp] at hwd
   dsimp only at hwd
   have how:ownW c q nestW sa sb = nestK ra rb:=how
   by_cases hf:(decide (col = -1) || (q.cols c sa).contains col) = true
   ·rw [hf,if_pos rfl] at h1
    rw [if_neg (fun h=>by rw [decide_eq_false h.1,h.2] at hf; cases hf)] at hwd
    rw [h1] at hax
    rw [h2] at hby
    dsimp only at hwd hax hby how
    skip
    generalize bestF c q d a col = l at hwd hax
    generalize bestF c q d b (-1) = r at hwd hby
    obtain ⟨ln,lp⟩:=l
    obtain ⟨rn,rp⟩:=r
    rw [how] at hwd
    dsimp only at hwd hax hby
    rw [hwd] at hsn
    have hN:=Nest10_ok ra rb
    generalize nestK ra rb = own at hwd hsn hN
    have hAd:=Add10_ok [ln,rn,own] (by simp)
    have hpu:=hpush (addK [ln,rn,own], .mk 1 0 0 0 [lp,rp])
    generalize hall:addK [ln,rn,own] = all at hAd hsn hpu
    simp only [Pl.op,Pl.occ,Pl.a,Pl.b,nestW] at hsn
    rw [← hsn] at hpu
    dsimp only at hpu
    push_cast -implicitDefEqProofs [eq_self,iff_self,encQ,if_false,if_true,or_true,or_false,true_or,false_or,List.map_cons,List.map_nil,List.length_cons,List.length_nil,List.set_cons_zero,List.set_cons_succ,List.cons_append,List.nil_append,hk',hk0,hget]
    refine callq hN ?_
    push_cast -implicitDefEqProofs [eq_self,iff_self,encQ,if_false,if_true,or_true,or_false,true_or,false_or,List.map_cons,List.map_nil,List.length_cons,List.length_nil,List.set_cons_zero,List.set_cons_succ,List.cons_append,List.nil_append,hk',hk0,hget]
    refine areg_at 16 (by kernel_rfl) (by kernel_rfl) ?_
    push_cast -implicitDefEqProofs [eq_self,iff_self,encQ,if_false,if_true,or_true,or_false,true_or,false_or,List.map_cons,List.map_nil,List.length_cons,List.length_nil,List.set_cons_zero,List.set_cons_succ,List.cons_append,List.nil_append]
    refine ahdq hax ?_
    push_cast -implicitDefEqProofs [eq_self,iff_self,encQ,if_false,if_true,or_true,or_false,true_or,false_or,List.map_cons,List.map_nil,List.length_cons,List.length_nil,List.set_cons_zero,List.set_cons_succ,List.cons_append,List.nil_append]
    refine areg_at 16 (by kernel_rfl) (by kernel_rfl) ?_
    push_cast -implicitDefEqProofs [eq_self,iff_self,encQ,if_false,if_true,or_true,or_false,true_or,false_or,List.map_cons,List.map_nil,List.length_cons,List.length_nil,List.set_cons_zero,List.set_cons_succ,List.cons_append,List.nil_append]
    refine ahdq hby ?_
    push_cast -implicitDefEqProofs [eq_self,iff_self,encQ,if_false,if_true,or_true,or_false,true_or,false_or,List.map_cons,List.map_nil,List.length_cons,List.length_nil,List.set_cons_zero,List.set_cons_succ,List.cons_append,List.nil_append]
    refine fzk H 7 3 [.sl ([ln,rn,own].map encI)] (by rfl) (by omega) (by simp) ?_ ?_
    ·(try push_cast -implicitDefEqProofs [eq_self,iff_self,encI,List.map_cons,List.map_nil])
    refine callq hAd ?_
    by_cases hs0:sN < 0
    ·obtain ⟨e1,e2⟩:=hpu.1 (.inl hs0)
     have hd0:decide (sN < 0) = true:=decide_eq_true hs0
     push_cast -implicitDefEqProofs [eq_self,iff_self,encQ,if_false,if_true,or_true,or_false,true_or,false_or,List.map_cons,List.map_nil,List.length_cons,List.length_nil,List.set_cons_zero,List.set_cons_succ,List.cons_append,List.nil_append,hd0,Bool.true_or,Bool.or_true,Bool.true_and,Bool.and_true,Bool.false_or]
     refine areg_im [228] 14 (by kernel_rfl) (by kernel_rfl) ?_
     push_cast -implicitDefEqProofs [eq_self,iff_self,encQ,if_false,if_true,or_true,or_false,true_or,false_or,List.map_cons,List.map_nil,List.length_cons,List.length_nil,List.set_cons_zero,List.set_cons_succ,List.cons_append,List.nil_append,hk',hk0,hget]
     rw [wrap64 (n:=(k:Int) + 1) (by omega) (by omega)]
     refine next_at [some 0,some 1,some 2,some 3,some 4] (k + 1) (by omega) (by omega) rfl ?_ ?_
     ·(try push_cast -implicitDefEqProofs [eq_self,iff_self,hnx,e1,encPls_pure,encPl_pure,encDs_pure,encEs_pure,encIs_pure,encQ,if_false,if_true,or_true,or_false,true_or,false_or,List.map_cons,List.map_nil,List.length_cons,List.length_nil,List.set_cons_zero,List.set_cons_succ,List.cons_append,List.nil_append])
     ·(try push_cast -implicitDefEqProofs [eq_self,iff_self,hnx,e2,encPl_drop,encPl_mk,encPls_pure,encPl_pure,encDs_pure,encEs_pure,encIs_pure,encQ,if_false,if_true,or_true,or_false,true_or,false_or,List.map_cons,List.map_nil,List.length_cons,List.length_nil,List.set_cons_zero,List.set_cons_succ,List.cons_append,List.nil_append])
    have hd0:decide (sN < 0) = false:=decide_eq_false hs0
    by_cases hs1:all < sN
    ·obtain ⟨e1,e2⟩:=hpu.1 (.inr hs1)
     have hd1:decide (all < sN) = true:=decide_eq_true hs1
     push_cast -implicitDefEqProofs [eq_self,iff_self,encQ,if_false,if_true,or_true,or_false,true_or,false_or,List.map_cons,List.map_nil,List.length_cons,List.length_nil,List.set_cons_zero,List.set_cons_succ,List.cons_append,List.nil_append,hd0,hd1,Bool.true_or,Bool.or_true,Bool.true_and,Bool.and_true,Bool.false_or]
     refine areg_im [228] 14 (by kernel_rfl) (by kernel_rfl) ?_
     push_cast -implicitDefEqProofs [eq_self,iff_self,encQ,if_false,if_true,or_true,or_false,true_or,false_or,List.map_cons,List.map_nil,List.length_cons,List.length_nil,List.set_cons_zero,List.set_cons_succ,List.cons_append,List.nil_append,hk',hk0,hget]
     rw [wrap64 (n:=(k:Int) + 1) (by omega) (by omega)]
     refine next_at [some 0,some 1,some 2,some 3,some 4] (k + 1) (by omega) (by omega) rfl ?_ ?_
     ·(try push_cast -implicitDefEqProofs [eq_self,iff_self,hnx,e1,encPls_pure,encPl_pure,encDs_pure,encEs_pure,encIs_pure,encQ,if_false,if_true,or_true,or_false,true_or,false_or,List.map_cons,List.map_nil,List.length_cons,List.length_nil,List.set_cons_zero,List.set_cons_succ,List.cons_append,List.nil_append])
     ·(try push_cast -implicitDefEqProofs [eq_self,iff_self,hnx,e2,encPl_drop,encPl_mk,encPls_pure,encPl_pure,encDs_pure,encEs_pure,encIs_pure,encQ,if_false,if_true,or_true,or_false,true_or,false_or,List.map_cons,List.map_nil,List.length_cons,List.length_nil,List.set_cons_zero,List.set_cons_succ,List.cons_append,List.nil_append])
    obtain ⟨e1,e2⟩:=hpu.2 (fun h=>h.elim hs0 hs1)
    have hd1:decide (all < sN) = false:=decide_eq_false hs1
    push_cast -implicitDefEqProofs [eq_self,iff_self,encQ,if_false,if_true,or_true,or_false,true_or,false_or,List.map_cons,List.map_nil,List.length_cons,List.length_nil,List.set_cons_zero,List.set_cons_succ,List.cons_append,List.nil_append,hd0,hd1,Bool.true_or,Bool.or_true,Bool.true_and,Bool.and_true,Bool.false_or,Bool.or_false,Bool.and_false]
    rw [wrap64 (n:=(k:Int) + 1) (by omega) (by omega)]
    refine next_at [some 0,some 1,some 2,some 3,some 4] (k + 1) (by omega) (by omega) rfl ?_ ?_
    ·(try push_cast -implicitDefEqProofs [eq_self,iff_self,hnx,e1,encPls_pure,encPl_pure,encDs_pure,encEs_pure,encIs_pure,encQ,if_false,if_true,or_true,or_false,true_or,false_or,List.map_cons,List.map_nil,List.length_cons,List.length_nil,List.set_cons_zero,List.set_cons_succ,List.cons_append,List.nil_append])
    ·(try push_cast -implicitDefEqProofs [eq_self,iff_self,hnx,e2,hsP,encPls_pure,encPl_pure,encDs_pure,encEs_pure,encIs_pure,encQ,if_false,if_true,or_true,or_false,true_or,false_or,List.map_cons,List.map_nil,List.length_cons,List.length_nil,List.set_cons_zero,List.set_cons_succ,List.cons_append,List.nil_append])
   ·rw [if_neg hf] at h1
    have hg:=Bool.eq_false_iff.2 hf
    rw [Bool.or_eq_false_iff,decide_eq_false_iff_not] at hg
    rw [if_pos hg] at hwd
    rw [h1] at hax
    rw [h2] at hby
    dsimp only at hax hby
    rw [hwd,List.append_nil] at hsn
    generalize bestF c q d b (-1) = r at hby
    obtain ⟨rn,rp⟩:=r
    dsimp only at hby
    have hN:=Nest10_ok ra rb
    generalize nestK ra rb = own at hN
    have hAd:=Add10_ok [0,rn,own] (by simp)
    generalize addK [0,rn,own] = all at hAd
    push_cast -implicitDefEqProofs [eq_self,iff_self,encQ,if_false,if_true,or_true,or_false,true_or,false_or,List.map_cons,List.map_nil,List.length_cons,List.length_nil,List.set_cons_zero,List.set_cons_succ,List.cons_append,List.nil_append,hk',hk0,hget]
    refine callq hN ?_
    push_cast -implicitDefEqProofs [eq_self,iff_self,encQ,if_false,if_true,or_true,or_false,true_or,false_or,List.map_cons,List.map_nil,List.length_cons,List.length_nil,List.set_cons_zero,List.set_cons_succ,List.cons_append,List.nil_append,hk',hk0,hget]
    refine areg_at 16 (by kernel_rfl) (by kernel_rfl) ?_
    push_cast -implicitDefEqProofs [eq_self,iff_self,encQ,if_false,if_true,or_true,or_false,true_or,false_or,List.map_cons,List.map_nil,List.length_cons,List.length_nil,List.set_cons_zero,List.set_cons_succ,List.cons_append,List.nil_append]
    refine ahdq hax ?_
    push_cast -implicitDefEqProofs [eq_self,iff_self,encQ,if_false,if_true,or_true,or_false,true_or,false_or,List.map_cons,List.map_nil,List.length_cons,List.length_nil,List.set_cons_zero,List.set_cons_succ,List.cons_append,List.nil_append]
    refine areg_at 16 (by kernel_rfl) (by kernel_rfl) ?_
    push_cast -implicitDefEqProofs [eq_self,iff_self,encQ,if_false,if_true,or_true,or_false,true_or,false_or,List.map_cons,List.map_nil,List.length_cons,List.length_nil,List.set_cons_zero,List.set_cons_succ,List.cons_append,List.nil_append]
    refine ahdq hby ?_
    push_cast -implicitDefEqProofs [eq_self,iff_self,encQ,if_false,if_true,or_true,or_false,true_or,false_or,List.map_cons,List.map_nil,List.length_cons,List.length_nil,List.set_cons_zero,List.set_cons_succ,List.cons_append,List.nil_append]
    refine fzk H 7 3 [.sl ([0,rn,own].map encI)] (by rfl) (by omega) (by simp) ?_ ?_
    ·(try push_cast -implicitDefEqProofs [eq_self,iff_self,encI,List.map_cons,List.map_nil])
    refine callq hAd ?_
    push_cast -implicitDefEqProofs [eq_self,iff_self,encQ,if_false,if_true,or_true,or_false,true_or,false_or,List.map_cons,List.map_nil,List.length_cons,List.length_nil,List.set_cons_zero,List.set_cons_succ,List.cons_append,List.nil_append,Bool.false_and,Bool.true_and]
    rw [wrap64 (n:=(k:Int) + 1) (by omega) (by omega)]
    subst hsn
    refine next_at [some 0,some 1,some 2,some 3,some 4] (k + 1) (by omega) (by omega) rfl ?_ ?_
    ·(try push_cast -implicitDefEqProofs [eq_self,iff_self,hnx,hsN,encPls_pure,encPl_pure,encDs_pure,encEs_pure,encIs_pure,encQ,if_false,if_true,or_true,or_false,true_or,false_or,List.map_cons,List.map_nil,List.length_cons,List.length_nil,List.set_cons_zero,List.set_cons_succ,List.cons_append,List.nil_append])
    ·(try push_cast -implicitDefEqProofs [eq_self,iff_self,hnx,hsP,encPls_pure,encPl_pure,encDs_pure,encEs_pure,encIs_pure,encQ,if_false,if_true,or_true,or_false,true_or,false_or,List.map_cons,List.map_nil,List.length_cons,List.length_nil,List.set_cons_zero,List.set_cons_succ,List.cons_append,List.nil_append])
  ·have hax:=ha (-1)
   have hby:=hb (-1)
   have h1:=hRa' (-1)
   have h2:=hRb' (-1)
   rw [decide_eq_true (rfl:(-1:Int) = -1),Bool.true_or,if_pos rfl] at h2
   rw [decide_eq_true (rfl:(-1:Int) = -1),Bool.true_or,if_pos rfl] at h1
   rw [encPl_mk,List.map_nil] at hget
   have hmp:mustP (.mk 2 0 p.1 p.2 []) (-1) = (-1,-1):=rfl
   rw [hmp] at hwd
   dsimp only at hwd
   rw [if_neg (fun h=>h.1 rfl)] at hwd
   have how:ownW c q (.mk 2 0 p.1 p.2 []) sa sb = hashK ra rb:=how
   rw [h1] at hax
   rw [h2] at hby
   dsimp only at hwd hax hby how
   skip
   generalize bestF c q d a (-1) = l at hwd hax
   generalize bestF c q d b (-1) = r at hwd hby
   obtain ⟨ln,lp⟩:=l
   obtain ⟨rn,rp⟩:=r
   rw [how] at hwd
   dsimp only at hwd hax hby
   rw [hwd] at hsn
   have hN:=Hash10_ok ra rb
   have hNn:=Nest10_ok ra rb
   generalize hashK ra rb = own at hwd hsn hN
   generalize nestK ra rb = ownn at hNn
   have hAd:=Add10_ok [ln,rn,own] (by simp)
   have hpu:=hpush (addK [ln,rn,own], .mk 2 0 p.1 p.2 [lp,rp])
   generalize hall:addK [ln,rn,own] = all at hAd hsn hpu
   simp only [Pl.op,Pl.occ,Pl.a,Pl.b,nestW] at hsn
   rw [← hsn] at hpu
   dsimp only at hpu
   push_cast -implicitDefEqProofs [eq_self,iff_self,encQ,if_false,if_true,or_true,or_false,true_or,false_or,List.map_cons,List.map_nil,List.length_cons,List.length_nil,List.set_cons_zero,List.set_cons_succ,List.cons_append,List.nil_append,hk',hk0,hget]
   refine callq hNn ?_
   push_cast -implicitDefEqProofs [eq_self,iff_self,encQ,if_false,if_true,or_true,or_false,true_or,false_or,List.map_cons,List.map_nil,List.length_cons,List.length_nil,List.set_cons_zero,List.set_cons_succ,List.cons_append,List.nil_append,hk',hk0,hget]
   refine callq hN ?_
   push_cast -implicitDefEqProofs [eq_self,iff_self,encQ,if_false,if_true,or_true,or_false,true_or,false_or,List.map_cons,List.map_nil,List.length_cons,List.length_nil,List.set_cons_zero,List.set_cons_succ,List.cons_append,List.nil_append,hk',hk0,hget]
   refine areg_at 16 (by kernel_rfl) (by kernel_rfl) ?_
   push_cast -implicitDefEqProofs [eq_self,iff_self,encQ,if_false,if_true,or_true,or_false,true_or,false_or,List.map_cons,List.map_nil,List.length_cons,List.length_nil,List.set_cons_zero,List.set_cons_succ,List.cons_append,List.nil_append]
   refine ahdq hax ?_
   push_cast -implicitDefEqProofs [eq_self,iff_self,encQ,if_false,if_true,or_true,or_false,true_or,false_or,List.map_cons,List.map_nil,List.length_cons,List.length_nil,List.set_cons_zero,List.set_cons_succ,List.cons_append,List.nil_append]
   refine areg_at 16 (by kernel_rfl) (by kernel_rfl) ?_
   push_cast -implicitDefEqProofs [eq_self,iff_self,encQ,if_false,if_true,or_true,or_false,true_or,false_or,List.map_cons,List.map_nil,List.length_cons,List.length_nil,List.set_cons_zero,List.set_cons_succ,List.cons_append,List.nil_append]
   refine ahdq hby ?_
   push_cast -implicitDefEqProofs [eq_self,iff_self,encQ,if_false,if_true,or_true,or_false,true_or,false_or,List.map_cons,List.map_nil,List.length_cons,List.length_nil,List.set_cons_zero,List.set_cons_succ,List.cons_append,List.nil_append]
   refine fzk H 7 3 [.sl ([ln,rn,own].map encI)] (by rfl) (by omega) (by simp) ?_ ?_
   ·(try push_cast -implicitDefEqProofs [eq_self,iff_self,encI,List.map_cons,List.map_nil])
   refine callq hAd ?_
   by_cases hs0:sN < 0
   ·obtain ⟨e1,e2⟩:=hpu.1 (.inl hs0)
    have hd0:decide (sN < 0) = true:=decide_eq_true hs0
    push_cast -implicitDefEqProofs [eq_self,iff_self,encQ,if_false,if_true,or_true,or_false,true_or,false_or,List.map_cons,List.map_nil,List.length_cons,List.length_nil,List.set_cons_zero,List.set_cons_succ,List.cons_append,List.nil_append,hd0,Bool.true_or,Bool.or_true,Bool.true_and,Bool.and_true,Bool.false_or]
    refine areg_im [228] 14 (by kernel_rfl) (by kernel_rfl) ?_
    push_cast -implicitDefEqProofs [eq_self,iff_self,encQ,if_false,if_true,or_true,or_false,true_or,false_or,List.map_cons,List.map_nil,List.length_cons,List.length_nil,List.set_cons_zero,List.set_cons_succ,List.cons_append,List.nil_append,hk',hk0,hget]
    rw [wrap64 (n:=(k:Int) + 1) (by omega) (by omega)]
    refine next_at [some 0,some 1,some 2,some 3,some 4] (k + 1) (by omega) (by omega) rfl ?_ ?_
    ·(try push_cast -implicitDefEqProofs [eq_self,iff_self,hnx,e1,encPls_pure,encPl_pure,encDs_pure,encEs_pure,encIs_pure,encQ,if_false,if_true,or_true,or_false,true_or,false_or,List.map_cons,List.map_nil,List.length_cons,List.length_nil,List.set_cons_zero,List.set_cons_succ,List.cons_append,List.nil_append])
    ·(try push_cast -implicitDefEqProofs [eq_self,iff_self,hnx,e2,encPl_drop,encPl_mk,encPls_pure,encPl_pure,encDs_pure,encEs_pure,encIs_pure,encQ,if_false,if_true,or_true,or_false,true_or,false_or,List.map_cons,List.map_nil,List.length_cons,List.length_nil,List.set_cons_zero,List.set_cons_succ,List.cons_append,List.nil_append])
   have hd0:decide (sN < 0) = false:=decide_eq_false hs0
   by_cases hs1:all < sN
   ·obtain ⟨e1,e2⟩:=hpu.1 (.inr hs1)
    have hd1:decide (all < sN) = true:=decide_eq_true hs1
    push_cast -implicitDefEqProofs [eq_self,iff_self,encQ,if_false,if_true,or_true,or_false,true_or,false_or,List.map_cons,List.map_nil,List.length_cons,List.length_nil,List.set_cons_zero,List.set_cons_succ,List.cons_append,List.nil_append,hd0,hd1,Bool.true_or,Bool.or_true,Bool.true_and,Bool.and_true,Bool.false_or]
    refine areg_im [228] 14 (by kernel_rfl) (by kernel_rfl) ?_
    push_cast -implicitDefEqProofs [eq_self,iff_self,encQ,if_false,if_true,or_true,or_false,true_or,false_or,List.map_cons,List.map_nil,List.length_cons,List.length_nil,List.set_cons_zero,List.set_cons_succ,List.cons_append,List.nil_append,hk',hk0,hget]
    rw [wrap64 (n:=(k:Int) + 1) (by omega) (by omega)]
    refine next_at [some 0,some 1,some 2,some 3,some 4] (k + 1) (by omega) (by omega) rfl ?_ ?_
    ·(try push_cast -implicitDefEqProofs [eq_self,iff_self,hnx,e1,encPls_pure,encPl_pure,encDs_pure,encEs_pure,encIs_pure,encQ,if_false,if_true,or_true,or_false,true_or,false_or,List.map_cons,List.map_nil,List.length_cons,List.length_nil,List.set_cons_zero,List.set_cons_succ,List.cons_append,List.nil_append])
    ·(try push_cast -implicitDefEqProofs [eq_self,iff_self,hnx,e2,encPl_drop,encPl_mk,encPls_pure,encPl_pure,encDs_pure,encEs_pure,encIs_pure,encQ,if_false,if_true,or_true,or_false,true_or,false_or,List.map_cons,List.map_nil,List.length_cons,List.length_nil,List.set_cons_zero,List.set_cons_succ,List.cons_append,List.nil_append])
   obtain ⟨e1,e2⟩:=hpu.2 (fun h=>h.elim hs0 hs1)
   have hd1:decide (all < sN) = false:=decide_eq_false hs1
   push_cast -implicitDefEqProofs [eq_self,iff_self,encQ,if_false,if_true,or_true,or_false,true_or,false_or,List.map_cons,List.map_nil,List.length_cons,List.length_nil,List.set_cons_zero,List.set_cons_succ,List.cons_append,List.nil_append,hd0,hd1,Bool.true_or,Bool.or_true,Bool.true_and,Bool.and_true,Bool.false_or,Bool.or_false,Bool.and_false]
   rw [wrap64 (n:=(k:Int) + 1) (by omega) (by omega)]
   refine next_at [some 0,some 1,some 2,some 3,some 4] (k + 1) (by omega) (by omega) rfl ?_ ?_
   ·(try push_cast -implicitDefEqProofs [eq_self,iff_self,hnx,e1,encPls_pure,encPl_pure,encDs_pure,encEs_pure,encIs_pure,encQ,if_false,if_true,or_true,or_false,true_or,false_or,List.map_cons,List.map_nil,List.length_cons,List.length_nil,List.set_cons_zero,List.set_cons_succ,List.cons_append,List.nil_append])
   ·(try push_cast -implicitDefEqProofs [eq_self,iff_self,hnx,e2,hsP,encPls_pure,encPl_pure,encDs_pure,encEs_pure,encIs_pure,encQ,if_false,if_true,or_true,or_false,true_or,false_or,List.map_cons,List.map_nil,List.length_cons,List.length_nil,List.set_cons_zero,List.set_cons_succ,List.cons_append,List.nil_append])
  ·have hax:=ha p.1
   have hby:=hb p.2
   have h1:=hRa' p.1
   have h2:=hRb' p.2
   rw [hp2,Bool.or_true,if_pos rfl] at h2
   rw [hp1,Bool.or_true,if_pos rfl] at h1
   rw [encPl_mk,List.map_nil] at hget
   have hmp:mustP (.mk 3 0 p.1 p.2 []) col = (p.1,p.2):=rfl
   rw [hmp] at hwd
   dsimp only at hwd
   rw [if_neg (fun h=>by rw [hp1] at h; cases h.2)] at hwd
   have how:ownW c q (.mk 3 0 p.1 p.2 []) sa sb = mergeK ra rb:=how
   rw [h1] at hax
   rw [h2] at hby
   dsimp only at hwd hax hby how
   skip
   generalize bestF c q d a p.1 = l at hwd hax
   generalize bestF c q d b p.2 = r at hwd hby
   obtain ⟨ln,lp⟩:=l
   obtain ⟨rn,rp⟩:=r
   rw [how] at hwd
   dsimp only at hwd hax hby
   rw [hwd] at hsn
   have hN:=Merge10_ok ra rb
   have hNn:=Nest10_ok ra rb
   generalize mergeK ra rb = own at hwd hsn hN
   generalize nestK ra rb = ownn at hNn
   have hAd:=Add10_ok [ln,rn,own] (by simp)
   have hpu:=hpush (addK [ln,rn,own], .mk 3 0 p.1 p.2 [lp,rp])
   generalize hall:addK [ln,rn,own] = all at hAd hsn hpu
   simp only [Pl.op,Pl.occ,Pl.a,Pl.b,nestW] at hsn
   rw [← hsn] at hpu
   dsimp only at hpu
   push_cast -implicitDefEqProofs [eq_self,iff_self,encQ,if_false,if_true,or_true,or_false,true_or,false_or,List.map_cons,List.map_nil,List.length_cons,List.length_nil,List.set_cons_zero,List.set_cons_succ,List.cons_append,List.nil_append,hk',hk0,hget]
   refine callq hNn ?_
   push_cast -implicitDefEqProofs [eq_self,iff_self,encQ,if_false,if_true,or_true,or_false,true_or,false_or,List.map_cons,List.map_nil,List.length_cons,List.length_nil,List.set_cons_zero,List.set_cons_succ,List.cons_append,List.nil_append,hk',hk0,hget]
   refine callq hN ?_
   push_cast -implicitDefEqProofs [eq_self,iff_self,encQ,if_false,if_true,or_true,or_false,true_or,false_or,List.map_cons,List.map_nil,List.length_cons,List.length_nil,List.set_cons_zero,List.set_cons_succ,List.cons_append,List.nil_append,hk',hk0,hget]
   refine areg_at 16 (by kernel_rfl) (by kernel_rfl) ?_
   push_cast -implicitDefEqProofs [eq_self,iff_self,encQ,if_false,if_true,or_true,or_false,true_or,false_or,List.map_cons,List.map_nil,List.length_cons,List.length_nil,List.set_cons_zero,List.set_cons_succ,List.cons_append,List.nil_append]
   refine ahdq hax ?_
   push_cast -implicitDefEqProofs [eq_self,iff_self,encQ,if_false,if_true,or_true,or_false,true_or,false_or,List.map_cons,List.map_nil,List.length_cons,List.length_nil,List.set_cons_zero,List.set_cons_succ,List.cons_append,List.nil_append]
   refine areg_at 16 (by kernel_rfl) (by kernel_rfl) ?_
   push_cast -implicitDefEqProofs [eq_self,iff_self,encQ,if_false,if_true,or_true,or_false,true_or,false_or,List.map_cons,List.map_nil,List.length_cons,List.length_nil,List.set_cons_zero,List.set_cons_succ,List.cons_append,List.nil_append]
   refine ahdq hby ?_
   push_cast -implicitDefEqProofs [eq_self,iff_self,encQ,if_false,if_true,or_true,or_false,true_or,false_or,List.map_cons,List.map_nil,List.length_cons,List.length_nil,List.set_cons_zero,List.set_cons_succ,List.cons_append,List.nil_append]
   refine fzk H 7 3 [.sl ([ln,rn,own].map encI)] (by rfl) (by omega) (by simp) ?_ ?_
   ·(try push_cast -implicitDefEqProofs [eq_self,iff_self,encI,List.map_cons,List.map_nil])
   refine callq hAd ?_
   by_cases hs0:sN < 0
   ·obtain ⟨e1,e2⟩:=hpu.1 (.inl hs0)
    have hd0:decide (sN < 0) = true:=decide_eq_true hs0
    push_cast -implicitDefEqProofs [eq_self,iff_self,encQ,if_false,if_true,or_true,or_false,true_or,false_or,List.map_cons,List.map_nil,List.length_cons,List.length_nil,List.set_cons_zero,List.set_cons_succ,List.cons_append,List.nil_append,hd0,Bool.true_or,Bool.or_true,Bool.true_and,Bool.and_true,Bool.false_or]
    refine areg_im [228] 14 (by kernel_rfl) (by kernel_rfl) ?_
    push_cast -implicitDefEqProofs [eq_self,iff_self,encQ,if_false,if_true,or_true,or_false,true_or,false_or,List.map_cons,List.map_nil,List.length_cons,List.length_nil,List.set_cons_zero,List.set_cons_succ,List.cons_append,List.nil_append,hk',hk0,hget]
    rw [wrap64 (n:=(k:Int) + 1) (by omega) (by omega)]
    refine next_at [some 0,some 1,some 2,some 3,some 4] (k + 1) (by omega) (by omega) rfl ?_ ?_
    ·(try push_cast -implicitDefEqProofs [eq_self,iff_self,hnx,e1,encPls_pure,encPl_pure,encDs_pure,encEs_pure,encIs_pure,encQ,if_false,if_true,or_true,or_false,true_or,false_or,List.map_cons,List.map_nil,List.length_cons,List.length_nil,List.set_cons_zero,List.set_cons_succ,List.cons_append,List.nil_append])
    ·(try push_cast -implicitDefEqProofs [eq_self,iff_self,hnx,e2,encPl_drop,encPl_mk,encPls_pure,encPl_pure,encDs_pure,encEs_pure,encIs_pure,encQ,if_false,if_true,or_true,or_false,true_or,false_or,List.map_cons,List.map_nil,List.length_cons,List.length_nil,List.set_cons_zero,List.set_cons_succ,List.cons_append,List.nil_append])
   have hd0:decide (sN < 0) = false:=decide_eq_false hs0
   by_cases hs1:all < sN
   ·obtain ⟨e1,e2⟩:=hpu.1 (.inr hs1)
    have hd1:decide (all < sN) = true:=decide_eq_true hs1
    push_cast -implicitDefEqProofs [eq_self,iff_self,encQ,if_false,if_true,or_true,or_false,true_or,false_or,List.map_cons,List.map_nil,List.length_cons,List.length_nil,List.set_cons_zero,List.set_cons_succ,List.cons_append,List.nil_append,hd0,hd1,Bool.true_or,Bool.or_true,Bool.true_and,Bool.and_true,Bool.false_or]
    refine areg_im [228] 14 (by kernel_rfl) (by kernel_rfl) ?_
    push_cast -implicitDefEqProofs [eq_self,iff_self,encQ,if_false,if_true,or_true,or_false,true_or,false_or,List.map_cons,List.map_nil,List.length_cons,List.length_nil,List.set_cons_zero,List.set_cons_succ,List.cons_append,List.nil_append,hk',hk0,hget]
    rw [wrap64 (n:=(k:Int) + 1) (by omega) (by omega)]
    refine next_at [some 0,some 1,some 2,some 3,some 4] (k + 1) (by omega) (by omega) rfl ?_ ?_
    ·(try push_cast -implicitDefEqProofs [eq_self,iff_self,hnx,e1,encPls_pure,encPl_pure,encDs_pure,encEs_pure,encIs_pure,encQ,if_false,if_true,or_true,or_false,true_or,false_or,List.map_cons,List.map_nil,List.length_cons,List.length_nil,List.set_cons_zero,List.set_cons_succ,List.cons_append,List.nil_append])
    ·(try push_cast -implicitDefEqProofs [eq_self,iff_self,hnx,e2,encPl_drop,encPl_mk,encPls_pure,encPl_pure,encDs_pure,encEs_pure,encIs_pure,encQ,if_false,if_true,or_true,or_false,true_or,false_or,List.map_cons,List.map_nil,List.length_cons,List.length_nil,List.set_cons_zero,List.set_cons_succ,List.cons_append,List.nil_append])
   obtain ⟨e1,e2⟩:=hpu.2 (fun h=>h.elim hs0 hs1)
   have hd1:decide (all < sN) = false:=decide_eq_false hs1
   push_cast -implicitDefEqProofs [eq_self,iff_self,encQ,if_false,if_true,or_true,or_false,true_or,false_or,List.map_cons,List.map_nil,List.length_cons,List.length_nil,List.set_cons_zero,List.set_cons_succ,List.cons_append,List.nil_append,hd0,hd1,Bool.true_or,Bool.or_true,Bool.true_and,Bool.and_true,Bool.false_or,Bool.or_false,Bool.and_false]
   rw [wrap64 (n:=(k:Int) + 1) (by omega) (by omega)]
   refine next_at [some 0,some 1,some 2,some 3,some 4] (k + 1) (by omega) (by omega) rfl ?_ ?_
   ·(try push_cast -implicitDefEqProofs [eq_self,iff_self,hnx,e1,encPls_pure,encPl_pure,encDs_pure,encEs_pure,encIs_pure,encQ,if_false,if_true,or_true,or_false,true_or,false_or,List.map_cons,List.map_nil,List.length_cons,List.length_nil,List.set_cons_zero,List.set_cons_succ,List.cons_append,List.nil_append])
   ·(try push_cast -implicitDefEqProofs [eq_self,iff_self,hnx,e2,hsP,encPls_pure,encPl_pure,encDs_pure,encEs_pure,encIs_pure,encQ,if_false,if_true,or_true,or_false,true_or,false_or,List.map_cons,List.map_nil,List.length_cons,List.length_nil,List.set_cons_zero,List.set_cons_succ,List.cons_append,List.nil_append])
 have hk':((k:Int) < (ws.length:Int)) = False:=by simp; omega
 obtain rfl:k = ws.length:=by omega
 have hpos:=acc_pos hWp ws ws.length
 have hnx:=hne
 generalize accC W ws ws.length = acc at hpos hnx ⊢
 by_cases hcol:col = -1
 ·rw [if_pos hcol,List.append_nil,acc_st (hnx hcol)]
  have hcf:(col = -1) = True:=by simp [hcol]
  generalize stN acc = sN
  generalize stP acc = sP
  push_cast -implicitDefEqProofs [eq_self,iff_self,hk',hcf,encQ,if_false,if_true,or_true,or_false,true_or,false_or,List.map_cons,List.map_nil,List.length_cons,List.length_nil,List.set_cons_zero,List.set_cons_succ,List.cons_append,List.nil_append]
  refine areg_at 3 (by kernel_rfl) (by kernel_rfl) ?_
  push_cast -implicitDefEqProofs [eq_self,iff_self,hcf,encPl_drop,encQ,if_false,if_true,or_true,or_false,true_or,false_or,List.map_cons,List.map_nil,List.length_cons,List.length_nil,List.set_cons_zero,List.set_cons_succ,List.cons_append,List.nil_append]
 rw [if_neg hcol,acc_st (by simp)]
 have hcf:(col = -1) = False:=by simp [hcol]
 have hpu:=st_push hpos (m, .mk 4 0 col 0 [p])
 generalize stN (acc ++ [(m,Pl.mk 4 0 col 0 [p])]) = sN2 at hpu ⊢
 generalize stP (acc ++ [(m,Pl.mk 4 0 col 0 [p])]) = sP2 at hpu ⊢
 generalize stN acc = sN at hpu ⊢
 generalize stP acc = sP at hpu ⊢
 dsimp only at hpu
 have hB:=hn hcol
 push_cast -implicitDefEqProofs [eq_self,iff_self,hk',hcf,encQ,if_false,if_true,or_true,or_false,true_or,false_or,List.map_cons,List.map_nil,List.length_cons,List.length_nil,List.set_cons_zero,List.set_cons_succ,List.cons_append,List.nil_append]
 refine callq hB ?_
 push_cast -implicitDefEqProofs [eq_self,iff_self,hcf,encQ,if_false,if_true,or_true,or_false,true_or,false_or,List.map_cons,List.map_nil,List.length_cons,List.length_nil,List.set_cons_zero,List.set_cons_succ,List.cons_append,List.nil_append]
 refine callq hSo' ?_
 by_cases hs0:sN < 0
 ·obtain ⟨e1,e2⟩:=hpu.1 (.inl hs0)
  have hd0:decide (sN < 0) = true:=decide_eq_true hs0
  rw [e1,e2]
  push_cast -implicitDefEqProofs [eq_self,iff_self,hcf,hd0,Bool.true_or,Bool.or_true,encPl_drop,encQ,if_false,if_true,or_true,or_false,true_or,false_or,List.map_cons,List.map_nil,List.length_cons,List.length_nil,List.set_cons_zero,List.set_cons_succ,List.cons_append,List.nil_append]
  refine areg_at 3 (by kernel_rfl) (by kernel_rfl) ?_
  push_cast -implicitDefEqProofs [eq_self,iff_self,hcf,encPl_drop,encQ,if_false,if_true,or_true,or_false,true_or,false_or,List.map_cons,List.map_nil,List.length_cons,List.length_nil,List.set_cons_zero,List.set_cons_succ,List.cons_append,List.nil_append]
 have hd0:decide (sN < 0) = false:=decide_eq_false hs0
 by_cases hs1:m < sN
 ·obtain ⟨e1,e2⟩:=hpu.1 (.inr hs1)
  have hd1:decide (m < sN) = true:=decide_eq_true hs1
  rw [e1,e2]
  push_cast -implicitDefEqProofs [eq_self,iff_self,hcf,hd0,hd1,Bool.true_or,Bool.or_true,Bool.false_or,encPl_drop,encQ,if_false,if_true,or_true,or_false,true_or,false_or,List.map_cons,List.map_nil,List.length_cons,List.length_nil,List.set_cons_zero,List.set_cons_succ,List.cons_append,List.nil_append]
  refine areg_at 3 (by kernel_rfl) (by kernel_rfl) ?_
  push_cast -implicitDefEqProofs [eq_self,iff_self,hcf,encPl_drop,encQ,if_false,if_true,or_true,or_false,true_or,false_or,List.map_cons,List.map_nil,List.length_cons,List.length_nil,List.set_cons_zero,List.set_cons_succ,List.cons_append,List.nil_append]
 obtain ⟨e1,e2⟩:=hpu.2 (fun h=>h.elim hs0 hs1)
 have hd1:decide (m < sN) = false:=decide_eq_false hs1
 rw [e1,e2]
 push_cast -implicitDefEqProofs [eq_self,iff_self,hcf,hd0,hd1,Bool.false_or,Bool.or_false,encPl_drop,encQ,if_false,if_true,or_true,or_false,true_or,false_or,List.map_cons,List.map_nil,List.length_cons,List.length_nil,List.set_cons_zero,List.set_cons_succ,List.cons_append,List.nil_append]
 refine areg_at 3 (by kernel_rfl) (by kernel_rfl) ?_
 push_cast -implicitDefEqProofs [eq_self,iff_self,hcf,encPl_drop,encQ,if_false,if_true,or_true,or_false,true_or,false_or,List.map_cons,List.map_nil,List.length_cons,List.length_nil,List.set_cons_zero,List.set_cons_succ,List.cons_append,List.nil_append]
end
section
theorem refBestD_ok (c:List Df) (hcl:c.length ≤ 1000000) (q:Qy) (hq:q.Ok) (hqi:q.In) (hp8:q.p.length ≤ 8):∀ (d:Nat) (t:Tr) (col:Int),t.Ok → (setT d t).2 = true → BestRAt c q d t col:=by
 intro d
 induction d with
 | zero=>intro t col _ h; simp [setT] at h
 | succ d ih =>
 have none:∀ t:Tr,t.Ok → (setT (d + 1) t).2 = true → BestRAt c q (d + 1) t (-1):=by
  intro t hok hs
  rcases Bool.eq_false_or_eq_true (validT c q t (-1)) with hv | hv
  ·rcases tr_form hs with ⟨o,rfl⟩ | ⟨a,b,rfl⟩
   ·exact refLeaf_ok c hcl q hq hqi d o hv
   ·obtain ⟨_,hlo⟩:=hok
    obtain ⟨sx,sy,_⟩:=setT_join hs
    exact refJoin_ok c hcl q hq hqi hp8 d a b (hlo a (by simp)) (hlo b (by simp)) (-1) hv (fun x=>ih a x (hlo a (by simp)) sx) (fun x=>ih b x (hlo b (by simp)) sy) (fun h=>absurd rfl h)
  ·exact refBestBad_ok c hcl q hq hqi (d + 1) t hok (-1) hv
 intro t col hok hs
 by_cases hc:col = -1
 ·rw [hc]; exact none t hok hs
 rcases Bool.eq_false_or_eq_true (validT c q t col) with hv | hv
 ·have hN:=none t hok hs
  rcases tr_form hs with ⟨o,rfl⟩ | ⟨a,b,rfl⟩
  ·exact refLeafS_ok c hcl q hq hqi d o col hc hv
  ·obtain ⟨_,hlo⟩:=hok
   obtain ⟨sx,sy,_⟩:=setT_join hs
   exact refJoin_ok c hcl q hq hqi hp8 d a b (hlo a (by simp)) (hlo b (by simp)) col hv (fun x=>ih a x (hlo a (by simp)) sx) (fun x=>ih b x (hlo b (by simp)) sy) (fun _=>hN)
 ·exact refBestBad_ok c hcl q hq hqi (d + 1) t hok col hv
theorem BestR_ok (c:List Df) (hcl:c.length ≤ 1000000) (q:Qy) (hq:q.Ok) (hqi:q.In) (hp8:q.p.length ≤ 8) (t:Tr) (hok:t.Ok) (col:Int):Quiet Go.Proofs.Tryz.prog 46 [.agg [.sl (c.map encD)], .agg (encQ q), .agg (encT t), .int col] (.tup [.int (bestR c q t col).1, .agg (encPl (bestR c q t col).2.1), .bool (bestR c q t col).2.2]):=by
 have h:BestRAt c q 4 t col:=by
  rcases Bool.eq_false_or_eq_true (validT c q t col) with hv | hv
  ·exact refBestD_ok c hcl q hq hqi hp8 4 t col hok (valid_split hv).2.1
  ·exact refBestBad_ok c hcl q hq hqi 4 t hok col hv
 exact h
end
section
attribute [local push_cast] encPl_mk encPl_take encPl_len encPl_one encPls_pure encPl_pure encT_pure encT_len encT_one encT_take
theorem encWh_len (x:Wh):(encWh x).length = 7:=by
 obtain ⟨⟨op,occ,a,b,l⟩,e,s⟩:=x
 rw [encWh_mk]; rfl
theorem encWh_pure (x:Wh):PureL (encWh x):=by
 obtain ⟨⟨op,occ,a,b,l⟩,e,s⟩:=x
 rw [encWh_mk]
 simp only [PureL,Pure,true_and,and_true]
 exact encPls_pure l
theorem optOne_pos (c:List Df) (q:Qy) (t:Tr) (e:Int × Bool):0 ≤ (optOne c q t e).1:=(addK_range _).1
theorem accO_pos (c:List Df) (q:Qy) (T:List Tr) (i:Nat):∀ x ∈ accO c q T i,0 ≤ x.1:=by
 intro x hx
 obtain ⟨t,_,hx⟩:=List.mem_flatMap.1 hx
 obtain ⟨e,_,rfl⟩:=List.mem_map.1 hx
 exact optOne_pos c q t e
theorem accE_pos (c:List Df) (q:Qy) {A:List Cw} (h:∀ x ∈ A,0 ≤ x.1) (t:Tr) (k:Nat):∀ x ∈ accE c q A t k,0 ≤ x.1:=by
 intro x hx
 rcases List.mem_append.1 hx with hx | hx
 ·exact h x hx
 ·obtain ⟨e,_,rfl⟩:=List.mem_map.1 hx
  exact optOne_pos c q t e
set_option maxHeartbeats 16000000 in
theorem RefOpt_no (c:List Df) (hcl:c.length ≤ 1000000) (q:Qy) (hq:q.Ok) (hqi:q.In) (hm:q.may c = false):Quiet Go.Proofs.Tryz.prog 13 [.agg [.sl (c.map encD)], .agg (encQ q)] (.tup [.int (optQ c q).1, .agg (encWh (optQ c q).2), .bool (q.may c)]):=by
 have hM:=MayRQ_ok c hcl q hq hqi
 rw [optQ,hm,if_neg (by decide)]
 rw [hm] at hM
 refine quiet_of (rs:=#[.tmp 4, .cell 5 34, .tmp 6]) Go.Proofs.Tryz.func13 rfl rfl rfl mixed rfl rfl fun H hs=>?_
 push_cast -implicitDefEqProofs [eq_self,iff_self,encQ,if_false,if_true,or_true,or_false,true_or,false_or,List.map_cons,List.map_nil,List.length_cons,List.length_nil,List.cons_append,List.nil_append,List.append_nil,List.set_cons_zero,List.set_cons_succ]
 refine callq hM ?_
 push_cast -implicitDefEqProofs [eq_self,iff_self,encQ,if_false,if_true,or_true,or_false,true_or,false_or,List.map_cons,List.map_nil,List.length_cons,List.length_nil,List.cons_append,List.nil_append,List.append_nil,List.set_cons_zero,List.set_cons_succ]
 (try push_cast -implicitDefEqProofs [eq_self,iff_self,encQ,if_false,if_true,or_true,or_false,true_or,false_or,List.map_cons,List.map_nil,List.length_cons,List.length_nil,List.cons_append,List.nil_append,List.append_nil,List.set_cons_zero,List.set_cons_succ,encWh_mk,plO])
set_option maxHeartbeats 16000000 in
theorem RefOpt_yes (c:List Df) (hcl:c.length ≤ 1000000) (q:Qy) (hq:q.Ok) (hqi:q.In) (hp8:q.p.length ≤ 8) (hm:q.may c = true):Quiet Go.Proofs.Tryz.prog 13 [.agg [.sl (c.map encD)], .agg (encQ q)] (.tup [.int (optQ c q).1, .agg (encWh (optQ c q).2), .bool (q.may c)]):=by
 have hM:=MayRQ_ok c hcl q hq hqi
 have hne:=optL_ne hm
 have hol:optL c q = accO c q (allT 4 (2 ^ q.occ.length - 1)) (allT 4 (2 ^ q.occ.length - 1)).length:=by rw [accO,List.take_length]; rfl
 rw [optQ,hm,if_pos rfl]
 rw [hol] at hne ⊢
 rw [hm] at hM
 have h1:=(may_split hm).2.1
 have h4:=(may_split hm).2.2.1
 have hT:=AllTR_ok (2 ^ q.occ.length - 1)
 have hTl:=all_len (2 ^ q.occ.length - 1)
 have hEn:=EndsR_ok q
 have hEl:=ends_len q
 have hval:∀ t ∈ allT 4 (2 ^ q.occ.length - 1),∀ e ∈ endsQ q,validT c q t (needsQ q e.1) = true:=fun t ht e he=>opt_valid hm ht he
 have htok:∀ t ∈ allT 4 (2 ^ q.occ.length - 1),t.Ok:=fun t ht=>allT_ok ht
 have hgs:[[AV.int 0],[.int 1],[.int 3],[.int 7],[.int 15]].getD q.occ.length [] = [.int (2 ^ q.occ.length - 1)]:=by
  have hc:q.occ.length = 1 ∨ q.occ.length = 2 ∨ q.occ.length = 3 ∨ q.occ.length = 4:=by omega
  rcases hc with hc | hc | hc | hc <;> rw [hc] <;> rfl
 have hl5:((q.occ.length:Int) < 5) = True:=by simp; omega
 have hl0:(0 ≤ (q.occ.length:Int)) = True:=by simp
 generalize (2:Int) ^ q.occ.length - 1 = full at hT hTl hval htok hne hgs ⊢
 generalize allT 4 full = T at hT hTl hval htok hne ⊢
 refine quiet_of (rs:=#[.tmp 4, .cell 5 34, .tmp 6]) Go.Proofs.Tryz.func13 rfl rfl rfl mixed rfl rfl fun H hs=>?_
 push_cast -implicitDefEqProofs [eq_self,iff_self,encQ,if_false,if_true,or_true,or_false,true_or,false_or,List.map_cons,List.map_nil,List.length_cons,List.length_nil,List.cons_append,List.nil_append,List.append_nil,List.set_cons_zero,List.set_cons_succ]
 refine callq hM ?_
 push_cast -implicitDefEqProofs [eq_self,iff_self,encQ,if_false,if_true,or_true,or_false,true_or,false_or,List.map_cons,List.map_nil,List.length_cons,List.length_nil,List.cons_append,List.nil_append,List.append_nil,List.set_cons_zero,List.set_cons_succ,hgs,hl5,hl0]
 refine ⟨by omega,callq hT ?_⟩
 push_cast -implicitDefEqProofs [eq_self,iff_self,encQ,if_false,if_true,or_true,or_false,true_or,false_or,List.map_cons,List.map_nil,List.length_cons,List.length_nil,List.cons_append,List.nil_append,List.append_nil,List.set_cons_zero,List.set_cons_succ]
 refine callq hEn ?_
 push_cast -implicitDefEqProofs [eq_self,iff_self,encQ,if_false,if_true,or_true,or_false,true_or,false_or,List.map_cons,List.map_nil,List.length_cons,List.length_nil,List.cons_append,List.nil_append,List.append_nil,List.set_cons_zero,List.set_cons_succ]
 have h00:soN (accO c q T 0) = -1:=soN_nil
 have h01:soW (accO c q T 0) = (plO,0,false):=soW_nil
 refine loop_at hs (σ:=Nat) (fun i=>i ≤ T.length) (fun i=>T.length - i)
  (fun i=>[(13, .int i),(11, .int (soN (accO c q T i))),(9, .sl (T.map encT)),(10, .sl ((endsQ q).map encEnd)),(12, .ptr (H.nxt + 3) 7 0 0),(3, .ptr (H.nxt + 1) 6 0 0),(2, .ptr (H.nxt + 0) 1 0 0),(5, .ptr (H.nxt + 2) 7 0 0)])
  (fun i=>[some (.cells 1 [[.sl (c.map encD)]] 0),some (.cells 6 [encQ q] 0),some (.cells 7 [encEnd (0,false)] 0),some (.cells 7 [encWh (soW (accO c q T i))] 0)]) [some 0,some 1,some 2,some 4] 0 (by omega) rfl ?_ ?_ ?_
 ·(try push_cast -implicitDefEqProofs [eq_self,iff_self,encQ,if_false,if_true,or_true,or_false,true_or,false_or,List.map_cons,List.map_nil,List.length_cons,List.length_nil,List.cons_append,List.nil_append,List.append_nil,List.set_cons_zero,List.set_cons_succ,h00,h01,encWh_mk,plO,encEnd_mk,encDs_pure,encEs_pure,encIs_pure,encTs_pure,encEnds_pure,encWh_pure,encWh_len])
 ·(try push_cast -implicitDefEqProofs [eq_self,iff_self,encQ,if_false,if_true,or_true,or_false,true_or,false_or,List.map_cons,List.map_nil,List.length_cons,List.length_nil,List.cons_append,List.nil_append,List.append_nil,List.set_cons_zero,List.set_cons_succ,h00,h01,encWh_mk,plO,encEnd_mk,encDs_pure,encEs_pure,encIs_pure,encTs_pure,encEnds_pure,encWh_pure,encWh_len])
 intro i hi2
 by_cases hi:i < T.length
 ·have hi':((i:Int) < (T.length:Int)) = True:=by simp; omega
  have hi0:(0 ≤ (i:Int)) = True:=by simp
  have hacc:=accO_succ c q T hi
  have hget:=encTs_get T i hi
  have htk:=htok _ (List.getElem_mem hi)
  have hvt:=hval _ (List.getElem_mem hi)
  generalize T[i] = t at hacc hget htk hvt
  have hae:=accE_all c q (accO c q T i) t
  rw [← hae] at hacc
  have hz:=accE_zero c q (accO c q T i) t
  have hpo:=accO_pos c q T i
  generalize hA0:accO c q T i = A at hacc hae hz hpo ⊢
  push_cast -implicitDefEqProofs [eq_self,iff_self,encQ,if_false,if_true,or_true,or_false,true_or,false_or,List.map_cons,List.map_nil,List.length_cons,List.length_nil,List.cons_append,List.nil_append,List.append_nil,List.set_cons_zero,List.set_cons_succ,hi',hi0,hget,encEnd_mk]
  refine loop_at hs (σ:=Nat) (fun k=>k ≤ (endsQ q).length) (fun k=>(endsQ q).length - k)
   (fun k=>[(14, .int k),(13, .int i),(11, .int (soN (accE c q A t k))),(9, .sl (T.map encT)),(10, .sl ((endsQ q).map encEnd)),(12, .ptr (H.nxt + 3) 7 0 0),(3, .ptr (H.nxt + 1) 6 0 0),(2, .ptr (H.nxt + 0) 1 0 0),(5, .ptr (H.nxt + 2) 7 0 0)])
   (fun k=>[some (.cells 1 [[.sl (c.map encD)]] 0),some (.cells 6 [encQ q] 0),some (.cells 7 [encEnd (0,false)] 0),some (.cells 7 [encWh (soW (accE c q A t k))] 0)]) [some 0,some 1,some 2,some 3] 0 (by omega) rfl ?_ ?_ ?_
  ·(try push_cast -implicitDefEqProofs [eq_self,iff_self,encQ,if_false,if_true,or_true,or_false,true_or,false_or,List.map_cons,List.map_nil,List.length_cons,List.length_nil,List.cons_append,List.nil_append,List.append_nil,List.set_cons_zero,List.set_cons_succ,hz,encEnd_mk,encDs_pure,encEs_pure,encIs_pure,encTs_pure,encEnds_pure,encWh_pure,encWh_len])
  ·(try push_cast -implicitDefEqProofs [eq_self,iff_self,encQ,if_false,if_true,or_true,or_false,true_or,false_or,List.map_cons,List.map_nil,List.length_cons,List.length_nil,List.cons_append,List.nil_append,List.append_nil,List.set_cons_zero,List.set_cons_succ,hz,encEnd_mk,encDs_pure,encEs_pure,encIs_pure,encTs_pure,encEnds_pure,encWh_pure,encWh_len])
  intro k hk2
  by_cases hk:k < (endsQ q).length
  ·have hk':((k:Int) < ((endsQ q).length:Int)) = True:=by simp; omega
   have hk0:(0 ≤ (k:Int)) = True:=by simp
   have hsn:=accE_succ c q A t hk
   have hget2:=encEnds_get (endsQ q) k hk
   have hvk:=hvt _ (List.getElem_mem hk)
   generalize (endsQ q)[k] = ee at hsn hget2 hvk
   obtain ⟨e,s⟩:=ee
   dsimp only at hvk
   have hp:=so_push (accE_pos c q hpo t k) (optOne c q t (e,s))
   rw [← hsn] at hp
   unfold optOne at hp
   dsimp only at hp
   have hN:=NeedsR_ok q plO e s
   have hX:=ExtraR_ok c hcl q hq hqi plO e s
   have hB:=BestR_ok c hcl q hq hqi hp8 t htk (needsQ q e)
   rw [bestR,if_pos hvk] at hB
   rw [show encW plO e s = encEnd (e,s) from rfl,encEnd_mk] at hN hX
   generalize needsQ q e = nd at hN hB hp
   generalize extraQ c q e s = X at hX hp
   generalize bestF c q 4 t nd = x at hB hp
   obtain ⟨n,op,occ,a,b,l⟩:=x
   dsimp only at hB hp
   have hAd:=Add10_ok [n,X] (by simp)
   generalize addK [n,X] = m at hAd hp
   generalize soN (accE c q A t k) = bn at hp ⊢
   generalize soW (accE c q A t k) = bw at hp ⊢
   obtain ⟨⟨bo,bc,ba,bb,bl⟩,be,bs⟩:=bw
   rw [encEnd_mk] at hget2
   push_cast -implicitDefEqProofs [eq_self,iff_self,encQ,if_false,if_true,or_true,or_false,true_or,false_or,List.map_cons,List.map_nil,List.length_cons,List.length_nil,List.cons_append,List.nil_append,List.append_nil,List.set_cons_zero,List.set_cons_succ,hk',hk0,hget,hget2,hi0,hi',encEnd_mk,encWh_mk]
   refine areg_at 20 (by kernel_rfl) (by kernel_rfl) ?_
   push_cast -implicitDefEqProofs [eq_self,iff_self,encQ,if_false,if_true,or_true,or_false,true_or,false_or,List.map_cons,List.map_nil,List.length_cons,List.length_nil,List.cons_append,List.nil_append,List.append_nil,List.set_cons_zero,List.set_cons_succ,hk',hk0,hget,hget2,hi0,hi',encEnd_mk,encWh_mk]
   refine ahdq hN ?_
   push_cast -implicitDefEqProofs [eq_self,iff_self,encQ,if_false,if_true,or_true,or_false,true_or,false_or,List.map_cons,List.map_nil,List.length_cons,List.length_nil,List.cons_append,List.nil_append,List.append_nil,List.set_cons_zero,List.set_cons_succ,hk',hk0,hget,hget2,hi0,hi',encEnd_mk,encWh_mk]
   refine ahdq hB ?_
   push_cast -implicitDefEqProofs [eq_self,iff_self,encQ,if_false,if_true,or_true,or_false,true_or,false_or,List.map_cons,List.map_nil,List.length_cons,List.length_nil,List.cons_append,List.nil_append,List.append_nil,List.set_cons_zero,List.set_cons_succ,hk',hk0,hget,hget2,hi0,hi',encEnd_mk,encWh_mk]
   refine areg_im [73] 10 (by kernel_rfl) (by kernel_rfl) ?_
   push_cast -implicitDefEqProofs [eq_self,iff_self,encQ,if_false,if_true,or_true,or_false,true_or,false_or,List.map_cons,List.map_nil,List.length_cons,List.length_nil,List.cons_append,List.nil_append,List.append_nil,List.set_cons_zero,List.set_cons_succ,hk',hk0,hget,hget2,hi0,hi',encEnd_mk,encWh_mk]
   refine ahdq hX ?_
   push_cast -implicitDefEqProofs [eq_self,iff_self,encQ,if_false,if_true,or_true,or_false,true_or,false_or,List.map_cons,List.map_nil,List.length_cons,List.length_nil,List.cons_append,List.nil_append,List.append_nil,List.set_cons_zero,List.set_cons_succ,hk',hk0,hget,hget2,hi0,hi',encEnd_mk,encWh_mk]
   refine ahdq hAd ?_
   by_cases h1:bn < 0
   ·have d1:decide (bn < 0) = true:=decide_eq_true h1
    obtain ⟨p1,p2⟩:=hp.1 (.inl h1)
    push_cast -implicitDefEqProofs [eq_self,iff_self,encQ,if_false,if_true,or_true,or_false,true_or,false_or,List.map_cons,List.map_nil,List.length_cons,List.length_nil,List.cons_append,List.nil_append,List.append_nil,List.set_cons_zero,List.set_cons_succ,d1,hk',hk0,hget,hget2,hi0,hi',encEnd_mk,encWh_mk]
    refine areg_at 12 (by kernel_rfl) (by kernel_rfl) ?_
    push_cast -implicitDefEqProofs [eq_self,iff_self,encQ,if_false,if_true,or_true,or_false,true_or,false_or,List.map_cons,List.map_nil,List.length_cons,List.length_nil,List.cons_append,List.nil_append,List.append_nil,List.set_cons_zero,List.set_cons_succ,hk',hk0,hget,hget2,hi0,hi',encEnd_mk,encWh_mk]
    rw [wrap64 (n:=(k:Int) + 1) (by omega) (by omega)]
    refine next_at [some 0,some 1,some 2,some 3] (k + 1) (by omega) (by omega) rfl ?_ ?_
    ·(try push_cast -implicitDefEqProofs [eq_self,iff_self,encQ,if_false,if_true,or_true,or_false,true_or,false_or,List.map_cons,List.map_nil,List.length_cons,List.length_nil,List.cons_append,List.nil_append,List.append_nil,List.set_cons_zero,List.set_cons_succ,p1,p2,encEnd_mk,encDs_pure,encEs_pure,encIs_pure,encTs_pure,encEnds_pure,encWh_mk])
    ·(try push_cast -implicitDefEqProofs [eq_self,iff_self,encQ,if_false,if_true,or_true,or_false,true_or,false_or,List.map_cons,List.map_nil,List.length_cons,List.length_nil,List.cons_append,List.nil_append,List.append_nil,List.set_cons_zero,List.set_cons_succ,p1,p2,encEnd_mk,encDs_pure,encEs_pure,encIs_pure,encTs_pure,encEnds_pure,encWh_mk])
   have d1:decide (bn < 0) = false:=decide_eq_false h1
   by_cases h2:m < bn
   ·have d2:decide (m < bn) = true:=decide_eq_true h2
    obtain ⟨p1,p2⟩:=hp.1 (.inr h2)
    push_cast -implicitDefEqProofs [eq_self,iff_self,encQ,if_false,if_true,or_true,or_false,true_or,false_or,List.map_cons,List.map_nil,List.length_cons,List.length_nil,List.cons_append,List.nil_append,List.append_nil,List.set_cons_zero,List.set_cons_succ,d1,d2,hk',hk0,hget,hget2,hi0,hi',encEnd_mk,encWh_mk]
    refine areg_at 12 (by kernel_rfl) (by kernel_rfl) ?_
    push_cast -implicitDefEqProofs [eq_self,iff_self,encQ,if_false,if_true,or_true,or_false,true_or,false_or,List.map_cons,List.map_nil,List.length_cons,List.length_nil,List.cons_append,List.nil_append,List.append_nil,List.set_cons_zero,List.set_cons_succ,hk',hk0,hget,hget2,hi0,hi',encEnd_mk,encWh_mk]
    rw [wrap64 (n:=(k:Int) + 1) (by omega) (by omega)]
    refine next_at [some 0,some 1,some 2,some 3] (k + 1) (by omega) (by omega) rfl ?_ ?_
    ·(try push_cast -implicitDefEqProofs [eq_self,iff_self,encQ,if_false,if_true,or_true,or_false,true_or,false_or,List.map_cons,List.map_nil,List.length_cons,List.length_nil,List.cons_append,List.nil_append,List.append_nil,List.set_cons_zero,List.set_cons_succ,p1,p2,encEnd_mk,encDs_pure,encEs_pure,encIs_pure,encTs_pure,encEnds_pure,encWh_mk])
    ·(try push_cast -implicitDefEqProofs [eq_self,iff_self,encQ,if_false,if_true,or_true,or_false,true_or,false_or,List.map_cons,List.map_nil,List.length_cons,List.length_nil,List.cons_append,List.nil_append,List.append_nil,List.set_cons_zero,List.set_cons_succ,p1,p2,encEnd_mk,encDs_pure,encEs_pure,encIs_pure,encTs_pure,encEnds_pure,encWh_mk])
   ·have d2:decide (m < bn) = false:=decide_eq_false h2
    obtain ⟨p1,p2⟩:=hp.2 (fun h=>h.elim h1 h2)
    push_cast -implicitDefEqProofs [eq_self,iff_self,encQ,if_false,if_true,or_true,or_false,true_or,false_or,List.map_cons,List.map_nil,List.length_cons,List.length_nil,List.cons_append,List.nil_append,List.append_nil,List.set_cons_zero,List.set_cons_succ,d1,d2,hk',hk0,hget,hget2,hi0,hi',encEnd_mk,encWh_mk]
    rw [wrap64 (n:=(k:Int) + 1) (by omega) (by omega)]
    refine next_at [some 0,some 1,some 2,some 3] (k + 1) (by omega) (by omega) rfl ?_ ?_
    ·(try push_cast -implicitDefEqProofs [eq_self,iff_self,encQ,if_false,if_true,or_true,or_false,true_or,false_or,List.map_cons,List.map_nil,List.length_cons,List.length_nil,List.cons_append,List.nil_append,List.append_nil,List.set_cons_zero,List.set_cons_succ,p1,p2,encEnd_mk,encDs_pure,encEs_pure,encIs_pure,encTs_pure,encEnds_pure,encWh_mk])
    ·(try push_cast -implicitDefEqProofs [eq_self,iff_self,encQ,if_false,if_true,or_true,or_false,true_or,false_or,List.map_cons,List.map_nil,List.length_cons,List.length_nil,List.cons_append,List.nil_append,List.append_nil,List.set_cons_zero,List.set_cons_succ,p1,p2,encEnd_mk,encDs_pure,encEs_pure,encIs_pure,encTs_pure,encEnds_pure,encWh_mk])
  ·have hk':((k:Int) < ((endsQ q).length:Int)) = False:=by simp; omega
   obtain rfl:k = (endsQ q).length:=by omega
   rw [← hacc]
   push_cast -implicitDefEqProofs [eq_self,iff_self,encQ,if_false,if_true,or_true,or_false,true_or,false_or,List.map_cons,List.map_nil,List.length_cons,List.length_nil,List.cons_append,List.nil_append,List.append_nil,List.set_cons_zero,List.set_cons_succ,hk',encEnd_mk]
   rw [wrap64 (n:=(i:Int) + 1) (by omega) (by omega)]
   refine next_at [some 0,some 1,some 2,some 3] (i + 1) (by omega) (by omega) rfl ?_ ?_
   ·(try push_cast -implicitDefEqProofs [eq_self,iff_self,encQ,if_false,if_true,or_true,or_false,true_or,false_or,List.map_cons,List.map_nil,List.length_cons,List.length_nil,List.cons_append,List.nil_append,List.append_nil,List.set_cons_zero,List.set_cons_succ,encEnd_mk,encDs_pure,encEs_pure,encIs_pure,encTs_pure,encEnds_pure,encWh_pure,encWh_len])
   ·(try push_cast -implicitDefEqProofs [eq_self,iff_self,encQ,if_false,if_true,or_true,or_false,true_or,false_or,List.map_cons,List.map_nil,List.length_cons,List.length_nil,List.cons_append,List.nil_append,List.append_nil,List.set_cons_zero,List.set_cons_succ,encEnd_mk,encDs_pure,encEs_pure,encIs_pure,encTs_pure,encEnds_pure,encWh_pure,encWh_len])
 have hi':((i:Int) < (T.length:Int)) = False:=by simp; omega
 obtain rfl:i = T.length:=by omega
 rw [soN,soW,if_neg hne,if_neg hne]
 generalize leastW (accO c q T T.length) = y
 obtain ⟨n,⟨op,occ,a,b,l⟩,e,s⟩:=y
 push_cast -implicitDefEqProofs [eq_self,iff_self,encQ,if_false,if_true,or_true,or_false,true_or,false_or,List.map_cons,List.map_nil,List.length_cons,List.length_nil,List.cons_append,List.nil_append,List.append_nil,List.set_cons_zero,List.set_cons_succ,hi',encEnd_mk,encWh_mk]
 refine areg_at 3 (by kernel_rfl) (by kernel_rfl) ?_
 push_cast -implicitDefEqProofs [eq_self,iff_self,encQ,if_false,if_true,or_true,or_false,true_or,false_or,List.map_cons,List.map_nil,List.length_cons,List.length_nil,List.cons_append,List.nil_append,List.append_nil,List.set_cons_zero,List.set_cons_succ,hi',encEnd_mk,encWh_mk]
theorem RefOpt_ok (c:List Df) (hcl:c.length ≤ 1000000) (q:Qy) (hq:q.Ok) (hqi:q.In) (hp8:q.p.length ≤ 8):Quiet Go.Proofs.Tryz.prog 13 [.agg [.sl (c.map encD)], .agg (encQ q)] (.tup [.int (optQ c q).1, .agg (encWh (optQ c q).2), .bool (q.may c)]):=by
 rcases Bool.eq_false_or_eq_true (q.may c) with hm | hm
 ·exact RefOpt_yes c hcl q hq hqi hp8 hm
 ·exact RefOpt_no c hcl q hq hqi hm
end
section
attribute [local push_cast] encPl_mk encPl_take encPl_len encPl_one encPls_pure encPl_pure encT_pure encT_len encT_one encT_take
theorem samePl_self (p:Pl):samePl p p = true:=by
 induction p using Pl.ind with
 | h op occ a b l ih =>
 rw [samePl]
 simp only [decide_true,Bool.true_and]
 exact sameLP_all rfl fun i h h'=>ih _ (List.getElem_mem h)
theorem Same14_ok (p:Pl) (hp:p.Ok) (e:Int) (s:Bool):Quiet Go.Proofs.Tryz.prog 14 [.agg (encW p e s), .agg (encW p e s)] (.bool true):=by
 have hS:=plan_sameR_ok p p hp hp
 rw [samePl_self] at hS
 obtain ⟨op,occ,a,b,l⟩:=p
 rw [encPl_mk] at hS
 rw [encW_mk]
 refine quiet_of (rs:=#[.tmp 4]) Go.Proofs.Tryz.func14 rfl rfl rfl mixed rfl rfl fun H hs=>?_
 push_cast -implicitDefEqProofs [eq_self,iff_self,encQ,encW_mk,encWh_mk]
 refine callq hS ?_
 cases s
 ·push_cast -implicitDefEqProofs [eq_self,iff_self,encQ,encW_mk,encWh_mk]
 ·push_cast -implicitDefEqProofs [eq_self,iff_self,encQ,encW_mk,encWh_mk]
theorem Lists14_ok (l:List (Int × Bool)) (hl:l.length ≤ 2):Quiet Go.Proofs.Tryz.prog 15 [.sl (l.map encEnd), .sl (l.map encEnd)] (.bool true):=by
 refine quiet_of (rs:=#[.tmp 4]) Go.Proofs.Tryz.func15 rfl rfl rfl mixed rfl rfl fun H hs=>?_
 push_cast -implicitDefEqProofs [eq_self,iff_self,encQ,encW_mk,encWh_mk]
 refine loop_at hs (σ:=Nat) (fun i=>i ≤ l.length) (fun i=>l.length - i)
  (fun i=>[(5, .int i),(0, .sl (l.map encEnd)),(1, .sl (l.map encEnd))]) (fun _=>[]) [] 0 (by omega) rfl ?_ ?_ ?_
 ·(try push_cast -implicitDefEqProofs [eq_self,iff_self,encEnds_pure])
 ·(try push_cast -implicitDefEqProofs [eq_self,iff_self])
 intro i hi2
 by_cases hi:i < l.length
 ·have hi':((i:Int) < (l.length:Int)) = True:=by simp; omega
  have hi0:(0 ≤ (i:Int)) = True:=by simp
  have hget:=encEnds_get l i hi
  have hS:=Same14_ok plO (.mk (by simp) (by simp)) l[i].1 l[i].2
  generalize l[i] = x at hget hS
  obtain ⟨e,s⟩:=x
  rw [show encW plO (e,s).1 (e,s).2 = encEnd (e,s) from rfl] at hS
  rw [encEnd_mk] at hS hget
  push_cast -implicitDefEqProofs [eq_self,iff_self,hi',hi0,hget]
  refine areg_at 9 (by kernel_rfl) (by kernel_rfl) ?_
  push_cast -implicitDefEqProofs [eq_self,iff_self,hi',hi0,hget]
  refine ahdq hS ?_
  push_cast -implicitDefEqProofs [eq_self,iff_self,hi',hi0,hget]
  rw [wrap64 (n:=(i:Int) + 1) (by omega) (by omega)]
  refine next_at [] (i + 1) (by omega) (by omega) rfl ?_ ?_
  ·(try push_cast -implicitDefEqProofs [eq_self,iff_self,encEnds_pure])
  ·(try push_cast -implicitDefEqProofs [eq_self,iff_self])
 ·have hi':((i:Int) < (l.length:Int)) = False:=by simp; omega
  push_cast -implicitDefEqProofs [eq_self,iff_self,hi']
set_option maxHeartbeats 8000000 in
theorem optTells_ok (c:List Df) (q:Qy) (p:Pl) (e:Int) (s:Bool) (hr:q.Raw c) (hqi:q.In) (hp:p.Ok):Quiet Go.Proofs.Tryz.prog 3 [.agg [.sl (c.map encD)], .agg (encQ q), .agg (encW p e s)] (.bool true):=by
 have hfar:=Far_ok c q hr
 have hN:=Needs_ok q p e s
 have hNr:=NeedsR_ok q p e s
 have hX:=fun hcl hq=>Extra_ok c hcl q hq p e s
 have hXr:=fun hcl hq=>ExtraR_ok c hcl q hq hqi p e s
 generalize needsQ q e = nd at hN hNr
 generalize extraQ c q e s = X at hX hXr
 have hEn:=Ends_ok q
 have hEr:=EndsR_ok q
 have hLi:=Lists14_ok (endsQ q) (ends_len q)
 generalize (endsQ q).map encEnd = ends at hEn hEr hLi
 obtain ⟨op,occ,a,b,l⟩:=p
 rw [encW_mk] at hN hNr hX hXr ⊢
 refine quiet_of (rs:=#[.tmp 6]) Go.Proofs.Tryz.func3 rfl rfl rfl mixed rfl rfl fun H hs=>?_
 push_cast -implicitDefEqProofs [eq_self,iff_self,encQ,encW_mk,encWh_mk]
 refine callq awake14_ok ?_
 push_cast -implicitDefEqProofs [eq_self,iff_self,encQ,encW_mk,encWh_mk]
 refine gcall trivial (callq hfar ?_)
 cases hf:fewQ c q
 ·push_cast -implicitDefEqProofs [eq_self,iff_self,encQ,encW_mk,encWh_mk,Bool.false_eq_true,if_false]
 have hcl:c.length ≤ 1000000:=by have:=(fewQ_split hf).1; omega
 have hq:=ok_of_few hr hf
 have hp8:=(fewQ_split hf).2.2.1
 replace hX:=hX hcl hq
 replace hXr:=hXr hcl hq
 have hB:=OptBest_ok c hcl q hq hp8
 have hR:=RefOpt_ok c hcl q hq hqi hp8
 have hok:(optQ c q).2.1.Ok:=by
  rcases Bool.eq_false_or_eq_true (q.may c) with hm | hm
  ·have hg:=opt_good hm (opt_mem hm)
   exact few_ok' _ (mayP_iff.1 (fine_iff.1 hg.1).1).2.1
  ·rw [optQ,hm,if_neg (by decide)]; exact .mk (by simp) (by simp)
 have hS:=Same14_ok (optQ c q).2.1 hok (optQ c q).2.2.1 (optQ c q).2.2.2
 generalize optQ c q = r at hB hR hS
 generalize q.may c = m at hB hR
 obtain ⟨n,⟨op',occ',a',b',l'⟩,e',s'⟩:=r
 dsimp only at hB hR hS
 rw [encWh_mk] at hB hR
 rw [encW_mk] at hS
 push_cast -implicitDefEqProofs [eq_self,iff_self,encQ,encW_mk,encWh_mk,if_true]
 refine callq hB ?_
 push_cast -implicitDefEqProofs [eq_self,iff_self,encQ,encW_mk,encWh_mk]
 refine callq hR ?_
 push_cast -implicitDefEqProofs [eq_self,iff_self,encQ,encW_mk,encWh_mk]
 refine callq hS ?_
 push_cast -implicitDefEqProofs [eq_self,iff_self,encQ,encW_mk,encWh_mk]
 refine areg_at 5 (by kernel_rfl) (by kernel_rfl) ?_
 push_cast -implicitDefEqProofs [eq_self,iff_self,encQ,encW_mk,encWh_mk]
 refine ahdq hEn ?_
 push_cast -implicitDefEqProofs [eq_self,iff_self,encQ,encW_mk,encWh_mk]
 refine ahdq hEr ?_
 push_cast -implicitDefEqProofs [eq_self,iff_self,encQ,encW_mk,encWh_mk]
 refine ahdq hLi ?_
 push_cast -implicitDefEqProofs [eq_self,iff_self,encQ,encW_mk,encWh_mk]
 refine areg_at 34 (by kernel_rfl) (by kernel_rfl) ?_
 cases m
 all_goals
  push_cast -implicitDefEqProofs [eq_self,iff_self,encQ,encW_mk,encWh_mk]
  refine gcallq (.int nd) (fun _=>hN) ?_
  push_cast -implicitDefEqProofs [eq_self,iff_self,encQ,encW_mk,encWh_mk]
  refine gcallq (.int nd) (fun _=>hNr) ?_
  push_cast -implicitDefEqProofs [eq_self,iff_self,encQ,encW_mk,encWh_mk]
  refine gcallq (.int X) (fun _=>hX) ?_
  push_cast -implicitDefEqProofs [eq_self,iff_self,encQ,encW_mk,encWh_mk]
  refine gcallq (.int X) (fun _=>hXr) ?_
  push_cast -implicitDefEqProofs [eq_self,iff_self,encQ,encW_mk,encWh_mk]
theorem optTells_law (us:List AV) (h:ToldAll Go.Proofs.Tryz.prog Go.Proofs.Tryz.f3.params.toList us):Quiet Go.Proofs.Tryz.prog 3 us (.bool true):=by
 have e1:Go.Proofs.Tryz.f3.params.toList = [24,28,34]:=by kernel_rfl
 rw [e1] at h
 obtain ⟨c,q,us,rfl,_,hr,hin,h⟩:=told_CQ h
 obtain ⟨w,e,s,us,rfl,hw,h⟩:=told_W h
 obtain rfl:=told_nil h
 exact optTells_ok c q w e s hr hin.1 hw
end
end Go.Sim.Tryz
