/- What the row rests on, part 7. Conditions: none. -/
import Derived.Test.YtclapofaecbobaaGreatM6
namespace Go.Sim.Tryz
open Go Go.Sim
attribute [local push_cast] aops_cons aops_nil aopG_none aopG_some aopP_eq aopE_eq aopC_eq aopE?_eq aopC?_eq aopB_eq aopB?_eq abr anilq gopP_eq gopL_eq ahead_cons ahead_nil ahdG_none ahdG_some ahdP_eq ahdN_eq ahdC_eq ahdN?_eq ahdS_eq ahdS?_eq astoreN ahdC?_eq ghdP_eq ghdC_eq ghdC?_eq ghdZ_f ghdZ_t ahdI_eq ahdI?_eq ghdN?_eq aim_nil aim_cons isIn_nil isIn_none isIn_cons aimm aheP_eq aheA_eq aheC_eq aheC?_eq aheI?_eq aheA?_eq gheP_eq gheC_eq gheC?_eq gheZ_eq aheG_none aheG_some aheff_cons aheff_nil aapp gro_rsl gro_lit gro_esl opt_some opt_none no_eq acondT_true acondT_false acondT_lit aw_skip aw_region aw_regionD aw_seq aw_cond aw_block aw_loop aw_exit aw_label aw_ret thn_normal thn_exit thn_ret inb_normal inb_exit inb_ret qret_ret qret_normal gcond apure aeff anew acallee ares aresT aresL aresC ares1 qfin_eq ev ofV evL gokL tget tput_some tput_none initT abin aint aun aload afaddr aiaddr afield aindex aextract apick pickv_lit Bool.or_false Bool.false_or Bool.or_true Bool.true_or imp_self aslice chunk roomB abound aconv abuild afill splice alen aminmax abuiltin anil apart Value.oneCell' astore aappend srcEs abuildSlice amakeSlice amapPut alookup aput afind mget keyV sameV_int Option.isSome_some Option.isSome_none cond_true cond_false asets isEq plus_obj plus_nxt plus_add plus_set plus_del IntKind.bits Option.map_some Option.map_none Option.bind_some Option.bind_none Option.join_some Option.getD_some Option.getD_none Option.toList List.getElem?_toArray List.getElem?_cons_zero List.getElem?_cons_succ List.getElem?_nil List.length_cons List.length_nil List.length_map List.head?_cons List.cons_append List.nil_append List.append_nil List.map_cons List.map_nil List.getD_cons_zero List.getD_cons_succ List.replicate_succ List.replicate_zero List.set_cons_zero List.set_cons_succ List.take_succ_cons List.take_zero List.drop_succ_cons List.drop_zero List.all_cons List.all_nil Nat.zero_add if_true if_false true_and and_true false_and and_false true_implies implies_true forall_const Bool.and_true Bool.true_and Bool.false_and Bool.and_false Bool.true_beq Bool.false_beq Bool.not_not beq_tt beq_ff Int.toNat_natCast decide_true decide_false Bool.not_true Bool.not_false Bool.true_eq_false Bool.false_eq_true false_implies exists_prop eq_self bne_self_eq_false beq_self_eq_true decide_eq_true_eq decide_eq_false_iff_not Bool.not_eq_true' Bool.not_eq_false' AV.int AV.bool AV.nilS ne_eq not_false_eq_true not_true_eq_false exists_eq_left exists_eq_left' Nat.lt_irrefl core_lit grd_lit acells_lit one_lit core_agg grd_agg acells_agg one_agg core_tup grd_tup acells_tup one_tup core_sl grd_sl acells_sl one_sl core_esl grd_esl acells_esl one_esl core_rsl grd_rsl acells_rsl one_rsl core_ptr grd_ptr acells_ptr one_ptr core_iptr grd_iptr acells_iptr one_iptr core_clo grd_clo acells_clo one_clo core_mp grd_mp acells_mp one_mp core_any grd_any acells_any one_any core_gv grd_gv fit_agg fit_lit fit_sl fit_esl fit_rsl fit_ptr fit_iptr fit_clo fit_mp retq_ret retq_normal set_nxt set_set plus_obj_set plus_set_set app_get0 app_get app_set0 app_set List.append_assoc List.length_append List.length_set Nat.lt_add_one Nat.add_lt_add_iff_right Nat.lt_add_right_iff_pos Nat.add_lt_add_iff_left List.mem_cons List.not_mem_nil or_false forall_eq forall_eq_or_imp lt_s0 lt_s1 lt_s2 lt_s3 lt_s4 lt_s5 lt_s6 lt_s7 lt_s8 pickv_t pickv_f or_nand or_nand2 imp_and_l SealT SealOs sealO_cells sl_lit sl_any sl_agg sl_tup sl_sl sl_rsl slO sl_esl sl_nil sl_eslesl sl_eslnil sl_rslrsl sl_eslrsl sl_nilrsl sl_ptr sl_iptr sl_ptri slP sl_clo sl_mp sl_gv sll_nil sll_cons slll_nil slll_cons shut_eq shutO Option.join_none Fn.func.injEq and_self sealL_self sealLL_self seal_self PureL PureLL Pure Nat.le_refl Nat.zero_le AV.lit.injEq Value.int.injEq Value.bool.injEq false_or or_true true_or Int.natCast_zero Int.ofNat_zero Int.cast_ofNat_Int Int.natCast_add Int.natCast_one Option.some.injEq piL_is sop_nil sop_cons sop_none sop_some sopO_some sop_new shut_pi shutL_nil shutL_cons exQ_exit exQ_ret exQ_normal Go.Sim.Tryz.ty_load1 Go.Sim.Tryz.ty_zero1 Go.Sim.Tryz.ty_load2 Go.Sim.Tryz.ty_zero2 Go.Sim.Tryz.ty_und2 Go.Sim.Tryz.ty_load3 Go.Sim.Tryz.ty_zero3 Go.Sim.Tryz.ty_und3 Go.Sim.Tryz.ty_load4 Go.Sim.Tryz.ty_zero4 Go.Sim.Tryz.ty_und4 Go.Sim.Tryz.ty_load5 Go.Sim.Tryz.ty_zero5 Go.Sim.Tryz.ty_und5 Go.Sim.Tryz.ty_load9 Go.Sim.Tryz.ty_zero9 Go.Sim.Tryz.ty_und9 Go.Sim.Tryz.ty_load21 Go.Sim.Tryz.ty_zero21 Go.Sim.Tryz.ty_und21 Go.Sim.Tryz.ty_load22 Go.Sim.Tryz.ty_zero22 Go.Sim.Tryz.ty_el22 Go.Sim.Tryz.ty_zeroE22 Go.Sim.Tryz.ty_load24 Go.Sim.Tryz.ty_zero24 Go.Sim.Tryz.ty_fld24_0 Go.Sim.Tryz.ty_part24_0 Go.Sim.Tryz.ty_struct24 Go.Sim.Tryz.ty_load25 Go.Sim.Tryz.ty_zero25 Go.Sim.Tryz.ty_el25 Go.Sim.Tryz.ty_zeroE25 Go.Sim.Tryz.ty_load26 Go.Sim.Tryz.ty_zero26 Go.Sim.Tryz.ty_el26 Go.Sim.Tryz.ty_zeroE26 Go.Sim.Tryz.ty_load28 Go.Sim.Tryz.ty_zero28 Go.Sim.Tryz.ty_fld28_0 Go.Sim.Tryz.ty_part28_0 Go.Sim.Tryz.ty_fld28_1 Go.Sim.Tryz.ty_part28_1 Go.Sim.Tryz.ty_fld28_2 Go.Sim.Tryz.ty_part28_2 Go.Sim.Tryz.ty_fld28_3 Go.Sim.Tryz.ty_part28_3 Go.Sim.Tryz.ty_fld28_4 Go.Sim.Tryz.ty_part28_4 Go.Sim.Tryz.ty_fld28_5 Go.Sim.Tryz.ty_part28_5 Go.Sim.Tryz.ty_struct28 Go.Sim.Tryz.ty_load29 Go.Sim.Tryz.ty_zero29 Go.Sim.Tryz.ty_arr29 Go.Sim.Tryz.ty_part29_0 Go.Sim.Tryz.ty_part29_1 Go.Sim.Tryz.ty_struct29 Go.Sim.Tryz.ty_load30 Go.Sim.Tryz.ty_zero30 Go.Sim.Tryz.ty_el30 Go.Sim.Tryz.ty_zeroE30 Go.Sim.Tryz.ty_load32 Go.Sim.Tryz.ty_zero32 Go.Sim.Tryz.ty_fld32_0 Go.Sim.Tryz.ty_part32_0 Go.Sim.Tryz.ty_fld32_1 Go.Sim.Tryz.ty_part32_1 Go.Sim.Tryz.ty_fld32_2 Go.Sim.Tryz.ty_part32_2 Go.Sim.Tryz.ty_fld32_3 Go.Sim.Tryz.ty_part32_3 Go.Sim.Tryz.ty_struct32 Go.Sim.Tryz.ty_load37 Go.Sim.Tryz.ty_zero37 Go.Sim.Tryz.ty_el37 Go.Sim.Tryz.ty_zeroE37 Go.Sim.Tryz.ty_load39 Go.Sim.Tryz.ty_zero39 Go.Sim.Tryz.ty_fld39_0 Go.Sim.Tryz.ty_part39_0 Go.Sim.Tryz.ty_fld39_1 Go.Sim.Tryz.ty_part39_1 Go.Sim.Tryz.ty_struct39 Go.Sim.Tryz.ty_load52 Go.Sim.Tryz.ty_zero52 Go.Sim.Tryz.ty_fld52_0 Go.Sim.Tryz.ty_part52_0 Go.Sim.Tryz.ty_fld52_1 Go.Sim.Tryz.ty_part52_1 Go.Sim.Tryz.ty_fld52_2 Go.Sim.Tryz.ty_part52_2 Go.Sim.Tryz.ty_struct52 Go.Sim.Tryz.ty_load55 Go.Sim.Tryz.ty_zero55 Go.Sim.Tryz.ty_load56 Go.Sim.Tryz.ty_zero56 Go.Sim.Tryz.ty_load70 Go.Sim.Tryz.ty_zero70 Go.Sim.Tryz.ty_el70 Go.Sim.Tryz.ty_zeroE70 Go.Sim.Tryz.ty_load76 Go.Sim.Tryz.ty_zero76 Go.Sim.Tryz.ty_el76 Go.Sim.Tryz.ty_zeroE76 Go.Sim.Tryz.ty_load78 Go.Sim.Tryz.ty_zero78 Go.Sim.Tryz.ty_fld78_0 Go.Sim.Tryz.ty_part78_0 Go.Sim.Tryz.ty_struct78 Go.Sim.Tryz.ty_load84 Go.Sim.Tryz.ty_zero84 Go.Sim.Tryz.ty_fld84_0 Go.Sim.Tryz.ty_part84_0 Go.Sim.Tryz.ty_struct84 Go.Sim.Tryz.ty_load85 Go.Sim.Tryz.ty_zero85 Go.Sim.Tryz.ty_load92 Go.Sim.Tryz.ty_zero92 Go.Sim.Tryz.ty_load93 Go.Sim.Tryz.ty_zero93 Go.Sim.Tryz.ty_und93 Go.Sim.Tryz.ty_load95 Go.Sim.Tryz.ty_zero95 Go.Sim.Tryz.ty_und95 Go.Sim.Tryz.ty_load104 Go.Sim.Tryz.ty_zero104 Go.Sim.Tryz.ty_fld104_0 Go.Sim.Tryz.ty_part104_0 Go.Sim.Tryz.ty_fld104_1 Go.Sim.Tryz.ty_part104_1 Go.Sim.Tryz.ty_struct104 Go.Sim.Tryz.ty_load110 Go.Sim.Tryz.ty_zero110 Go.Sim.Tryz.ty_fld110_0 Go.Sim.Tryz.ty_part110_0 Go.Sim.Tryz.ty_fld110_1 Go.Sim.Tryz.ty_part110_1 Go.Sim.Tryz.ty_struct110 Go.Sim.Tryz.ty_load112 Go.Sim.Tryz.ty_zero112 Go.Sim.Tryz.ty_fld112_0 Go.Sim.Tryz.ty_part112_0 Go.Sim.Tryz.ty_fld112_1 Go.Sim.Tryz.ty_part112_1 Go.Sim.Tryz.ty_fld112_2 Go.Sim.Tryz.ty_part112_2 Go.Sim.Tryz.ty_fld112_3 Go.Sim.Tryz.ty_part112_3 Go.Sim.Tryz.ty_struct112 Go.Sim.Tryz.ty_load119 Go.Sim.Tryz.ty_zero119 Go.Sim.Tryz.ty_load123 Go.Sim.Tryz.ty_zero123 Go.Sim.Tryz.ty_fld123_0 Go.Sim.Tryz.ty_part123_0 Go.Sim.Tryz.ty_fld123_1 Go.Sim.Tryz.ty_part123_1 Go.Sim.Tryz.ty_struct123 Go.Sim.Tryz.ty_load124 Go.Sim.Tryz.ty_zero124 Go.Sim.Tryz.ty_el124 Go.Sim.Tryz.ty_zeroE124 Go.Sim.Tryz.ty_load125 Go.Sim.Tryz.ty_zero125 Go.Sim.Tryz.ty_el125 Go.Sim.Tryz.ty_zeroE125 Go.Sim.Tryz.ty_load128 Go.Sim.Tryz.ty_zero128 Go.Sim.Tryz.ty_fld128_0 Go.Sim.Tryz.ty_part128_0 Go.Sim.Tryz.ty_struct128 Go.Sim.Tryz.ty_load135 Go.Sim.Tryz.ty_zero135 Go.Sim.Tryz.ty_und135 Go.Sim.Tryz.ty_load140 Go.Sim.Tryz.ty_zero140 Go.Sim.Tryz.ty_load141 Go.Sim.Tryz.ty_zero141 Go.Sim.Tryz.ty_el141 Go.Sim.Tryz.ty_zeroE141 Go.Sim.Tryz.ty_load148 Go.Sim.Tryz.ty_zero148 Go.Sim.Tryz.ty_load151 Go.Sim.Tryz.ty_zero151 Go.Sim.Tryz.ty_load159 Go.Sim.Tryz.ty_zero159 Go.Sim.Tryz.ty_und159 Go.Sim.Tryz.ty_vzero128 Go.Sim.Tryz.ty_load168 Go.Sim.Tryz.ty_zero168 Go.Sim.Tryz.ty_fld168_0 Go.Sim.Tryz.ty_part168_0 Go.Sim.Tryz.ty_fld168_1 Go.Sim.Tryz.ty_part168_1 Go.Sim.Tryz.ty_fld168_2 Go.Sim.Tryz.ty_part168_2 Go.Sim.Tryz.ty_struct168 Go.Sim.Tryz.ty_load170 Go.Sim.Tryz.ty_zero170 Go.Sim.Tryz.ty_load172 Go.Sim.Tryz.ty_zero172 Go.Sim.Tryz.ty_und172 Go.Sim.Tryz.ty_load179 Go.Sim.Tryz.ty_zero179 Go.Sim.Tryz.ty_und179 Go.Sim.Tryz.ty_load181 Go.Sim.Tryz.ty_zero181 Go.Sim.Tryz.ty_load184 Go.Sim.Tryz.ty_zero184 Go.Sim.Tryz.ty_und184 Go.Sim.Tryz.ty_load188 Go.Sim.Tryz.ty_zero188 Go.Sim.Tryz.ty_load191 Go.Sim.Tryz.ty_zero191
section
set_option linter.unusedSimpArgs false
set_option linter.unusedVariables false
set_option maxRecDepth 100000
attribute [local push_cast] encE_mk encE_take encE_len encV encE_one encEs_pure encE_pure

def catTwo : List Df := [⟨2, 100⟩, ⟨1, 10⟩]
def rowsTwo : AV := .sl [[.sl [[.sl [[.int 0, .int 1], [.int 0, .int 2]]], [.sl [[.int 0, .int 3], [.int 0, .int 4]]]]], [.sl [[.sl [[.int 0, .int 4]]]]]]
theorem Two_ok : Quiet Go.Proofs.Tryz.prog 58 [] (.tup [.agg [.sl (catTwo.map encD)], .agg [rowsTwo]]) := by
  refine quiet_of (rs := #[.cell 0 24, .cell 1 78]) Go.Proofs.Tryz.func58 rfl rfl rfl mixed rfl rfl fun H hs => ?_
  simp -implicitDefEqProofs only [push_cast, Nat.reduceAdd, Nat.reduceSub, Nat.reduceMul, Nat.reduceLT, Nat.reduceLeDiff, Nat.reduceEqDiff, Nat.reduceBEq, reduceCtorEq, reduceIte, Int.reduceLE, Int.reduceLT, Int.reduceNeg, Int.reduceToNat]
  (try simp -implicitDefEqProofs only [push_cast, Nat.reduceAdd, Nat.reduceSub, Nat.reduceMul, Nat.reduceLT, Nat.reduceLeDiff, Nat.reduceEqDiff, Nat.reduceBEq, reduceCtorEq, reduceIte, Int.reduceLE, Int.reduceLT, Int.reduceNeg, Int.reduceToNat, catTwo, rowsTwo, List.map_cons, List.map_nil, encD])
def fewQ (c : List Df) (q : Qy) : Bool := decide (c.length ≤ 10) && decide (q.occ.length ≤ 20) && decide (q.p.length ≤ 8) && decide (q.sums.length ≤ 20) && decide (q.out.length ≤ 20) && q.p.all fun e => decide (sz e 60 ≤ 60)
/-- What comes in. -/
def Qy.Raw (q : Qy) (c : List Df) : Prop := c.length ≤ 140737488355328 ∧ q.occ.length ≤ 140737488355328 ∧ q.p.length ≤ 140737488355328 ∧ q.sums.length ≤ 140737488355328 ∧ q.out.length ≤ 140737488355328 ∧ ∀ e ∈ q.p, e.Ok
theorem few5_ok (c : List Df) (q : Qy) (hr : q.Raw c) : Quiet Go.Proofs.Tryz.prog 96 [.agg [.sl (c.map encD)], .agg (encQ q)] (.bool (fewQ c q)) := by
  obtain ⟨h1, h2, h3, h4, h5, hok⟩ := hr
  refine quiet_of (rs := #[.tmp 4]) Go.Proofs.Tryz.func96 rfl rfl rfl mixed rfl rfl fun H hs => ?_
  simp -implicitDefEqProofs only [push_cast, Nat.reduceAdd, Nat.reduceSub, Nat.reduceMul, Nat.reduceLT, Nat.reduceLeDiff, Nat.reduceEqDiff, Nat.reduceBEq, reduceCtorEq, reduceIte, Int.reduceLE, Int.reduceLT, Int.reduceNeg, Int.reduceToNat, encQ]
  obtain ⟨hd, hhd⟩ : ∃ hd : Bool, hd = (decide ((c.length : Int) ≤ 10) && decide ((q.occ.length : Int) ≤ 20) && decide ((q.p.length : Int) ≤ 8) && decide ((q.sums.length : Int) ≤ 20) && decide ((q.out.length : Int) ≤ 20)) := ⟨_, rfl⟩
  rw [← hhd]
  have hf : fewQ c q = (hd && q.p.all fun e => decide (sz e 60 ≤ 60)) := by
    have ic : ∀ m n : Nat, decide ((m : Int) ≤ (n : Int)) = decide (m ≤ n) := fun m n => by rw [decide_eq_decide]; omega
    have i1 := ic c.length 10
    have i2 := ic q.occ.length 20
    have i3 := ic q.p.length 8
    have i4 := ic q.sums.length 20
    have i5 := ic q.out.length 20
    simp only [Int.cast_ofNat_Int] at i1 i2 i3 i4 i5
    rw [hhd, i1, i2, i3, i4, i5]
    rfl
  rw [hf]
  clear hf hhd
  have htk : ∀ i, (h : i < q.p.length) → (q.p.take (i + 1)).all (fun e => decide (sz e 60 ≤ 60)) = ((q.p.take i).all (fun e => decide (sz e 60 ≤ 60)) && decide (sz q.p[i] 60 ≤ 60)) := fun i h => by
    rw [List.take_succ_eq_append_getElem h, List.all_append, List.all_cons, List.all_nil, Bool.and_true]
  refine loop_at hs (σ := Nat) (fun i => i ≤ q.p.length) (fun i => q.p.length - i)
    (fun i => [(6, .int i), (5, .bool (hd && (q.p.take i).all fun e => decide (sz e 60 ≤ 60))), (3, .ptr (H.nxt + 1) 6 0 0)]) (fun i => [none, some (.cells 6 [encQ q] 0)]) [some 0, some 1] 0 (by omega) rfl ?_ ?_ ?_
  · (try simp -implicitDefEqProofs only [push_cast, Nat.reduceAdd, Nat.reduceSub, Nat.reduceMul, Nat.reduceLT, Nat.reduceLeDiff, Nat.reduceEqDiff, Nat.reduceBEq, reduceCtorEq, reduceIte, Int.reduceLE, Int.reduceLT, Int.reduceNeg, Int.reduceToNat, List.take_zero, List.all_nil, encEs_pure, encIs_pure, encQ])
  · (try simp -implicitDefEqProofs only [push_cast, Nat.reduceAdd, Nat.reduceSub, Nat.reduceMul, Nat.reduceLT, Nat.reduceLeDiff, Nat.reduceEqDiff, Nat.reduceBEq, reduceCtorEq, reduceIte, Int.reduceLE, Int.reduceLT, Int.reduceNeg, Int.reduceToNat, encEs_pure, encIs_pure, encQ])
  intro i hi2
  by_cases hi : i < q.p.length
  · have hi' : ((i : Int) < (q.p.length : Int)) = True := by simp; omega
    have hi0 : (0 ≤ (i : Int)) = True := by simp
    cases hfi : (hd && (q.p.take i).all fun e => decide (sz e 60 ≤ 60))
    · simp -implicitDefEqProofs only [push_cast, Nat.reduceAdd, Nat.reduceSub, Nat.reduceMul, Nat.reduceLT, Nat.reduceLeDiff, Nat.reduceEqDiff, Nat.reduceBEq, reduceCtorEq, reduceIte, Int.reduceLE, Int.reduceLT, Int.reduceNeg, Int.reduceToNat, hi', encQ]
      rcases Bool.and_eq_false_iff.1 hfi with h | h
      · rw [h]; rfl
      · have : q.p.all (fun e => decide (sz e 60 ≤ 60)) = false := by
          rw [List.all_eq_false] at h ⊢
          obtain ⟨x, hx, h⟩ := h
          exact ⟨x, List.mem_of_mem_take hx, h⟩
        rw [this, Bool.and_false]
    · simp -implicitDefEqProofs only [push_cast, Nat.reduceAdd, Nat.reduceSub, Nat.reduceMul, Nat.reduceLT, Nat.reduceLeDiff, Nat.reduceEqDiff, Nat.reduceBEq, reduceCtorEq, reduceIte, Int.reduceLE, Int.reduceLT, Int.reduceNeg, Int.reduceToNat, hi', hi0, encEs_get q.p i hi, encQ]
      refine callq (few_ok _ (hok _ (List.getElem_mem hi)) 60 (by omega) (by omega)) ?_
      simp -implicitDefEqProofs only [push_cast, Nat.reduceAdd, Nat.reduceSub, Nat.reduceMul, Nat.reduceLT, Nat.reduceLeDiff, Nat.reduceEqDiff, Nat.reduceBEq, reduceCtorEq, reduceIte, Int.reduceLE, Int.reduceLT, Int.reduceNeg, Int.reduceToNat, encQ]
      rw [wrap64 (n := (i : Int) + 1) (by omega) (by omega)]
      have hnx : (hd && (q.p.take (i + 1)).all fun e => decide (sz e 60 ≤ 60)) = decide (sz q.p[i] 60 ≤ 60) := by
        rw [htk i hi, ← Bool.and_assoc, hfi, Bool.true_and]
      refine next_at [none, some 1] (i + 1) (by omega) (by omega) rfl ?_ ?_
      · (try simp -implicitDefEqProofs only [push_cast, Nat.reduceAdd, Nat.reduceSub, Nat.reduceMul, Nat.reduceLT, Nat.reduceLeDiff, Nat.reduceEqDiff, Nat.reduceBEq, reduceCtorEq, reduceIte, Int.reduceLE, Int.reduceLT, Int.reduceNeg, Int.reduceToNat, hnx, encEs_pure, encIs_pure, encQ])
      · (try simp -implicitDefEqProofs only [push_cast, Nat.reduceAdd, Nat.reduceSub, Nat.reduceMul, Nat.reduceLT, Nat.reduceLeDiff, Nat.reduceEqDiff, Nat.reduceBEq, reduceCtorEq, reduceIte, Int.reduceLE, Int.reduceLT, Int.reduceNeg, Int.reduceToNat, encEs_pure, encIs_pure, encQ])
  · have hi' : ((i : Int) < (q.p.length : Int)) = False := by simp; omega
    obtain rfl : i = q.p.length := by omega
    simp -implicitDefEqProofs only [push_cast, Nat.reduceAdd, Nat.reduceSub, Nat.reduceMul, Nat.reduceLT, Nat.reduceLeDiff, Nat.reduceEqDiff, Nat.reduceBEq, reduceCtorEq, reduceIte, Int.reduceLE, Int.reduceLT, Int.reduceNeg, Int.reduceToNat, hi', encQ, List.take_length]
theorem Far_ok (c : List Df) (q : Qy) (hr : q.Raw c) : Quiet Go.Proofs.Tryz.prog 42 [.agg [.sl (c.map encD)], .agg (encQ q)] (.int (if fewQ c q then 0 else 1)) := by
  have hf := few5_ok c q hr
  refine quiet_of (rs := #[.tmp 4]) Go.Proofs.Tryz.func42 rfl rfl rfl mixed rfl rfl fun H hs => ?_
  simp only [encQ] at hf
  simp -implicitDefEqProofs only [push_cast, Nat.reduceAdd, Nat.reduceSub, Nat.reduceMul, Nat.reduceLT, Nat.reduceLeDiff, Nat.reduceEqDiff, Nat.reduceBEq, reduceCtorEq, reduceIte, Int.reduceLE, Int.reduceLT, Int.reduceNeg, Int.reduceToNat, encQ]
  refine callq hf ?_
  simp -implicitDefEqProofs only [push_cast, Nat.reduceAdd, Nat.reduceSub, Nat.reduceMul, Nat.reduceLT, Nat.reduceLeDiff, Nat.reduceEqDiff, Nat.reduceBEq, reduceCtorEq, reduceIte, Int.reduceLE, Int.reduceLT, Int.reduceNeg, Int.reduceToNat, encQ]
  refine ⟨fun h => by rw [h]; rfl, fun h => by rw [h]; rfl⟩
theorem szL_ge : ∀ (l : List Ex) (m n : Int), 0 ≤ m → n ≤ szL l m n
  | [], _, n, _ => by rw [szL]; exact Int.le_refl _
  | x :: l, m, n, h0 => by
    rw [szL]
    split
    · have := sz_bound x (m - n) (by omega)
      have := szL_ge l m (n + sz x (m - n)) h0
      omega
    · exact Int.le_refl _
mutual
theorem sz_cnt : ∀ (e : Ex) (m : Int), 0 ≤ m → sz e m ≤ m → sz e m = cnt e
  | .mk _ _ _ _ l, m, h0, h => by
    have h1 := szL_ge l m 1 h0
    rw [sz] at h ⊢
    rw [cnt, szL_cnt l m 1 h0 (by omega) h]
    omega
theorem szL_cnt : ∀ (l : List Ex) (m n : Int), 0 ≤ m → n ≤ m → szL l m n ≤ m → szL l m n = n + cntL l
  | [], m, n, _, h0, h => by rw [szL, cntL]; omega
  | x :: l, m, n, h1, h0, h => by
    rw [szL, if_pos h0] at h ⊢
    have h2 := szL_ge l m (n + sz x (m - n)) h1
    have h3 := sz_cnt x (m - n) (by omega) (by omega)
    rw [szL_cnt l m _ h1 (by omega) h, cntL]
    omega
end
theorem fewQ_split {c : List Df} {q : Qy} (h : fewQ c q = true) : c.length ≤ 10 ∧ q.occ.length ≤ 20 ∧ q.p.length ≤ 8 ∧ q.sums.length ≤ 20 ∧ q.out.length ≤ 20 ∧ ∀ e ∈ q.p, cnt e ≤ 60 := by
  unfold fewQ at h
  simp only [Bool.and_eq_true, decide_eq_true_eq, List.all_eq_true] at h
  obtain ⟨⟨⟨⟨⟨h1, h2⟩, h3⟩, h4⟩, h5⟩, h6⟩ := h
  refine ⟨h1, h2, h3, h4, h5, fun e he => ?_⟩
  have := sz_cnt e 60 (by omega) (h6 e he)
  have := h6 e he
  omega
theorem ok_of_few {c : List Df} {q : Qy} (hr : q.Raw c) (h : fewQ c q = true) : q.Ok := by
  obtain ⟨h1, h2, h3, h4, h5, h6⟩ := fewQ_split h
  exact ⟨by omega, fun e he => ⟨hr.2.2.2.2.2 e he, Nat.le_trans (h6 e he) (by omega)⟩, by omega, by omega, by omega⟩
end
section
set_option linter.unusedSimpArgs false
set_option linter.unusedVariables false
set_option maxRecDepth 100000

theorem shp_V2 {n : Nat} {vs : List AV} (h : Shp Go.Proofs.Tryz.prog n 110 vs) : ∃ v : Vl, vs = encV v ∧ In64 v.n := by
  obtain ⟨m, parts, _, rfl, hl, hp⟩ := shp_struct Go.Proofs.Tryz.underlying110 h
  match parts, hl with
  | [p0, p1], _ =>
    obtain ⟨k, rfl, _⟩ := shp_int Go.Proofs.Tryz.underlying3 (hp 0 _ p0 rfl rfl).2
    obtain ⟨n, rfl, hn⟩ := shp_int Go.Proofs.Tryz.underlying3 (hp 1 _ p1 rfl rfl).2
    exact ⟨⟨k, n⟩, rfl, wf64 hn⟩
theorem shp_E2 : ∀ (n : Nat) {vs : List AV}, Shp Go.Proofs.Tryz.prog n 112 vs → ∃ e : Ex, vs = encE e ∧ (e.Ok ∧ e.In) := by
  intro n
  induction n using Nat.strongRecOn with
  | ind n ih =>
  intro vs h
  obtain ⟨m, parts, hn, rfl, hl, hp⟩ := shp_struct Go.Proofs.Tryz.underlying112 h
  match parts, hl with
  | [p0, p1, p2, p3], _ =>
    obtain ⟨op, rfl, _⟩ := shp_int Go.Proofs.Tryz.underlying3 (hp 0 _ p0 rfl rfl).2
    obtain ⟨col, rfl, _⟩ := shp_int Go.Proofs.Tryz.underlying3 (hp 1 _ p1 rfl rfl).2
    obtain ⟨⟨k, n'⟩, rfl, hv⟩ := shp_V2 (hp 2 _ p2 rfl rfl).2
    obtain ⟨m', es, hm, rfl, hle, hpe⟩ := shp_slice Go.Proofs.Tryz.underlying26 (hp 3 _ p3 rfl rfl).2
    rw [bytesE] at hle
    obtain ⟨l, rfl, hq⟩ := map_of (f := encE) (q := fun e => e.Ok ∧ e.In) fun x hx => ih m' (by omega) (hpe x hx).2
    refine ⟨.mk op col k n' l, by rw [encE_mk]; rfl, .mk ?_ fun x hx => (hq x hx).1, .mk hv fun x hx => (hq x hx).2⟩
    simp [reachBytes] at hle
    omega
end
section
set_option linter.unusedSimpArgs false
set_option linter.unusedVariables false
set_option maxRecDepth 100000

theorem bytesD : Program.bytesOf Go.Proofs.Tryz.prog 123 = 16 := by kernel_rfl
theorem shp_D {n : Nat} {vs : List AV} (h : Shp Go.Proofs.Tryz.prog n 123 vs) : ∃ d : Df, vs = encD d ∧ (In64 d.cols ∧ In64 d.rows) := by
  obtain ⟨m, parts, _, rfl, hl, hp⟩ := shp_struct Go.Proofs.Tryz.underlying123 h
  match parts, hl with
  | [p0, p1], _ =>
    obtain ⟨k, rfl, hk⟩ := shp_int Go.Proofs.Tryz.underlying3 (hp 0 _ p0 rfl rfl).2
    obtain ⟨n, rfl, hn⟩ := shp_int Go.Proofs.Tryz.underlying3 (hp 1 _ p1 rfl rfl).2
    exact ⟨⟨k, n⟩, rfl, wf64 hk, wf64 hn⟩
theorem shp_Ds {n : Nat} {vs : List AV} (h : Shp Go.Proofs.Tryz.prog n 22 vs) : ∃ l : List Df, vs = [.sl (l.map encD)] ∧ l.length ≤ 140737488355328 ∧ ∀ d ∈ l, In64 d.cols ∧ In64 d.rows := by
  obtain ⟨m, es, _, rfl, hl, hp⟩ := shp_slice Go.Proofs.Tryz.underlying22 h
  rw [bytesD] at hl
  obtain ⟨l, rfl, hq⟩ := map_of (f := encD) (q := fun d => In64 d.cols ∧ In64 d.rows) fun x hx => shp_D (hp x hx).2
  exact ⟨l, rfl, by simp [reachBytes] at hl; omega, hq⟩
theorem shp_C {n : Nat} {vs : List AV} (h : Shp Go.Proofs.Tryz.prog n 24 vs) : ∃ l : List Df, vs = [.sl (l.map encD)] ∧ l.length ≤ 140737488355328 ∧ ∀ d ∈ l, In64 d.cols ∧ In64 d.rows := by
  obtain ⟨m, parts, _, rfl, hl, hp⟩ := shp_struct Go.Proofs.Tryz.underlying24 h
  match parts, hl with
  | [p0], _ =>
    obtain ⟨l, rfl, h1, h2⟩ := shp_Ds (hp 0 _ p0 rfl rfl).2
    exact ⟨l, rfl, h1, h2⟩
theorem shp_Is2 {n : Nat} {vs : List AV} (h : Shp Go.Proofs.Tryz.prog n 25 vs) : ∃ l : List Int, vs = [.sl (l.map encI)] ∧ l.length ≤ 140737488355328 ∧ ∀ x ∈ l, In64 x := by
  obtain ⟨m, es, _, rfl, hl, hp⟩ := shp_slice Go.Proofs.Tryz.underlying25 h
  rw [bytesI] at hl
  obtain ⟨l, rfl, hq⟩ := map_of (f := encI) (q := fun x => In64 x) fun x hx => let ⟨v, hv, hw⟩ := shp_int Go.Proofs.Tryz.underlying3 (hp x hx).2; ⟨v, hv, wf64 hw⟩
  exact ⟨l, rfl, by simp [reachBytes] at hl; omega, hq⟩
theorem shp_Es {n : Nat} {vs : List AV} (h : Shp Go.Proofs.Tryz.prog n 26 vs) : ∃ l : List Ex, vs = [.sl (l.map encE)] ∧ l.length ≤ 140737488355328 ∧ ∀ e ∈ l, e.Ok ∧ e.In := by
  obtain ⟨m, es, _, rfl, hl, hp⟩ := shp_slice Go.Proofs.Tryz.underlying26 h
  rw [bytesE] at hl
  obtain ⟨l, rfl, hq⟩ := map_of (f := encE) (q := fun e => e.Ok ∧ e.In) fun x hx => shp_E2 m (hp x hx).2
  exact ⟨l, rfl, by simp [reachBytes] at hl; omega, hq⟩
/-- Numbers of 64 bits. -/
def Qy.In2 (q : Qy) : Prop := q.In ∧ (∀ x ∈ q.occ, In64 x) ∧ In64 q.ord
theorem shp_Q {n : Nat} {vs : List AV} (h : Shp Go.Proofs.Tryz.prog n 28 vs) (c : List Df) (hc : c.length ≤ 140737488355328) : ∃ q : Qy, vs = encQ q ∧ q.Raw c ∧ q.In2 := by
  obtain ⟨m, parts, _, rfl, hl, hp⟩ := shp_struct Go.Proofs.Tryz.underlying28 h
  match parts, hl with
  | [p0, p1, p2, p3, p4, p5], _ =>
    obtain ⟨occ, rfl, h0, i0⟩ := shp_Is2 (hp 0 _ p0 rfl rfl).2
    obtain ⟨p, rfl, h1, i1⟩ := shp_Es (hp 1 _ p1 rfl rfl).2
    obtain ⟨by_, rfl, i2⟩ := shp_int Go.Proofs.Tryz.underlying3 (hp 2 _ p2 rfl rfl).2
    obtain ⟨sums, rfl, h3, i3⟩ := shp_Is2 (hp 3 _ p3 rfl rfl).2
    obtain ⟨out, rfl, h4, i4⟩ := shp_Is2 (hp 4 _ p4 rfl rfl).2
    obtain ⟨ord, rfl, i5⟩ := shp_int Go.Proofs.Tryz.underlying3 (hp 5 _ p5 rfl rfl).2
    exact ⟨⟨occ, p, by_, sums, out, ord⟩, rfl, ⟨hc, h0, h1, h3, h4, fun e he => (i1 e he).1⟩, ⟨i4, i3, wf64 i2⟩, i0, wf64 i5⟩
theorem asV_C (vs : List AV) : asV Go.Proofs.Tryz.prog 24 vs = .agg vs := by simp only [asV, Go.Proofs.Tryz.underlying24]
theorem asV_Q (vs : List AV) : asV Go.Proofs.Tryz.prog 28 vs = .agg vs := by simp only [asV, Go.Proofs.Tryz.underlying28]
theorem told_CQ {ts : List TypeId} {us : List AV} (h : ToldAll Go.Proofs.Tryz.prog (24 :: 28 :: ts) us) :
    ∃ (c : List Df) (q : Qy) (us' : List AV), us = .agg [.sl (c.map encD)] :: .agg (encQ q) :: us' ∧ (c.length ≤ 140737488355328 ∧ ∀ d ∈ c, In64 d.cols ∧ In64 d.rows) ∧ q.Raw c ∧ q.In2 ∧ ToldAll Go.Proofs.Tryz.prog ts us' := by
  simp only [ToldAll] at h
  obtain ⟨n, vs, us1, rfl, h1, n2, vs2, us2, rfl, h2, h3⟩ := h
  obtain ⟨c, rfl, hc, hc2⟩ := shp_C h1
  obtain ⟨q, rfl, hq, hq2⟩ := shp_Q h2 c hc
  exact ⟨c, q, us2, by rw [asV_C, asV_Q], ⟨hc, hc2⟩, hq, hq2, h3⟩
theorem told_nil {us : List AV} (h : ToldAll Go.Proofs.Tryz.prog [] us) : us = [] := by simpa only [ToldAll] using h
end
section
set_option linter.unusedSimpArgs false
set_option linter.unusedVariables false
set_option maxRecDepth 100000
attribute [local push_cast] encPl_mk encPl_take encPl_len encPl_one encPls_pure encPl_pure encT_pure encT_len encT_one encT_take

def digT (o : Int) : ByteArray := Utf8.encode (IntKind.wrap .i32 (IntKind.wrap .i64 (48 + o)))
theorem textLeaf_ok (o : Int) : Quiet Go.Proofs.Tryz.prog 118 [.agg (encT (Tr.leaf o))] (.lit (.string (digT o))) := by
  rw [Tr.leaf, encT_mk]
  refine quiet_of (rs := #[.tmp 2]) Go.Proofs.Tryz.func118 rfl rfl rfl mixed rfl rfl fun H hs => ?_
  simp -implicitDefEqProofs only [push_cast, Nat.reduceAdd, Nat.reduceSub, Nat.reduceMul, Nat.reduceLT, Nat.reduceLeDiff, Nat.reduceEqDiff, Nat.reduceBEq, reduceCtorEq, reduceIte, Int.reduceLE, Int.reduceLT, Int.reduceNeg, Int.reduceToNat, digT]
def joinT (a b : ByteArray) : ByteArray := (⟨#[40]⟩ : ByteArray) ++ a ++ b ++ (⟨#[41]⟩ : ByteArray)
theorem text2_ok (a b : Tr) (x y : ByteArray) (hx : x.size ≤ 100) (hy : y.size ≤ 100) (h1 : Quiet Go.Proofs.Tryz.prog 118 [.agg (encT a)] (.lit (.string x))) (h2 : Quiet Go.Proofs.Tryz.prog 118 [.agg (encT b)] (.lit (.string y))) : Quiet Go.Proofs.Tryz.prog 118 [.agg (encT (Tr.join a b))] (.lit (.string (joinT x y))) := by
  rw [Tr.join, encT_mk]
  refine quiet_of (rs := #[.tmp 2]) Go.Proofs.Tryz.func118 rfl rfl rfl mixed rfl rfl fun H hs => ?_
  simp -implicitDefEqProofs only [push_cast, Nat.reduceAdd, Nat.reduceSub, Nat.reduceMul, Nat.reduceLT, Nat.reduceLeDiff, Nat.reduceEqDiff, Nat.reduceBEq, reduceCtorEq, reduceIte, Int.reduceLE, Int.reduceLT, Int.reduceNeg, Int.reduceToNat, Int.reduceEq, List.map_cons, List.map_nil, List.length_cons, List.length_nil, Int.reduceAdd]
  refine areg_at 14 (by kernel_rfl) (by kernel_rfl) ?_
  simp -implicitDefEqProofs only [push_cast, Nat.reduceAdd, Nat.reduceSub, Nat.reduceMul, Nat.reduceLT, Nat.reduceLeDiff, Nat.reduceEqDiff, Nat.reduceBEq, reduceCtorEq, reduceIte, Int.reduceLE, Int.reduceLT, Int.reduceNeg, Int.reduceToNat, encT_pure, encT_len, encT_one, encT_take]
  refine ⟨by decide, ahdq h1 ?_⟩
  simp -implicitDefEqProofs only [push_cast, Nat.reduceAdd, Nat.reduceSub, Nat.reduceMul, Nat.reduceLT, Nat.reduceLeDiff, Nat.reduceEqDiff, Nat.reduceBEq, reduceCtorEq, reduceIte, Int.reduceLE, Int.reduceLT, Int.reduceNeg, Int.reduceToNat, encT_pure, encT_len, encT_one, encT_take, Int.reduceAdd, astr]
  refine ⟨?_, ahdq h2 ?_⟩
  · have : (⟨#[40]⟩ : ByteArray).size = 1 := rfl
    omega
  simp -implicitDefEqProofs only [push_cast, Nat.reduceAdd, Nat.reduceSub, Nat.reduceMul, Nat.reduceLT, Nat.reduceLeDiff, Nat.reduceEqDiff, Nat.reduceBEq, reduceCtorEq, reduceIte, Int.reduceLE, Int.reduceLT, Int.reduceNeg, Int.reduceToNat, encT_pure, encT_len, encT_one, encT_take, astr, joinT, ByteArray.size_append]
  have : (⟨#[40]⟩ : ByteArray).size = 1 := rfl
  have : (⟨#[41]⟩ : ByteArray).size = 1 := rfl
  omega
theorem text01_ok : Quiet Go.Proofs.Tryz.prog 59 [.agg (encT (.join (.leaf 0) (.leaf 1)))] (.lit (.string ⟨#[40, 48, 49, 41]⟩)) := by
  have hM := MayT_ok (.join (.leaf 0) (.leaf 1)) (by have := treeP_ok (.mk 1 0 0 0 [.mk 0 0 0 0 [], .mk 0 1 0 0 []]); exact this)
  have hm : (Tr.join (.leaf 0) (.leaf 1)).may = true := by decide +kernel
  rw [hm] at hM
  have hx := text2_ok (.leaf 0) (.leaf 1) _ _ (by decide +kernel) (by decide +kernel) (textLeaf_ok 0) (textLeaf_ok 1)
  have hj : joinT (digT 0) (digT 1) = ⟨#[40, 48, 49, 41]⟩ := by decide +kernel
  rw [hj] at hx
  generalize Tr.join (.leaf 0) (.leaf 1) = t at hM hx ⊢
  refine quiet_of (rs := #[.tmp 2]) Go.Proofs.Tryz.func59 rfl rfl rfl mixed rfl rfl fun H hs => ?_
  simp -implicitDefEqProofs only [push_cast, Nat.reduceAdd, Nat.reduceSub, Nat.reduceMul, Nat.reduceLT, Nat.reduceLeDiff, Nat.reduceEqDiff, Nat.reduceBEq, reduceCtorEq, reduceIte, Int.reduceLE, Int.reduceLT, Int.reduceNeg, Int.reduceToNat, encT_pure, encT_len, encT_one, encT_take]
  refine callq hM ?_
  simp -implicitDefEqProofs only [push_cast, Nat.reduceAdd, Nat.reduceSub, Nat.reduceMul, Nat.reduceLT, Nat.reduceLeDiff, Nat.reduceEqDiff, Nat.reduceBEq, reduceCtorEq, reduceIte, Int.reduceLE, Int.reduceLT, Int.reduceNeg, Int.reduceToNat, encT_pure, encT_len, encT_one, encT_take]
  refine callq hx ?_
  simp -implicitDefEqProofs only [push_cast, Nat.reduceAdd, Nat.reduceSub, Nat.reduceMul, Nat.reduceLT, Nat.reduceLeDiff, Nat.reduceEqDiff, Nat.reduceBEq, reduceCtorEq, reduceIte, Int.reduceLE, Int.reduceLT, Int.reduceNeg, Int.reduceToNat]
/-- The chapter's example. -/
def q11 : Qy := ⟨[0, 1], [], -1, [], [0], -1⟩
def p11 : Pl := .mk 1 0 0 0 [.mk 0 0 0 0 [], .mk 0 1 0 0 []]
theorem q11_may : q11.may catTwo = true := by decide +kernel
theorem q11_raw (c : List Df) (hc : c.length ≤ 140737488355328) : q11.Raw c := ⟨hc, by decide, by decide, by decide, by decide, by intro e he; cases he⟩
theorem q11_few : fewQ catTwo q11 = true := by decide
theorem q11_ok : q11.Ok := ok_of_few (q11_raw catTwo (by decide)) q11_few
theorem plOk0 {op occ a b : Int} : Pl.Ok (.mk op occ a b []) := .mk (by decide) (by simp)
theorem p11_ok : p11.Ok := .mk (by decide) (by
  intro x hx
  simp only [List.mem_cons, List.not_mem_nil, or_false] at hx
  rcases hx with rfl | rfl <;> exact plOk0)
theorem p11_tree : p11.tree = (.join (.leaf 0) (.leaf 1), true) := by
  have h : p11.tree.2 = true := by decide +kernel
  have h1 := tree_1 h
  rw [← h, ← show treeP p11 = .join (.leaf 0) (.leaf 1) by rfl, ← h1]
theorem p11_may : mayP catTwo q11 p11 = true := by
  unfold mayP
  rw [q11_may, p11_tree]
  decide +kernel
theorem p11_cost : costP catTwo q11 p11 = 1110 := by
  rw [costP, p11_may]
  decide +kernel
theorem p11_all : allP catTwo q11 p11 0 false = 1110 := by
  have hf : fineP catTwo q11 p11 0 false = true := by
    rw [fineP, p11_may]
    decide +kernel
  rw [allP, hf, if_pos rfl, allL, p11_cost]
  decide +kernel
theorem p11_order : p11.order = -1 := by decide +kernel
set_option maxHeartbeats 2000000 in
theorem awake11_ok : Quiet Go.Proofs.Tryz.prog 15 [] (.bool true) := by
  have hT := Tree_ok p11 p11_ok
  rw [p11_tree] at hT
  have hM := MayPl_ok catTwo (by decide) q11 q11_ok p11 p11_ok
  rw [p11_may] at hM
  have hC := CostPl_ok catTwo (by decide) q11 q11_ok p11 p11_ok
  rw [p11_cost] at hC
  have hO := Order_ok p11 p11_ok
  rw [p11_order] at hO
  have hA := AllPl_ok catTwo (by decide) q11 q11_ok p11 p11_ok 0 false
  rw [p11_all] at hA
  refine quiet_of (rs := #[.tmp 0]) Go.Proofs.Tryz.func15 rfl rfl rfl mixed rfl rfl fun H hs => ?_
  simp -implicitDefEqProofs only [push_cast, Nat.reduceAdd, Nat.reduceSub, Nat.reduceMul, Nat.reduceLT, Nat.reduceLeDiff, Nat.reduceEqDiff, Nat.reduceBEq, reduceCtorEq, reduceIte, Int.reduceLE, Int.reduceLT, Int.reduceNeg, Int.reduceToNat]
  refine callq Two_ok ?_
  simp -implicitDefEqProofs only [push_cast, Nat.reduceAdd, Nat.reduceSub, Nat.reduceMul, Nat.reduceLT, Nat.reduceLeDiff, Nat.reduceEqDiff, Nat.reduceBEq, reduceCtorEq, reduceIte, Int.reduceLE, Int.reduceLT, Int.reduceNeg, Int.reduceToNat]
  refine ⟨rfl, ?_⟩
  refine fzk H 5 2 [.agg (encPl p11)] (by rfl) (by omega) (by simp) ?_ ?_
  · (try simp -implicitDefEqProofs only [push_cast, Nat.reduceAdd, Nat.reduceSub, Nat.reduceMul, Nat.reduceLT, Nat.reduceLeDiff, Nat.reduceEqDiff, Nat.reduceBEq, reduceCtorEq, reduceIte, Int.reduceLE, Int.reduceLT, Int.reduceNeg, Int.reduceToNat, p11, q11, encQ, encI, encD, encW, catTwo, trO, List.map_cons, List.map_nil, List.set_cons_zero, List.set_cons_succ, List.cons_append, List.nil_append])
  refine callq hT ?_
  simp -implicitDefEqProofs only [push_cast, Nat.reduceAdd, Nat.reduceSub, Nat.reduceMul, Nat.reduceLT, Nat.reduceLeDiff, Nat.reduceEqDiff, Nat.reduceBEq, reduceCtorEq, reduceIte, Int.reduceLE, Int.reduceLT, Int.reduceNeg, Int.reduceToNat, encT_pure, encT_len, encT_one, encT_take, List.set_cons_zero, List.set_cons_succ]
  refine fzk H 2 2 [.agg [.sl (catTwo.map encD)], .agg [.sl ([0, 1].map encI), .nilS, .int (-1), .nilS, .rsl (H.nxt + 3) 1 0 1, .int (-1)], .agg (encPl p11)] (by rfl) (by omega) (by simp) ?_ ?_
  · (try simp -implicitDefEqProofs only [push_cast, Nat.reduceAdd, Nat.reduceSub, Nat.reduceMul, Nat.reduceLT, Nat.reduceLeDiff, Nat.reduceEqDiff, Nat.reduceBEq, reduceCtorEq, reduceIte, Int.reduceLE, Int.reduceLT, Int.reduceNeg, Int.reduceToNat, p11, q11, encQ, encI, encD, encW, catTwo, trO, List.map_cons, List.map_nil, List.set_cons_zero, List.set_cons_succ, List.cons_append, List.nil_append])
  refine fzk H 3 1 [.agg [.sl (catTwo.map encD)], .agg (encQ q11), .agg (encPl p11)] (by rfl) (by omega) (by simp) ?_ ?_
  · (try simp -implicitDefEqProofs only [push_cast, Nat.reduceAdd, Nat.reduceSub, Nat.reduceMul, Nat.reduceLT, Nat.reduceLeDiff, Nat.reduceEqDiff, Nat.reduceBEq, reduceCtorEq, reduceIte, Int.reduceLE, Int.reduceLT, Int.reduceNeg, Int.reduceToNat, p11, q11, encQ, encI, encD, encW, catTwo, trO, List.map_cons, List.map_nil, List.set_cons_zero, List.set_cons_succ, List.cons_append, List.nil_append])
  refine callq hM ?_
  simp -implicitDefEqProofs only [push_cast, Nat.reduceAdd, Nat.reduceSub, Nat.reduceMul, Nat.reduceLT, Nat.reduceLeDiff, Nat.reduceEqDiff, Nat.reduceBEq, reduceCtorEq, reduceIte, Int.reduceLE, Int.reduceLT, Int.reduceNeg, Int.reduceToNat, encT_pure, encT_len, encT_one, encT_take, List.set_cons_zero, List.set_cons_succ]
  refine gcalla [.agg [.sl (catTwo.map encD)], .agg (encQ q11), .agg (encPl p11)] (.int 1110) (fun _ => trivial) (fun _ => hC) ?_ ?_
  · (try simp -implicitDefEqProofs only [push_cast, Nat.reduceAdd, Nat.reduceSub, Nat.reduceMul, Nat.reduceLT, Nat.reduceLeDiff, Nat.reduceEqDiff, Nat.reduceBEq, reduceCtorEq, reduceIte, Int.reduceLE, Int.reduceLT, Int.reduceNeg, Int.reduceToNat, p11, q11, encQ, encI, encD, encW, catTwo, trO, List.map_cons, List.map_nil, List.set_cons_zero, List.set_cons_succ, List.cons_append, List.nil_append])
  simp -implicitDefEqProofs only [push_cast, Nat.reduceAdd, Nat.reduceSub, Nat.reduceMul, Nat.reduceLT, Nat.reduceLeDiff, Nat.reduceEqDiff, Nat.reduceBEq, reduceCtorEq, reduceIte, Int.reduceLE, Int.reduceLT, Int.reduceNeg, Int.reduceToNat, encT_pure, encT_len, encT_one, encT_take, List.set_cons_zero, List.set_cons_succ]
  refine gcallq' (.lit (.string ⟨#[40, 48, 49, 41]⟩)) (fun _ => trivial) (fun _ => text01_ok) ?_
  simp -implicitDefEqProofs only [push_cast, Nat.reduceAdd, Nat.reduceSub, Nat.reduceMul, Nat.reduceLT, Nat.reduceLeDiff, Nat.reduceEqDiff, Nat.reduceBEq, reduceCtorEq, reduceIte, Int.reduceLE, Int.reduceLT, Int.reduceNeg, Int.reduceToNat, encT_pure, encT_len, encT_one, encT_take, List.set_cons_zero, List.set_cons_succ, astr]
  refine gcalla [.agg (encPl p11)] (.int (-1)) (fun _ => trivial) (fun _ => hO) ?_ ?_
  · (try simp -implicitDefEqProofs only [push_cast, Nat.reduceAdd, Nat.reduceSub, Nat.reduceMul, Nat.reduceLT, Nat.reduceLeDiff, Nat.reduceEqDiff, Nat.reduceBEq, reduceCtorEq, reduceIte, Int.reduceLE, Int.reduceLT, Int.reduceNeg, Int.reduceToNat, p11, q11, encQ, encI, encD, encW, catTwo, trO, List.map_cons, List.map_nil, List.set_cons_zero, List.set_cons_succ, List.cons_append, List.nil_append])
  simp -implicitDefEqProofs only [push_cast, Nat.reduceAdd, Nat.reduceSub, Nat.reduceMul, Nat.reduceLT, Nat.reduceLeDiff, Nat.reduceEqDiff, Nat.reduceBEq, reduceCtorEq, reduceIte, Int.reduceLE, Int.reduceLT, Int.reduceNeg, Int.reduceToNat, encT_pure, encT_len, encT_one, encT_take, List.set_cons_zero, List.set_cons_succ]
  refine gcalla [.agg [.sl (catTwo.map encD)], .agg (encQ q11), .agg (encW p11 0 false)] (.int 1110) (fun _ => trivial) (fun _ => hA) ?_ ?_
  · (try simp -implicitDefEqProofs only [push_cast, Nat.reduceAdd, Nat.reduceSub, Nat.reduceMul, Nat.reduceLT, Nat.reduceLeDiff, Nat.reduceEqDiff, Nat.reduceBEq, reduceCtorEq, reduceIte, Int.reduceLE, Int.reduceLT, Int.reduceNeg, Int.reduceToNat, p11, q11, encQ, encI, encD, encW, catTwo, trO, List.map_cons, List.map_nil, List.set_cons_zero, List.set_cons_succ, List.cons_append, List.nil_append])
  simp -implicitDefEqProofs only [push_cast, Nat.reduceAdd, Nat.reduceSub, Nat.reduceMul, Nat.reduceLT, Nat.reduceLeDiff, Nat.reduceEqDiff, Nat.reduceBEq, reduceCtorEq, reduceIte, Int.reduceLE, Int.reduceLT, Int.reduceNeg, Int.reduceToNat, encT_pure, encT_len, encT_one, encT_take, List.set_cons_zero, List.set_cons_succ]
theorem small11_ok (c : List Df) (q : Qy) (hr : q.Raw c) (p : Pl) (hok : p.Ok) : Quiet Go.Proofs.Tryz.prog 16 [.agg [.sl (c.map encD)], .agg (encQ q), .agg (encPl p)] (.bool (fewQ c q && decide ((parts p).length ≤ 100))) := by
  have hfar := Far_ok c q hr
  have hz := sizeP_ok p 100 (by omega) (by omega) hok
  have he := szP_eq p 100 (by omega)
  refine quiet_of (rs := #[.tmp 6]) Go.Proofs.Tryz.func16 rfl rfl rfl mixed rfl rfl fun H hs => ?_
  simp -implicitDefEqProofs only [push_cast, Nat.reduceAdd, Nat.reduceSub, Nat.reduceMul, Nat.reduceLT, Nat.reduceLeDiff, Nat.reduceEqDiff, Nat.reduceBEq, reduceCtorEq, reduceIte, Int.reduceLE, Int.reduceLT, Int.reduceNeg, Int.reduceToNat, encQ]
  refine callq hfar ?_
  simp -implicitDefEqProofs only [push_cast, Nat.reduceAdd, Nat.reduceSub, Nat.reduceMul, Nat.reduceLT, Nat.reduceLeDiff, Nat.reduceEqDiff, Nat.reduceBEq, reduceCtorEq, reduceIte, Int.reduceLE, Int.reduceLT, Int.reduceNeg, Int.reduceToNat, encQ]
  refine gcallq' (.int (szP p 100)) (fun h => by simpa using h) (fun _ => hz) ?_
  have hd : decide (szP p 100 ≤ 100) = decide ((parts p).length ≤ 100) := by rw [he, decide_eq_decide]; omega
  cases hf : fewQ c q
  · simp -implicitDefEqProofs only [push_cast, Nat.reduceAdd, Nat.reduceSub, Nat.reduceMul, Nat.reduceLT, Nat.reduceLeDiff, Nat.reduceEqDiff, Nat.reduceBEq, reduceCtorEq, reduceIte, Int.reduceLE, Int.reduceLT, Int.reduceNeg, Int.reduceToNat, encQ, Bool.false_eq_true, if_false, Int.reduceEq]
  · simp -implicitDefEqProofs only [push_cast, Nat.reduceAdd, Nat.reduceSub, Nat.reduceMul, Nat.reduceLT, Nat.reduceLeDiff, Nat.reduceEqDiff, Nat.reduceBEq, reduceCtorEq, reduceIte, Int.reduceLE, Int.reduceLT, Int.reduceNeg, Int.reduceToNat, encQ, if_true]
    exact hd
theorem sameT_refl (t : Tr) : sameT t t = true := by
  induction t using Tr.ind with
  | h o l ih =>
    rw [sameT, decide_eq_true rfl, Bool.true_and]
    exact sameTL_all rfl fun i h h' => ih _ (List.getElem_mem h)
/-! ### What comes in -/
theorem bytesPl : Program.bytesOf Go.Proofs.Tryz.prog 32 = 56 := by kernel_rfl
theorem shp_I2 {n : Nat} {vs : List AV} (h : Shp Go.Proofs.Tryz.prog n 29 vs) : ∃ a b : Int, vs = [.int a, .int b] := by
  obtain ⟨m, parts, _, rfl, hl, hp⟩ := shp_array Go.Proofs.Tryz.underlying29 h
  match parts, hl with
  | [p0, p1], _ =>
    obtain ⟨a, rfl, _⟩ := shp_int Go.Proofs.Tryz.underlying3 (hp p0 (by simp)).2
    obtain ⟨b, rfl, _⟩ := shp_int Go.Proofs.Tryz.underlying3 (hp p1 (by simp)).2
    exact ⟨a, b, rfl⟩
theorem shp_Pl : ∀ (n : Nat) {vs : List AV}, Shp Go.Proofs.Tryz.prog n 32 vs → ∃ p : Pl, vs = encPl p ∧ p.Ok := by
  intro n
  induction n using Nat.strongRecOn with
  | ind n ih =>
  intro vs h
  obtain ⟨m, parts, hn, rfl, hl, hp⟩ := shp_struct Go.Proofs.Tryz.underlying32 h
  match parts, hl with
  | [p0, p1, p2, p3], _ =>
    obtain ⟨op, rfl, _⟩ := shp_int Go.Proofs.Tryz.underlying3 (hp 0 _ p0 rfl rfl).2
    obtain ⟨occ, rfl, _⟩ := shp_int Go.Proofs.Tryz.underlying3 (hp 1 _ p1 rfl rfl).2
    obtain ⟨a, b, rfl⟩ := shp_I2 (hp 2 _ p2 rfl rfl).2
    obtain ⟨m', es, hm, rfl, hle, hpe⟩ := shp_slice Go.Proofs.Tryz.underlying30 (hp 3 _ p3 rfl rfl).2
    rw [bytesPl] at hle
    obtain ⟨l, rfl, hq⟩ := map_of (f := encPl) (q := fun e => e.Ok) fun x hx => ih m' (by omega) (hpe x hx).2
    refine ⟨.mk op occ a b l, by rw [encPl_mk]; rfl, .mk ?_ fun x hx => hq x hx⟩
    simp [reachBytes] at hle
    omega
theorem shp_W {n : Nat} {vs : List AV} (h : Shp Go.Proofs.Tryz.prog n 52 vs) : ∃ (p : Pl) (e : Int) (s : Bool), vs = encW p e s ∧ p.Ok := by
  obtain ⟨m, parts, hn, rfl, hl, hp⟩ := shp_struct Go.Proofs.Tryz.underlying52 h
  match parts, hl with
  | [p0, p1, p2], _ =>
    obtain ⟨p, rfl, hok⟩ := shp_Pl _ (hp 0 _ p0 rfl rfl).2
    obtain ⟨e, rfl, _⟩ := shp_int Go.Proofs.Tryz.underlying3 (hp 1 _ p1 rfl rfl).2
    obtain ⟨s, rfl⟩ := shp_bool Go.Proofs.Tryz.underlying4 (hp 2 _ p2 rfl rfl).2
    exact ⟨p, e, s, by simp [encW], hok⟩
theorem asV_Pl (vs : List AV) : asV Go.Proofs.Tryz.prog 32 vs = .agg vs := by simp only [asV, Go.Proofs.Tryz.underlying32]
theorem asV_W (vs : List AV) : asV Go.Proofs.Tryz.prog 52 vs = .agg vs := by simp only [asV, Go.Proofs.Tryz.underlying52]
theorem told_Pl {ts : List TypeId} {us : List AV} (h : ToldAll Go.Proofs.Tryz.prog (32 :: ts) us) : ∃ (p : Pl) (us' : List AV), us = .agg (encPl p) :: us' ∧ p.Ok ∧ ToldAll Go.Proofs.Tryz.prog ts us' := by
  simp only [ToldAll] at h
  obtain ⟨n, vs, us1, rfl, h1, h3⟩ := h
  obtain ⟨p, rfl, hk⟩ := shp_Pl n h1
  exact ⟨p, us1, by rw [asV_Pl], hk, h3⟩
theorem told_W {ts : List TypeId} {us : List AV} (h : ToldAll Go.Proofs.Tryz.prog (52 :: ts) us) : ∃ (p : Pl) (e : Int) (s : Bool) (us' : List AV), us = .agg (encW p e s) :: us' ∧ p.Ok ∧ ToldAll Go.Proofs.Tryz.prog ts us' := by
  simp only [ToldAll] at h
  obtain ⟨n, vs, us1, rfl, h1, h3⟩ := h
  obtain ⟨p, e, s, rfl, hk⟩ := shp_W h1
  exact ⟨p, e, s, us1, by rw [asV_W], hk, h3⟩
end
section
set_option linter.unusedSimpArgs false
set_option linter.unusedVariables false
set_option maxRecDepth 100000
attribute [local push_cast] encPl_mk encPl_take encPl_len encPl_one encPls_pure encPl_pure encT_pure encT_len encT_one encT_take

set_option maxHeartbeats 4000000 in
theorem planTells_ok (c : List Df) (q : Qy) (w : Pl) (e : Int) (s : Bool) (p : Pl) (hr : q.Raw c) (hqi : q.In) (hw : w.Ok) (hp : p.Ok) : Quiet Go.Proofs.Tryz.prog 8 [.agg [.sl (c.map encD)], .agg (encQ q), .agg (encW w e s), .agg (encPl p)] (.bool true) := by
  have hxw := small11_ok c q hr w hw
  have hxp := small11_ok c q hr p hp
  have hSa := plan_same_ok w p hw hp
  have hSb := plan_sameR_ok w p hw hp
  cases hf : fewQ c q
  · rw [hf, Bool.false_and] at hxw hxp
    obtain ⟨op, occ, a, b, l⟩ := w
    rw [encPl_mk] at hxw
    rw [encW_mk]
    refine quiet_of (rs := #[.tmp 8]) Go.Proofs.Tryz.func8 rfl rfl rfl mixed rfl rfl fun H hs => ?_
    simp -implicitDefEqProofs only [push_cast, Nat.reduceAdd, Nat.reduceSub, Nat.reduceMul, Nat.reduceLT, Nat.reduceLeDiff, Nat.reduceEqDiff, Nat.reduceBEq, reduceCtorEq, reduceIte, Int.reduceLE, Int.reduceLT, Int.reduceNeg, Int.reduceToNat, encQ]
    refine callq awake11_ok ?_
    simp -implicitDefEqProofs only [push_cast, Nat.reduceAdd, Nat.reduceSub, Nat.reduceMul, Nat.reduceLT, Nat.reduceLeDiff, Nat.reduceEqDiff, Nat.reduceBEq, reduceCtorEq, reduceIte, Int.reduceLE, Int.reduceLT, Int.reduceNeg, Int.reduceToNat, encQ]
    refine callq hxw ?_
    simp -implicitDefEqProofs only [push_cast, Nat.reduceAdd, Nat.reduceSub, Nat.reduceMul, Nat.reduceLT, Nat.reduceLeDiff, Nat.reduceEqDiff, Nat.reduceBEq, reduceCtorEq, reduceIte, Int.reduceLE, Int.reduceLT, Int.reduceNeg, Int.reduceToNat, encQ]
    refine callq hxp ?_
    simp -implicitDefEqProofs only [push_cast, Nat.reduceAdd, Nat.reduceSub, Nat.reduceMul, Nat.reduceLT, Nat.reduceLeDiff, Nat.reduceEqDiff, Nat.reduceBEq, reduceCtorEq, reduceIte, Int.reduceLE, Int.reduceLT, Int.reduceNeg, Int.reduceToNat, encQ]
  have hcl : c.length ≤ 1000000 := by have := (fewQ_split hf).1; omega
  have hq := ok_of_few hr hf
  have hFa := FinePl_ok c hcl q hq w hw e s
  have hFb := FineR_ok c hcl q hq hqi w hw e s
  have hAa := AllPl_ok c hcl q hq w hw e s
  have hAb := AllR_ok c hcl q hq hqi w hw e s
  rw [hf, Bool.true_and] at hxw hxp
  have hst := sameT_refl p.tree.1
  have hT1 := tree_sameR_ok p.tree.1 p.tree.1 (tree_ok p) (tree_ok p)
  rw [hst] at hT1
  have hMa := MayPl_ok c hcl q hq p hp
  have hMb := MayPR_ok c hcl q hq hqi p hp
  have hCa := CostPl_ok c hcl q hq p hp
  have hCb := CostR_ok c hcl q hq hqi p hp
  generalize decide ((parts p).length ≤ 100) = y at hxp
  generalize decide ((parts w).length ≤ 100) = x at hxw
  generalize fineP c q w e s = fine at hFa hFb
  generalize allP c q w e s = all at hAa hAb
  generalize samePl w p = same at hSa hSb
  obtain ⟨op, occ, a, b, l⟩ := w
  rw [encPl_mk] at hxw hSa hSb
  rw [encW_mk] at hFa hFb hAa hAb ⊢
  refine quiet_of (rs := #[.tmp 8]) Go.Proofs.Tryz.func8 rfl rfl rfl mixed rfl rfl fun H hs => ?_
  simp -implicitDefEqProofs only [push_cast, Nat.reduceAdd, Nat.reduceSub, Nat.reduceMul, Nat.reduceLT, Nat.reduceLeDiff, Nat.reduceEqDiff, Nat.reduceBEq, reduceCtorEq, reduceIte, Int.reduceLE, Int.reduceLT, Int.reduceNeg, Int.reduceToNat, encQ]
  refine callq awake11_ok ?_
  simp -implicitDefEqProofs only [push_cast, Nat.reduceAdd, Nat.reduceSub, Nat.reduceMul, Nat.reduceLT, Nat.reduceLeDiff, Nat.reduceEqDiff, Nat.reduceBEq, reduceCtorEq, reduceIte, Int.reduceLE, Int.reduceLT, Int.reduceNeg, Int.reduceToNat, encQ]
  refine callq hxw ?_
  simp -implicitDefEqProofs only [push_cast, Nat.reduceAdd, Nat.reduceSub, Nat.reduceMul, Nat.reduceLT, Nat.reduceLeDiff, Nat.reduceEqDiff, Nat.reduceBEq, reduceCtorEq, reduceIte, Int.reduceLE, Int.reduceLT, Int.reduceNeg, Int.reduceToNat, encQ]
  refine callq hxp ?_
  cases x
  · simp -implicitDefEqProofs only [push_cast, Nat.reduceAdd, Nat.reduceSub, Nat.reduceMul, Nat.reduceLT, Nat.reduceLeDiff, Nat.reduceEqDiff, Nat.reduceBEq, reduceCtorEq, reduceIte, Int.reduceLE, Int.reduceLT, Int.reduceNeg, Int.reduceToNat, encQ]
  cases y
  · simp -implicitDefEqProofs only [push_cast, Nat.reduceAdd, Nat.reduceSub, Nat.reduceMul, Nat.reduceLT, Nat.reduceLeDiff, Nat.reduceEqDiff, Nat.reduceBEq, reduceCtorEq, reduceIte, Int.reduceLE, Int.reduceLT, Int.reduceNeg, Int.reduceToNat, encQ]
  simp -implicitDefEqProofs only [push_cast, Nat.reduceAdd, Nat.reduceSub, Nat.reduceMul, Nat.reduceLT, Nat.reduceLeDiff, Nat.reduceEqDiff, Nat.reduceBEq, reduceCtorEq, reduceIte, Int.reduceLE, Int.reduceLT, Int.reduceNeg, Int.reduceToNat, encQ]
  refine callq (Tree_ok p hp) ?_
  simp -implicitDefEqProofs only [push_cast, Nat.reduceAdd, Nat.reduceSub, Nat.reduceMul, Nat.reduceLT, Nat.reduceLeDiff, Nat.reduceEqDiff, Nat.reduceBEq, reduceCtorEq, reduceIte, Int.reduceLE, Int.reduceLT, Int.reduceNeg, Int.reduceToNat, encQ]
  refine callq (TreeR_ok p hp) ?_
  simp -implicitDefEqProofs only [push_cast, Nat.reduceAdd, Nat.reduceSub, Nat.reduceMul, Nat.reduceLT, Nat.reduceLeDiff, Nat.reduceEqDiff, Nat.reduceBEq, reduceCtorEq, reduceIte, Int.reduceLE, Int.reduceLT, Int.reduceNeg, Int.reduceToNat, encQ]
  refine areg_at 34 (by kernel_rfl) (by kernel_rfl) ?_
  simp -implicitDefEqProofs only [push_cast, Nat.reduceAdd, Nat.reduceSub, Nat.reduceMul, Nat.reduceLT, Nat.reduceLeDiff, Nat.reduceEqDiff, Nat.reduceBEq, reduceCtorEq, reduceIte, Int.reduceLE, Int.reduceLT, Int.reduceNeg, Int.reduceToNat, encQ]
  refine ahdq (Few_ok p hp) ?_
  simp -implicitDefEqProofs only [push_cast, Nat.reduceAdd, Nat.reduceSub, Nat.reduceMul, Nat.reduceLT, Nat.reduceLeDiff, Nat.reduceEqDiff, Nat.reduceBEq, reduceCtorEq, reduceIte, Int.reduceLE, Int.reduceLT, Int.reduceNeg, Int.reduceToNat, encQ]
  refine ahdq (FewR_ok p hp) ?_
  simp -implicitDefEqProofs only [push_cast, Nat.reduceAdd, Nat.reduceSub, Nat.reduceMul, Nat.reduceLT, Nat.reduceLeDiff, Nat.reduceEqDiff, Nat.reduceBEq, reduceCtorEq, reduceIte, Int.reduceLE, Int.reduceLT, Int.reduceNeg, Int.reduceToNat, encQ]
  refine gcallq (.bool true) (fun _ => hT1) ?_
  simp -implicitDefEqProofs only [push_cast, Nat.reduceAdd, Nat.reduceSub, Nat.reduceMul, Nat.reduceLT, Nat.reduceLeDiff, Nat.reduceEqDiff, Nat.reduceBEq, reduceCtorEq, reduceIte, Int.reduceLE, Int.reduceLT, Int.reduceNeg, Int.reduceToNat, encQ]
  refine gcallq (.int p.order) (fun _ => Order_ok p hp) ?_
  simp -implicitDefEqProofs only [push_cast, Nat.reduceAdd, Nat.reduceSub, Nat.reduceMul, Nat.reduceLT, Nat.reduceLeDiff, Nat.reduceEqDiff, Nat.reduceBEq, reduceCtorEq, reduceIte, Int.reduceLE, Int.reduceLT, Int.reduceNeg, Int.reduceToNat, encQ]
  refine gcallq (.int p.order) (fun _ => OrderR_ok p hp) ?_
  simp -implicitDefEqProofs only [push_cast, Nat.reduceAdd, Nat.reduceSub, Nat.reduceMul, Nat.reduceLT, Nat.reduceLeDiff, Nat.reduceEqDiff, Nat.reduceBEq, reduceCtorEq, reduceIte, Int.reduceLE, Int.reduceLT, Int.reduceNeg, Int.reduceToNat, encQ]
  refine gcallq (.bool same) (fun _ => hSa) ?_
  simp -implicitDefEqProofs only [push_cast, Nat.reduceAdd, Nat.reduceSub, Nat.reduceMul, Nat.reduceLT, Nat.reduceLeDiff, Nat.reduceEqDiff, Nat.reduceBEq, reduceCtorEq, reduceIte, Int.reduceLE, Int.reduceLT, Int.reduceNeg, Int.reduceToNat, encQ]
  refine gcallq (.bool same) (fun _ => hSb) ?_
  simp -implicitDefEqProofs only [push_cast, Nat.reduceAdd, Nat.reduceSub, Nat.reduceMul, Nat.reduceLT, Nat.reduceLeDiff, Nat.reduceEqDiff, Nat.reduceBEq, reduceCtorEq, reduceIte, Int.reduceLE, Int.reduceLT, Int.reduceNeg, Int.reduceToNat, encQ]
  refine areg_at 21 (by kernel_rfl) (by kernel_rfl) ?_
  simp -implicitDefEqProofs only [push_cast, Nat.reduceAdd, Nat.reduceSub, Nat.reduceMul, Nat.reduceLT, Nat.reduceLeDiff, Nat.reduceEqDiff, Nat.reduceBEq, reduceCtorEq, reduceIte, Int.reduceLE, Int.reduceLT, Int.reduceNeg, Int.reduceToNat, encQ]
  refine ahdq hMa ?_
  simp -implicitDefEqProofs only [push_cast, Nat.reduceAdd, Nat.reduceSub, Nat.reduceMul, Nat.reduceLT, Nat.reduceLeDiff, Nat.reduceEqDiff, Nat.reduceBEq, reduceCtorEq, reduceIte, Int.reduceLE, Int.reduceLT, Int.reduceNeg, Int.reduceToNat, encQ]
  refine ahdq hMb ?_
  simp -implicitDefEqProofs only [push_cast, Nat.reduceAdd, Nat.reduceSub, Nat.reduceMul, Nat.reduceLT, Nat.reduceLeDiff, Nat.reduceEqDiff, Nat.reduceBEq, reduceCtorEq, reduceIte, Int.reduceLE, Int.reduceLT, Int.reduceNeg, Int.reduceToNat, encQ]
  refine gcallq (.int (costP c q p)) (fun _ => hCa) ?_
  simp -implicitDefEqProofs only [push_cast, Nat.reduceAdd, Nat.reduceSub, Nat.reduceMul, Nat.reduceLT, Nat.reduceLeDiff, Nat.reduceEqDiff, Nat.reduceBEq, reduceCtorEq, reduceIte, Int.reduceLE, Int.reduceLT, Int.reduceNeg, Int.reduceToNat, encQ]
  refine gcallq (.int (costP c q p)) (fun _ => hCb) ?_
  simp -implicitDefEqProofs only [push_cast, Nat.reduceAdd, Nat.reduceSub, Nat.reduceMul, Nat.reduceLT, Nat.reduceLeDiff, Nat.reduceEqDiff, Nat.reduceBEq, reduceCtorEq, reduceIte, Int.reduceLE, Int.reduceLT, Int.reduceNeg, Int.reduceToNat, encQ]
  refine areg_at 27 (by kernel_rfl) (by kernel_rfl) ?_
  simp -implicitDefEqProofs only [push_cast, Nat.reduceAdd, Nat.reduceSub, Nat.reduceMul, Nat.reduceLT, Nat.reduceLeDiff, Nat.reduceEqDiff, Nat.reduceBEq, reduceCtorEq, reduceIte, Int.reduceLE, Int.reduceLT, Int.reduceNeg, Int.reduceToNat, encQ]
  refine gcallq (.bool fine) (fun _ => hFa) ?_
  simp -implicitDefEqProofs only [push_cast, Nat.reduceAdd, Nat.reduceSub, Nat.reduceMul, Nat.reduceLT, Nat.reduceLeDiff, Nat.reduceEqDiff, Nat.reduceBEq, reduceCtorEq, reduceIte, Int.reduceLE, Int.reduceLT, Int.reduceNeg, Int.reduceToNat, encQ]
  refine gcallq (.bool fine) (fun _ => hFb) ?_
  simp -implicitDefEqProofs only [push_cast, Nat.reduceAdd, Nat.reduceSub, Nat.reduceMul, Nat.reduceLT, Nat.reduceLeDiff, Nat.reduceEqDiff, Nat.reduceBEq, reduceCtorEq, reduceIte, Int.reduceLE, Int.reduceLT, Int.reduceNeg, Int.reduceToNat, encQ]
  refine gcallq (.int all) (fun _ => hAa) ?_
  simp -implicitDefEqProofs only [push_cast, Nat.reduceAdd, Nat.reduceSub, Nat.reduceMul, Nat.reduceLT, Nat.reduceLeDiff, Nat.reduceEqDiff, Nat.reduceBEq, reduceCtorEq, reduceIte, Int.reduceLE, Int.reduceLT, Int.reduceNeg, Int.reduceToNat, encQ]
  refine gcallq (.int all) (fun _ => hAb) ?_
  simp -implicitDefEqProofs only [push_cast, Nat.reduceAdd, Nat.reduceSub, Nat.reduceMul, Nat.reduceLT, Nat.reduceLeDiff, Nat.reduceEqDiff, Nat.reduceBEq, reduceCtorEq, reduceIte, Int.reduceLE, Int.reduceLT, Int.reduceNeg, Int.reduceToNat, encQ]
theorem planTells_law (us : List AV) (h : ToldAll Go.Proofs.Tryz.prog Go.Proofs.Tryz.f8.params.toList us) : Quiet Go.Proofs.Tryz.prog 8 us (.bool true) := by
  have e1 : Go.Proofs.Tryz.f8.params.toList = [24, 28, 52, 32] := by kernel_rfl
  rw [e1] at h
  obtain ⟨c, q, us, rfl, _, hr, hin, h⟩ := told_CQ h
  obtain ⟨w, e, s, us, rfl, hw, h⟩ := told_W h
  obtain ⟨p, us, rfl, hp, h⟩ := told_Pl h
  obtain rfl := told_nil h
  exact planTells_ok c q w e s p hr hin.1 hw hp
end
end Go.Sim.Tryz
