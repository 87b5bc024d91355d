/- The law ExprBoth, walked. Conditions: none. -/
import Derived.Test.YtnoajklojkmonaaSimPart
set_option linter.unusedSimpArgs false
set_option linter.unusedVariables false
set_option maxRecDepth 100000
namespace Go.Sim.Try
open Go Go.Sim
attribute [local push_cast] aops_cons aops_nil aopG_none aopG_some aopP_eq aopE_eq aopC_eq aopE?_eq aopC?_eq gopP_eq gopL_eq ahead_cons ahead_nil ahdG_none ahdG_some ahdP_eq ahdN_eq ahdC_eq ahdN?_eq ahdS_eq ahdS?_eq astoreN ahdC?_eq ghdP_eq ghdC_eq ghdC?_eq opt_some opt_none no_eq acondT_true acondT_false acondT_lit aw_skip aw_region aw_regionD aw_seq aw_cond aw_block aw_loop aw_exit aw_label aw_ret thn_normal thn_exit thn_ret inb_normal inb_exit inb_ret qret_ret qret_normal gcond apure aeff anew acallee ares aresT aresL aresC ares1 qfin_eq ev ofV evL gokL tget tput_some tput_none initT abin aint aun aload afaddr aiaddr afield aindex aextract apick pickv_lit Bool.or_false Bool.false_or Bool.or_true Bool.true_or imp_self aslice abound aconv abuild afill splice alen aminmax abuiltin anil apart Value.oneCell' astore aappend srcEs abuildSlice asets isEq plus_obj plus_nxt plus_add plus_set plus_del IntKind.bits Option.map_some Option.map_none Option.bind_some Option.bind_none Option.join_some Option.getD_some Option.getD_none Option.toList Option.isSome_some List.getElem?_toArray List.getElem?_cons_zero List.getElem?_cons_succ List.getElem?_nil List.length_cons List.length_nil List.length_map List.head?_cons List.cons_append List.nil_append List.append_nil List.map_cons List.map_nil List.getD_cons_zero List.getD_cons_succ List.replicate_succ List.replicate_zero List.set_cons_zero List.set_cons_succ List.take_succ_cons List.take_zero List.drop_succ_cons List.drop_zero List.all_cons List.all_nil Nat.zero_add if_true if_false true_and and_true false_and and_false true_implies implies_true forall_const Bool.and_true Bool.true_and Bool.false_and Bool.and_false Bool.true_beq Bool.false_beq Bool.not_not beq_tt beq_ff Int.toNat_natCast decide_true decide_false Bool.not_true Bool.not_false Bool.true_eq_false Bool.false_eq_true false_implies exists_prop eq_self bne_self_eq_false beq_self_eq_true decide_eq_true_eq decide_eq_false_iff_not Bool.not_eq_true' Bool.not_eq_false' AV.int AV.bool AV.nilS ne_eq not_false_eq_true not_true_eq_false exists_eq_left exists_eq_left' Nat.lt_irrefl core_lit grd_lit acells_lit one_lit core_agg grd_agg acells_agg one_agg core_tup grd_tup acells_tup one_tup core_sl grd_sl acells_sl one_sl core_esl grd_esl acells_esl one_esl core_rsl grd_rsl acells_rsl one_rsl core_ptr grd_ptr acells_ptr one_ptr core_iptr grd_iptr acells_iptr one_iptr core_clo grd_clo acells_clo one_clo core_mp grd_mp acells_mp one_mp core_any grd_any acells_any one_any core_gv grd_gv fit_agg fit_lit fit_sl fit_esl fit_rsl fit_ptr fit_iptr fit_clo fit_mp retq_ret retq_normal set_nxt set_set plus_obj_set plus_set_set app_get0 app_get app_set0 app_set List.append_assoc List.length_append List.length_set Nat.lt_add_one Nat.add_lt_add_iff_right Nat.lt_add_right_iff_pos Nat.add_lt_add_iff_left List.mem_cons List.not_mem_nil or_false forall_eq forall_eq_or_imp lt_s0 lt_s1 lt_s2 lt_s3 lt_s4 lt_s5 lt_s6 lt_s7 lt_s8 SealT SealOs sealO_cells sl_lit sl_any sl_agg sl_tup sl_sl sl_rsl slO sl_esl sl_nil sl_eslesl sl_eslnil sl_rslrsl sl_eslrsl sl_nilrsl sl_ptr sl_iptr sl_ptri slP sl_clo sl_mp sl_gv sll_nil sll_cons slll_nil slll_cons shut_eq shutO Option.join_none Fn.func.injEq and_self sealL_self sealLL_self seal_self PureL PureLL Pure Nat.le_refl Nat.zero_le AV.lit.injEq Value.int.injEq Value.bool.injEq false_or or_true true_or Int.natCast_zero Int.ofNat_zero Int.cast_ofNat_Int Int.natCast_add Int.natCast_one Option.some.injEq piL_is sop_nil sop_cons sop_none sop_some sopO_some sop_new shut_pi shutL_nil shutL_cons exQ_exit exQ_ret exQ_normal Go.Sim.Try.ty_load1 Go.Sim.Try.ty_zero1 Go.Sim.Try.ty_load2 Go.Sim.Try.ty_zero2 Go.Sim.Try.ty_und2 Go.Sim.Try.ty_load3 Go.Sim.Try.ty_zero3 Go.Sim.Try.ty_und3 Go.Sim.Try.ty_load4 Go.Sim.Try.ty_zero4 Go.Sim.Try.ty_und4 Go.Sim.Try.ty_load5 Go.Sim.Try.ty_zero5 Go.Sim.Try.ty_und5 Go.Sim.Try.ty_load9 Go.Sim.Try.ty_zero9 Go.Sim.Try.ty_und9 Go.Sim.Try.ty_load21 Go.Sim.Try.ty_zero21 Go.Sim.Try.ty_und21 Go.Sim.Try.ty_load22 Go.Sim.Try.ty_zero22 Go.Sim.Try.ty_el22 Go.Sim.Try.ty_zeroE22 Go.Sim.Try.ty_load24 Go.Sim.Try.ty_zero24 Go.Sim.Try.ty_fld24_0 Go.Sim.Try.ty_part24_0 Go.Sim.Try.ty_fld24_1 Go.Sim.Try.ty_part24_1 Go.Sim.Try.ty_struct24 Go.Sim.Try.ty_load27 Go.Sim.Try.ty_zero27 Go.Sim.Try.ty_load32 Go.Sim.Try.ty_zero32 Go.Sim.Try.ty_load38 Go.Sim.Try.ty_zero38 Go.Sim.Try.ty_fld38_0 Go.Sim.Try.ty_part38_0 Go.Sim.Try.ty_fld38_1 Go.Sim.Try.ty_part38_1 Go.Sim.Try.ty_struct38 Go.Sim.Try.ty_load39 Go.Sim.Try.ty_zero39 Go.Sim.Try.ty_el39 Go.Sim.Try.ty_zeroE39 Go.Sim.Try.ty_load41 Go.Sim.Try.ty_zero41 Go.Sim.Try.ty_fld41_0 Go.Sim.Try.ty_part41_0 Go.Sim.Try.ty_fld41_1 Go.Sim.Try.ty_part41_1 Go.Sim.Try.ty_fld41_2 Go.Sim.Try.ty_part41_2 Go.Sim.Try.ty_fld41_3 Go.Sim.Try.ty_part41_3 Go.Sim.Try.ty_struct41 Go.Sim.Try.ty_load42 Go.Sim.Try.ty_zero42 Go.Sim.Try.ty_el42 Go.Sim.Try.ty_zeroE42 Go.Sim.Try.ty_load43 Go.Sim.Try.ty_zero43 Go.Sim.Try.ty_load45 Go.Sim.Try.ty_zero45 Go.Sim.Try.ty_el45 Go.Sim.Try.ty_zeroE45 Go.Sim.Try.ty_load51 Go.Sim.Try.ty_zero51 Go.Sim.Try.ty_load64 Go.Sim.Try.ty_zero64 Go.Sim.Try.ty_load67 Go.Sim.Try.ty_zero67 Go.Sim.Try.ty_fld67_0 Go.Sim.Try.ty_part67_0 Go.Sim.Try.ty_struct67 Go.Sim.Try.ty_load69 Go.Sim.Try.ty_zero69 Go.Sim.Try.ty_und69 Go.Sim.Try.ty_load76 Go.Sim.Try.ty_zero76 Go.Sim.Try.ty_el76 Go.Sim.Try.ty_zeroE76 Go.Sim.Try.ty_load83 Go.Sim.Try.ty_zero83 Go.Sim.Try.ty_fld83_0 Go.Sim.Try.ty_part83_0 Go.Sim.Try.ty_fld83_1 Go.Sim.Try.ty_part83_1 Go.Sim.Try.ty_fld83_2 Go.Sim.Try.ty_part83_2 Go.Sim.Try.ty_struct83 Go.Sim.Try.ty_load87 Go.Sim.Try.ty_zero87 Go.Sim.Try.ty_und87 Go.Sim.Try.ty_load90 Go.Sim.Try.ty_zero90 Go.Sim.Try.ty_load94 Go.Sim.Try.ty_zero94 Go.Sim.Try.ty_und94 Go.Sim.Try.ty_load102 Go.Sim.Try.ty_zero102 Go.Sim.Try.ty_und102 Go.Sim.Try.ty_load104 Go.Sim.Try.ty_zero104 Go.Sim.Try.ty_und104 Go.Sim.Try.ty_load106 Go.Sim.Try.ty_zero106 Go.Sim.Try.ty_load115 Go.Sim.Try.ty_zero115 Go.Sim.Try.ty_und115 Go.Sim.Try.ty_load119 Go.Sim.Try.ty_zero119 encE_mk encE_take encE_len encV encE_one encEs_pure encE_pure

theorem pick_t (b : Bool) : pickv true (.lit (.bool b)) .any = .lit (.bool b) := rfl
theorem both_g (k1 k2 k3 : Bool) : (k3 == (k1 && k2)) = true → (k1 && k2) = true → (k3 == (k1 && k2) && (k1 && k2)) = true := by cases k1 <;> cases k2 <;> cases k3 <;> decide
def both (e f : Ex) : Ex := .mk 8 0 0 0 [e, f]
def oneOf (e f : Ex) : Ex := .mk 9 0 0 0 [e, f]
/-- What the law tells, in plain Lean. -/
def bothLaw (e f : Ex) (row : List Vl) : Bool :=
  if !decide (sz e 12 ≤ 12) || !decide (sz f 12 ≤ 12) || decide (16 < row.length) || !(both e f).may then true
  else if (both e f).cols.any (fun c => !hasE c e && !hasE c f) then false
  else ((both e f).keeps (upto row.length) row == (e.keeps (upto row.length) row && f.keeps (upto row.length) row)) && (!(e.keeps (upto row.length) row && f.keeps (upto row.length) row) || (oneOf e f).keeps (upto row.length) row)
    && ((oneOf e f).keeps (upto row.length) row == (e.keeps (upto row.length) row || f.keeps (upto row.length) row)) && decide ((both e f).cols.length ≤ e.cols.length + f.cols.length)

theorem exprBoth_ok (e f : Ex) (hok : e.Ok) (hokf : f.Ok) (row : List Vl) (hr : row.length ≤ 140737488355328) : Quiet Go.Proofs.Try.prog 9 [.agg (encE e), .agg (encE f), .sl (row.map encV)] (.bool (bothLaw e f row)) := by
  refine quiet_of (rs := #[.tmp 6]) Go.Proofs.Try.func9 rfl rfl rfl mixed rfl rfl fun H hs => ?_
  simp only [push_cast, Nat.reduceAdd, Nat.reduceSub, Nat.reduceMul, Nat.reduceLT, Nat.reduceLeDiff, Nat.reduceEqDiff, Nat.reduceBEq, reduceCtorEq, reduceIte, Int.reduceLE, Int.reduceLT, Int.reduceNeg, Int.reduceToNat]
  refine callq awake_ok ?_
  simp only [push_cast, Nat.reduceAdd, Nat.reduceSub, Nat.reduceMul, Nat.reduceLT, Nat.reduceLeDiff, Nat.reduceEqDiff, Nat.reduceBEq, reduceCtorEq, reduceIte, Int.reduceLE, Int.reduceLT, Int.reduceNeg, Int.reduceToNat]
  refine callq (few_ok e hok 12 (by decide) (by decide)) ?_
  simp only [push_cast, Nat.reduceAdd, Nat.reduceSub, Nat.reduceMul, Nat.reduceLT, Nat.reduceLeDiff, Nat.reduceEqDiff, Nat.reduceBEq, reduceCtorEq, reduceIte, Int.reduceLE, Int.reduceLT, Int.reduceNeg, Int.reduceToNat]
  refine callq (few_ok f hokf 12 (by decide) (by decide)) ?_
  by_cases hz : sz e 12 ≤ 12 ∧ sz f 12 ≤ 12 ∧ row.length ≤ 16
  rotate_left
  · have hl : bothLaw e f row = true := by
      have hg : (!decide (sz e 12 ≤ 12) || !decide (sz f 12 ≤ 12) || decide (16 < row.length) || !(both e f).may) = true := by grind
      simp only [bothLaw, hg, if_true]
    rw [hl]
    have hzz : (sz e 12 ≤ 12) = False ∨ ((sz e 12 ≤ 12) = True ∧ (sz f 12 ≤ 12) = False) ∨ ((sz e 12 ≤ 12) = True ∧ (sz f 12 ≤ 12) = True ∧ ((16 : Int) < (row.length : Int)) = True) := by grind
    rcases hzz with q | ⟨q, q2⟩ | ⟨q, q2, q3⟩
    · simp only [push_cast, Nat.reduceAdd, Nat.reduceSub, Nat.reduceMul, Nat.reduceLT, Nat.reduceLeDiff, Nat.reduceEqDiff, Nat.reduceBEq, reduceCtorEq, reduceIte, Int.reduceLE, Int.reduceLT, Int.reduceNeg, Int.reduceToNat, q]
      refine gskip ?_
      simp only [push_cast, Nat.reduceAdd, Nat.reduceSub, Nat.reduceMul, Nat.reduceLT, Nat.reduceLeDiff, Nat.reduceEqDiff, Nat.reduceBEq, reduceCtorEq, reduceIte, Int.reduceLE, Int.reduceLT, Int.reduceNeg, Int.reduceToNat]
      refine gskip ?_
      simp only [push_cast, Nat.reduceAdd, Nat.reduceSub, Nat.reduceMul, Nat.reduceLT, Nat.reduceLeDiff, Nat.reduceEqDiff, Nat.reduceBEq, reduceCtorEq, reduceIte, Int.reduceLE, Int.reduceLT, Int.reduceNeg, Int.reduceToNat, pick_t]
      (try simp only [push_cast, Nat.reduceAdd, Nat.reduceSub, Nat.reduceMul, Nat.reduceLT, Nat.reduceLeDiff, Nat.reduceEqDiff, Nat.reduceBEq, reduceCtorEq, reduceIte, Int.reduceLE, Int.reduceLT, Int.reduceNeg, Int.reduceToNat])
    · simp only [push_cast, Nat.reduceAdd, Nat.reduceSub, Nat.reduceMul, Nat.reduceLT, Nat.reduceLeDiff, Nat.reduceEqDiff, Nat.reduceBEq, reduceCtorEq, reduceIte, Int.reduceLE, Int.reduceLT, Int.reduceNeg, Int.reduceToNat, q, q2]
      refine gskip ?_
      simp only [push_cast, Nat.reduceAdd, Nat.reduceSub, Nat.reduceMul, Nat.reduceLT, Nat.reduceLeDiff, Nat.reduceEqDiff, Nat.reduceBEq, reduceCtorEq, reduceIte, Int.reduceLE, Int.reduceLT, Int.reduceNeg, Int.reduceToNat]
      refine gskip ?_
      simp only [push_cast, Nat.reduceAdd, Nat.reduceSub, Nat.reduceMul, Nat.reduceLT, Nat.reduceLeDiff, Nat.reduceEqDiff, Nat.reduceBEq, reduceCtorEq, reduceIte, Int.reduceLE, Int.reduceLT, Int.reduceNeg, Int.reduceToNat, pick_t]
      (try simp only [push_cast, Nat.reduceAdd, Nat.reduceSub, Nat.reduceMul, Nat.reduceLT, Nat.reduceLeDiff, Nat.reduceEqDiff, Nat.reduceBEq, reduceCtorEq, reduceIte, Int.reduceLE, Int.reduceLT, Int.reduceNeg, Int.reduceToNat])
    · simp only [push_cast, Nat.reduceAdd, Nat.reduceSub, Nat.reduceMul, Nat.reduceLT, Nat.reduceLeDiff, Nat.reduceEqDiff, Nat.reduceBEq, reduceCtorEq, reduceIte, Int.reduceLE, Int.reduceLT, Int.reduceNeg, Int.reduceToNat, q, q2, q3]
      refine gskip ?_
      simp only [push_cast, Nat.reduceAdd, Nat.reduceSub, Nat.reduceMul, Nat.reduceLT, Nat.reduceLeDiff, Nat.reduceEqDiff, Nat.reduceBEq, reduceCtorEq, reduceIte, Int.reduceLE, Int.reduceLT, Int.reduceNeg, Int.reduceToNat]
      refine gskip ?_
      simp only [push_cast, Nat.reduceAdd, Nat.reduceSub, Nat.reduceMul, Nat.reduceLT, Nat.reduceLeDiff, Nat.reduceEqDiff, Nat.reduceBEq, reduceCtorEq, reduceIte, Int.reduceLE, Int.reduceLT, Int.reduceNeg, Int.reduceToNat, pick_t]
      (try simp only [push_cast, Nat.reduceAdd, Nat.reduceSub, Nat.reduceMul, Nat.reduceLT, Nat.reduceLeDiff, Nat.reduceEqDiff, Nat.reduceBEq, reduceCtorEq, reduceIte, Int.reduceLE, Int.reduceLT, Int.reduceNeg, Int.reduceToNat])
  obtain ⟨hz1, hz2, hz3⟩ := hz
  have q1 : (sz e 12 ≤ 12) = True := eq_true hz1
  have q2 : (sz f 12 ≤ 12) = True := eq_true hz2
  have q3 : ((16 : Int) < (row.length : Int)) = False := by simp; omega
  have hbok : (both e f).Ok := .mk (by simp) (by intro x hx; simp at hx; rcases hx with rfl | rfl <;> assumption)
  have hook : (oneOf e f).Ok := .mk (by simp) (by intro x hx; simp at hx; rcases hx with rfl | rfl <;> assumption)
  have hbm := mayE_ok _ hbok
  simp only [both, encE_mk, List.map_cons, List.map_nil] at hbm
  simp only [push_cast, Nat.reduceAdd, Nat.reduceSub, Nat.reduceMul, Nat.reduceLT, Nat.reduceLeDiff, Nat.reduceEqDiff, Nat.reduceBEq, reduceCtorEq, reduceIte, Int.reduceLE, Int.reduceLT, Int.reduceNeg, Int.reduceToNat, q1, q2, q3]
  refine gcall trivial ?_
  refine fzk H 2 2 [.agg (encE (both e f))] (by rfl) (by omega) (by simp) ?_ ?_
  · (try simp only [push_cast, Nat.reduceAdd, Nat.reduceSub, Nat.reduceMul, Nat.reduceLT, Nat.reduceLeDiff, Nat.reduceEqDiff, Nat.reduceBEq, reduceCtorEq, reduceIte, Int.reduceLE, Int.reduceLT, Int.reduceNeg, Int.reduceToNat, both, List.set_cons_zero, List.set_cons_succ, List.map_cons, List.map_nil])
  refine callq (mayE_ok _ hbok) ?_
  simp only [push_cast, Nat.reduceAdd, Nat.reduceSub, Nat.reduceMul, Nat.reduceLT, Nat.reduceLeDiff, Nat.reduceEqDiff, Nat.reduceBEq, reduceCtorEq, reduceIte, Int.reduceLE, Int.reduceLT, Int.reduceNeg, Int.reduceToNat]
  refine ⟨fun h => ?_, fun h => ?_⟩
  · (try simp only [push_cast, Nat.reduceAdd, Nat.reduceSub, Nat.reduceMul, Nat.reduceLT, Nat.reduceLeDiff, Nat.reduceEqDiff, Nat.reduceBEq, reduceCtorEq, reduceIte, Int.reduceLE, Int.reduceLT, Int.reduceNeg, Int.reduceToNat])
    have hg : (!decide (sz e 12 ≤ 12) || !decide (sz f 12 ≤ 12) || decide (16 < row.length) || !(both e f).may) = true := by simp [h]
    simp only [bothLaw, hg, if_true]
  have hg : (!decide (sz e 12 ≤ 12) || !decide (sz f 12 ≤ 12) || decide (16 < row.length) || !(both e f).may) = false := by simp [h, hz1, hz2]; omega
  simp only [bothLaw, hg, Bool.false_eq_true, if_false]
  have hbmay : (both e f).may = true := by simpa using h
  have hemay : e.may = true := may_part hbmay (by simp)
  have hfmay : f.may = true := may_part hbmay (by simp)
  have hk1 := Keeps_ok (upto row.length) (by rw [upto_len]; omega) row hr e hok
  have hk2 := Keeps_ok (upto row.length) (by rw [upto_len]; omega) row hr f hokf
  have hk3 := Keeps_ok (upto row.length) (by rw [upto_len]; omega) row hr _ hbok
  have hk4 := Keeps_ok (upto row.length) (by rw [upto_len]; omega) row hr _ hook
  have hc1 := Cols_ok e hok (by have := may_cnt hemay; omega)
  have hc2 := Cols_ok f hokf (by have := may_cnt hfmay; omega)
  have hc3 := Cols_ok _ hbok (by have := may_cnt hbmay; omega)
  have n1 : e.cols.length ≤ 30 := Nat.le_trans (cols_len _) (may_cnt hemay)
  have n2 : f.cols.length ≤ 30 := Nat.le_trans (cols_len _) (may_cnt hfmay)
  have n3 : (both e f).cols.length ≤ 30 := Nat.le_trans (cols_len _) (may_cnt hbmay)
  generalize e.keeps (upto row.length) row = k1 at hk1 ⊢
  generalize f.keeps (upto row.length) row = k2 at hk2 ⊢
  generalize (both e f).keeps (upto row.length) row = k3 at hk3 ⊢
  generalize (oneOf e f).keeps (upto row.length) row = k4 at hk4 ⊢
  generalize e.cols = l1 at hc1 n1 ⊢
  generalize f.cols = l2 at hc2 n2 ⊢
  generalize (both e f).cols = l3 at hc3 n3 ⊢
  refine loop_ex hs (σ := Nat) (τ := Unit) (fun i => i ≤ row.length) (fun i => row.length - i)
    (fun i => [(12, .int i), (11, .rsl (H.nxt + 4) 1 0 i), (2, .sl (row.map encV)), (3, .ptr (H.nxt + 0) 5 0 0), (4, .ptr (H.nxt + 1) 5 0 0), (10, .ptr (H.nxt + 3) 5 0 0)])
    (fun i => [some (.cells 5 [encE e] 0), some (.cells 5 [encE f] 0), none, some (.cells 5 [encE (both e f)] 0), some (.cells 1 (rowI (upto i)) 0)]) [some 0, some 1, none, some 3, none] 0
    0 (fun _ => True) (fun _ => [(11, .sl ((upto row.length).map encI)), (2, .sl (row.map encV)), (3, .ptr (H.nxt + 0) 5 0 0), (4, .ptr (H.nxt + 1) 5 0 0), (10, .ptr (H.nxt + 2) 5 0 0)])
    (fun _ => [some (.cells 5 [encE e] 0), some (.cells 5 [encE f] 0), some (.cells 5 [encE (both e f)] 0)]) (by omega) rfl ?_ ?_ ?_ ?_
  · (try simp only [push_cast, Nat.reduceAdd, Nat.reduceSub, Nat.reduceMul, Nat.reduceLT, Nat.reduceLeDiff, Nat.reduceEqDiff, Nat.reduceBEq, reduceCtorEq, reduceIte, Int.reduceLE, Int.reduceLT, Int.reduceNeg, Int.reduceToNat, encVs_pure])
  · (try simp only [push_cast, Nat.reduceAdd, Nat.reduceSub, Nat.reduceMul, Nat.reduceLT, Nat.reduceLeDiff, Nat.reduceEqDiff, Nat.reduceBEq, reduceCtorEq, reduceIte, Int.reduceLE, Int.reduceLT, Int.reduceNeg, Int.reduceToNat, upto_zero, rowI_nil, both, List.map_cons, List.map_nil])
  · intro i hi2
    by_cases hi : i < row.length
    · have hi' : ((i : Int) < (row.length : Int)) = True := by simp; omega
      have hi0 : (0 ≤ (i : Int)) = True := by simp
      simp only [push_cast, Nat.reduceAdd, Nat.reduceSub, Nat.reduceMul, Nat.reduceLT, Nat.reduceLeDiff, Nat.reduceEqDiff, Nat.reduceBEq, reduceCtorEq, reduceIte, Int.reduceLE, Int.reduceLT, Int.reduceNeg, Int.reduceToNat, hi', hi0]
      refine ⟨by rw [upto_len]; omega, ?_⟩
      rw [wrap64 (n := (i : Int) + 1) (by omega) (by omega)]
      refine next_at [some 0, some 1, none, some 3, some 6] (i + 1) (by omega) (by omega) rfl ?_ ?_
      · (try simp only [push_cast, Nat.reduceAdd, Nat.reduceSub, Nat.reduceMul, Nat.reduceLT, Nat.reduceLeDiff, Nat.reduceEqDiff, Nat.reduceBEq, reduceCtorEq, reduceIte, Int.reduceLE, Int.reduceLT, Int.reduceNeg, Int.reduceToNat, encVs_pure])
      · (try simp only [push_cast, Nat.reduceAdd, Nat.reduceSub, Nat.reduceMul, Nat.reduceLT, Nat.reduceLeDiff, Nat.reduceEqDiff, Nat.reduceBEq, reduceCtorEq, reduceIte, Int.reduceLE, Int.reduceLT, Int.reduceNeg, Int.reduceToNat, take_rowI _ _ (Nat.le_of_eq (upto_len i)), upto_succ, rowI_pure, rowI_one])
    · have hi' : ((i : Int) < (row.length : Int)) = False := by simp; omega
      obtain rfl : i = row.length := by omega
      simp only [push_cast, Nat.reduceAdd, Nat.reduceSub, Nat.reduceMul, Nat.reduceLT, Nat.reduceLeDiff, Nat.reduceEqDiff, Nat.reduceBEq, reduceCtorEq, reduceIte, Int.reduceLE, Int.reduceLT, Int.reduceNeg, Int.reduceToNat, hi']
      refine exit_at [some 0, some 1, some 3] () trivial rfl ?_ ?_
      · (try simp only [push_cast, Nat.reduceAdd, Nat.reduceSub, Nat.reduceMul, Nat.reduceLT, Nat.reduceLeDiff, Nat.reduceEqDiff, Nat.reduceBEq, reduceCtorEq, reduceIte, Int.reduceLE, Int.reduceLT, Int.reduceNeg, Int.reduceToNat, take_rowI _ _ (Nat.le_of_eq (upto_len row.length)), encVs_pure, rowI_pure, encIs_pure])
        simp [upto_len]
      · (try simp only [push_cast, Nat.reduceAdd, Nat.reduceSub, Nat.reduceMul, Nat.reduceLT, Nat.reduceLeDiff, Nat.reduceEqDiff, Nat.reduceBEq, reduceCtorEq, reduceIte, Int.reduceLE, Int.reduceLT, Int.reduceNeg, Int.reduceToNat])
  · intro _ _
    simp only [push_cast, Nat.reduceAdd, Nat.reduceSub, Nat.reduceMul, Nat.reduceLT, Nat.reduceLeDiff, Nat.reduceEqDiff, Nat.reduceBEq, reduceCtorEq, reduceIte, Int.reduceLE, Int.reduceLT, Int.reduceNeg, Int.reduceToNat]
    refine callq hk1 ?_
    simp only [push_cast, Nat.reduceAdd, Nat.reduceSub, Nat.reduceMul, Nat.reduceLT, Nat.reduceLeDiff, Nat.reduceEqDiff, Nat.reduceBEq, reduceCtorEq, reduceIte, Int.reduceLE, Int.reduceLT, Int.reduceNeg, Int.reduceToNat]
    refine gcallq' (.bool k2) (fun h => h) (fun _ => hk2) ?_
    simp only [push_cast, Nat.reduceAdd, Nat.reduceSub, Nat.reduceMul, Nat.reduceLT, Nat.reduceLeDiff, Nat.reduceEqDiff, Nat.reduceBEq, reduceCtorEq, reduceIte, Int.reduceLE, Int.reduceLT, Int.reduceNeg, Int.reduceToNat]
    refine callq hk3 ?_
    simp only [push_cast, Nat.reduceAdd, Nat.reduceSub, Nat.reduceMul, Nat.reduceLT, Nat.reduceLeDiff, Nat.reduceEqDiff, Nat.reduceBEq, reduceCtorEq, reduceIte, Int.reduceLE, Int.reduceLT, Int.reduceNeg, Int.reduceToNat]
    refine fzk H 3 2 [.agg (encE (oneOf e f)), .sl ((upto row.length).map encI), .sl (row.map encV)] (by rfl) (by omega) (by simp) ?_ ?_
    · (try simp only [push_cast, Nat.reduceAdd, Nat.reduceSub, Nat.reduceMul, Nat.reduceLT, Nat.reduceLeDiff, Nat.reduceEqDiff, Nat.reduceBEq, reduceCtorEq, reduceIte, Int.reduceLE, Int.reduceLT, Int.reduceNeg, Int.reduceToNat, oneOf, List.set_cons_zero, List.set_cons_succ, List.map_cons, List.map_nil, encVs_pure, encIs_pure])
    refine callq hk4 ?_
    simp only [push_cast, Nat.reduceAdd, Nat.reduceSub, Nat.reduceMul, Nat.reduceLT, Nat.reduceLeDiff, Nat.reduceEqDiff, Nat.reduceBEq, reduceCtorEq, reduceIte, Int.reduceLE, Int.reduceLT, Int.reduceNeg, Int.reduceToNat]
    refine callq hc3 ?_
    simp only [push_cast, Nat.reduceAdd, Nat.reduceSub, Nat.reduceMul, Nat.reduceLT, Nat.reduceLeDiff, Nat.reduceEqDiff, Nat.reduceBEq, reduceCtorEq, reduceIte, Int.reduceLE, Int.reduceLT, Int.reduceNeg, Int.reduceToNat]
    have hlaw : ∀ b : Bool, b = ((k3 == (k1 && k2)) && (!(k1 && k2) || k4) && (k4 == (k1 || k2)) && decide (l3.length ≤ l1.length + l2.length)) → (!(l3.any fun c => !hasE c e && !hasE c f)) = true → b = if (l3.any fun c => !hasE c e && !hasE c f) = true then false else ((k3 == (k1 && k2)) && (!(k1 && k2) || k4) && (k4 == (k1 || k2)) && decide (l3.length ≤ l1.length + l2.length)) := by
      intro b hb hn
      rw [if_neg (by simpa using hn)]
      exact hb
    refine loop_at hs (σ := Nat) (fun i => i ≤ l3.length ∧ ((l3.take i).any fun c => !hasE c e && !hasE c f) = false) (fun i => l3.length - i)
      (fun i => [(17, .int i), (16, .sl (l3.map encI)), (13, .bool (k1 && k2)), (14, .bool k3), (15, .bool k4), (11, .sl ((upto row.length).map encI)), (2, .sl (row.map encV)), (3, .ptr (H.nxt + 0) 5 0 0), (4, .ptr (H.nxt + 1) 5 0 0)])
      (fun i => [some (.cells 5 [encE e] 0), some (.cells 5 [encE f] 0)]) [some 0, some 1] 0 ⟨by omega, by simp⟩ rfl ?_ ?_ ?_
    · (try simp only [push_cast, Nat.reduceAdd, Nat.reduceSub, Nat.reduceMul, Nat.reduceLT, Nat.reduceLeDiff, Nat.reduceEqDiff, Nat.reduceBEq, reduceCtorEq, reduceIte, Int.reduceLE, Int.reduceLT, Int.reduceNeg, Int.reduceToNat, encVs_pure, encIs_pure])
    · (try simp only [push_cast, Nat.reduceAdd, Nat.reduceSub, Nat.reduceMul, Nat.reduceLT, Nat.reduceLeDiff, Nat.reduceEqDiff, Nat.reduceBEq, reduceCtorEq, reduceIte, Int.reduceLE, Int.reduceLT, Int.reduceNeg, Int.reduceToNat])
    · rintro i ⟨h2, h3⟩
      by_cases hi : i < l3.length
      · have hi' : ((i : Int) < (l3.length : Int)) = True := by simp; omega
        have hi0 : (0 ≤ (i : Int)) = True := by simp
        have hh1 := has_ok e l3[i] hok
        have hh2 := has_ok f l3[i] hokf
        simp only [push_cast, Nat.reduceAdd, Nat.reduceSub, Nat.reduceMul, Nat.reduceLT, Nat.reduceLeDiff, Nat.reduceEqDiff, Nat.reduceBEq, reduceCtorEq, reduceIte, Int.reduceLE, Int.reduceLT, Int.reduceNeg, Int.reduceToNat, hi', hi0]
        refine areg_at 6 (by kernel_rfl) (by kernel_rfl) ?_
        simp only [push_cast, Nat.reduceAdd, Nat.reduceSub, Nat.reduceMul, Nat.reduceLT, Nat.reduceLeDiff, Nat.reduceEqDiff, Nat.reduceBEq, reduceCtorEq, reduceIte, Int.reduceLE, Int.reduceLT, Int.reduceNeg, Int.reduceToNat, hi', hi0, encIs_get l3 i hi, encI]
        refine ahdq hh1 ?_
        simp only [push_cast, Nat.reduceAdd, Nat.reduceSub, Nat.reduceMul, Nat.reduceLT, Nat.reduceLeDiff, Nat.reduceEqDiff, Nat.reduceBEq, reduceCtorEq, reduceIte, Int.reduceLE, Int.reduceLT, Int.reduceNeg, Int.reduceToNat]
        refine areg_at 6 (by kernel_rfl) (by kernel_rfl) ?_
        simp only [push_cast, Nat.reduceAdd, Nat.reduceSub, Nat.reduceMul, Nat.reduceLT, Nat.reduceLeDiff, Nat.reduceEqDiff, Nat.reduceBEq, reduceCtorEq, reduceIte, Int.reduceLE, Int.reduceLT, Int.reduceNeg, Int.reduceToNat, hi', hi0, encIs_get l3 i hi, encI]
        refine ahdq hh2 ?_
        simp only [push_cast, Nat.reduceAdd, Nat.reduceSub, Nat.reduceMul, Nat.reduceLT, Nat.reduceLeDiff, Nat.reduceEqDiff, Nat.reduceBEq, reduceCtorEq, reduceIte, Int.reduceLE, Int.reduceLT, Int.reduceNeg, Int.reduceToNat]
        refine ⟨fun hb => ?_, fun hb => ?_⟩
        · (try simp only [push_cast, Nat.reduceAdd, Nat.reduceSub, Nat.reduceMul, Nat.reduceLT, Nat.reduceLeDiff, Nat.reduceEqDiff, Nat.reduceBEq, reduceCtorEq, reduceIte, Int.reduceLE, Int.reduceLT, Int.reduceNeg, Int.reduceToNat])
          have hall : (l3.any fun c => !hasE c e && !hasE c f) = true := by
            rw [List.any_eq_true]
            exact ⟨l3[i], List.getElem_mem hi, by simpa using hb⟩
          simp [hall]
        · rw [wrap64 (n := (i : Int) + 1) (by omega) (by omega)]
          refine next_at [some 0, some 1] (i + 1) ⟨by omega, ?_⟩ (by omega) rfl ?_ ?_
          · rw [List.take_succ_eq_append_getElem hi, List.any_append, h3]
            simpa using hb
          · (try simp only [push_cast, Nat.reduceAdd, Nat.reduceSub, Nat.reduceMul, Nat.reduceLT, Nat.reduceLeDiff, Nat.reduceEqDiff, Nat.reduceBEq, reduceCtorEq, reduceIte, Int.reduceLE, Int.reduceLT, Int.reduceNeg, Int.reduceToNat, encVs_pure, encIs_pure])
          · (try simp only [push_cast, Nat.reduceAdd, Nat.reduceSub, Nat.reduceMul, Nat.reduceLT, Nat.reduceLeDiff, Nat.reduceEqDiff, Nat.reduceBEq, reduceCtorEq, reduceIte, Int.reduceLE, Int.reduceLT, Int.reduceNeg, Int.reduceToNat])
      · have hi' : ((i : Int) < (l3.length : Int)) = False := by simp; omega
        rw [List.take_of_length_le (by omega)] at h3
        simp only [push_cast, Nat.reduceAdd, Nat.reduceSub, Nat.reduceMul, Nat.reduceLT, Nat.reduceLeDiff, Nat.reduceEqDiff, Nat.reduceBEq, reduceCtorEq, reduceIte, Int.reduceLE, Int.reduceLT, Int.reduceNeg, Int.reduceToNat, hi']
        refine areg_at 36 (by kernel_rfl) (by kernel_rfl) ?_
        simp only [push_cast, Nat.reduceAdd, Nat.reduceSub, Nat.reduceMul, Nat.reduceLT, Nat.reduceLeDiff, Nat.reduceEqDiff, Nat.reduceBEq, reduceCtorEq, reduceIte, Int.reduceLE, Int.reduceLT, Int.reduceNeg, Int.reduceToNat]
        refine ⟨fun h => ⟨h, fun h' => both_g _ _ _ h h'⟩, gcallq (.bool k1) (fun _ => hk1) ?_⟩
        simp only [push_cast, Nat.reduceAdd, Nat.reduceSub, Nat.reduceMul, Nat.reduceLT, Nat.reduceLeDiff, Nat.reduceEqDiff, Nat.reduceBEq, reduceCtorEq, reduceIte, Int.reduceLE, Int.reduceLT, Int.reduceNeg, Int.reduceToNat]
        refine gcallq (.bool k2) (fun _ => hk2) ?_
        simp only [push_cast, Nat.reduceAdd, Nat.reduceSub, Nat.reduceMul, Nat.reduceLT, Nat.reduceLeDiff, Nat.reduceEqDiff, Nat.reduceBEq, reduceCtorEq, reduceIte, Int.reduceLE, Int.reduceLT, Int.reduceNeg, Int.reduceToNat]
        refine ⟨fun h => ⟨h, fun h' => by rw [h, h']; rfl⟩, gcallq _ (fun _ => hc1) ?_⟩
        simp only [push_cast, Nat.reduceAdd, Nat.reduceSub, Nat.reduceMul, Nat.reduceLT, Nat.reduceLeDiff, Nat.reduceEqDiff, Nat.reduceBEq, reduceCtorEq, reduceIte, Int.reduceLE, Int.reduceLT, Int.reduceNeg, Int.reduceToNat]
        refine gcallq _ (fun _ => hc2) ?_
        simp only [push_cast, Nat.reduceAdd, Nat.reduceSub, Nat.reduceMul, Nat.reduceLT, Nat.reduceLeDiff, Nat.reduceEqDiff, Nat.reduceBEq, reduceCtorEq, reduceIte, Int.reduceLE, Int.reduceLT, Int.reduceNeg, Int.reduceToNat]
        rw [wrap64 (n := (l1.length : Int) + l2.length) (by omega) (by omega), h3, if_neg (by simp)]
        have hdl : decide ((l3.length : Int) ≤ (l1.length : Int) + l2.length) = decide (l3.length ≤ l1.length + l2.length) := by rw [decide_eq_decide]; omega
        rw [hdl]
        cases k1 <;> cases k2 <;> rfl
end Go.Sim.Try
