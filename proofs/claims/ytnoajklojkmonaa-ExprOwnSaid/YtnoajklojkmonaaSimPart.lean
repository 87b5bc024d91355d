/- The law ExprPart, walked. Conditions: none. -/
import Derived.Test.YtnoajklojkmonaaSimLaw02
import Derived.Test.YtnoajklojkmonaaPurExpr
set_option linter.unusedSimpArgs false
set_option linter.unusedVariables false
set_option maxRecDepth 100000
namespace Go.Sim.Try
open Go Go.Sim
attribute [local push_cast] aops_cons aops_nil aopG_none aopG_some aopP_eq aopE_eq aopC_eq aopE?_eq aopC?_eq gopP_eq gopL_eq ahead_cons ahead_nil ahdG_none ahdG_some ahdP_eq ahdN_eq ahdC_eq ahdN?_eq ahdS_eq ahdS?_eq astoreN ahdC?_eq ghdP_eq ghdC_eq ghdC?_eq opt_some opt_none no_eq acondT_true acondT_false acondT_lit aw_skip aw_region aw_regionD aw_seq aw_cond aw_block aw_loop aw_exit aw_label aw_ret thn_normal thn_exit thn_ret inb_normal inb_exit inb_ret qret_ret qret_normal gcond apure aeff anew acallee ares aresT aresL aresC ares1 qfin_eq ev ofV evL gokL tget tput_some tput_none initT abin aint aun aload afaddr aiaddr afield aindex aextract apick pickv_lit Bool.or_false Bool.false_or Bool.or_true Bool.true_or imp_self aslice abound aconv abuild afill splice alen aminmax abuiltin anil apart Value.oneCell' astore aappend srcEs abuildSlice asets isEq plus_obj plus_nxt plus_add plus_set plus_del IntKind.bits Option.map_some Option.map_none Option.bind_some Option.bind_none Option.join_some Option.getD_some Option.getD_none Option.toList Option.isSome_some List.getElem?_toArray List.getElem?_cons_zero List.getElem?_cons_succ List.getElem?_nil List.length_cons List.length_nil List.length_map List.head?_cons List.cons_append List.nil_append List.append_nil List.map_cons List.map_nil List.getD_cons_zero List.getD_cons_succ List.replicate_succ List.replicate_zero List.set_cons_zero List.set_cons_succ List.take_succ_cons List.take_zero List.drop_succ_cons List.drop_zero List.all_cons List.all_nil Nat.zero_add if_true if_false true_and and_true false_and and_false true_implies implies_true forall_const Bool.and_true Bool.true_and Bool.false_and Bool.and_false Bool.true_beq Bool.false_beq Bool.not_not beq_tt beq_ff Int.toNat_natCast decide_true decide_false Bool.not_true Bool.not_false Bool.true_eq_false Bool.false_eq_true false_implies exists_prop eq_self bne_self_eq_false beq_self_eq_true decide_eq_true_eq decide_eq_false_iff_not Bool.not_eq_true' Bool.not_eq_false' AV.int AV.bool AV.nilS ne_eq not_false_eq_true not_true_eq_false exists_eq_left exists_eq_left' Nat.lt_irrefl core_lit grd_lit acells_lit one_lit core_agg grd_agg acells_agg one_agg core_tup grd_tup acells_tup one_tup core_sl grd_sl acells_sl one_sl core_esl grd_esl acells_esl one_esl core_rsl grd_rsl acells_rsl one_rsl core_ptr grd_ptr acells_ptr one_ptr core_iptr grd_iptr acells_iptr one_iptr core_clo grd_clo acells_clo one_clo core_mp grd_mp acells_mp one_mp core_any grd_any acells_any one_any core_gv grd_gv fit_agg fit_lit fit_sl fit_esl fit_rsl fit_ptr fit_iptr fit_clo fit_mp retq_ret retq_normal set_nxt set_set plus_obj_set plus_set_set app_get0 app_get app_set0 app_set List.append_assoc List.length_append List.length_set Nat.lt_add_one Nat.add_lt_add_iff_right Nat.lt_add_right_iff_pos Nat.add_lt_add_iff_left List.mem_cons List.not_mem_nil or_false forall_eq forall_eq_or_imp lt_s0 lt_s1 lt_s2 lt_s3 lt_s4 lt_s5 lt_s6 lt_s7 lt_s8 SealT SealOs sealO_cells sl_lit sl_any sl_agg sl_tup sl_sl sl_rsl slO sl_esl sl_nil sl_eslesl sl_eslnil sl_rslrsl sl_eslrsl sl_nilrsl sl_ptr sl_iptr sl_ptri slP sl_clo sl_mp sl_gv sll_nil sll_cons slll_nil slll_cons shut_eq shutO Option.join_none Fn.func.injEq and_self sealL_self sealLL_self seal_self PureL PureLL Pure Nat.le_refl Nat.zero_le AV.lit.injEq Value.int.injEq Value.bool.injEq false_or or_true true_or Int.natCast_zero Int.ofNat_zero Int.cast_ofNat_Int Int.natCast_add Int.natCast_one Option.some.injEq piL_is sop_nil sop_cons sop_none sop_some sopO_some sop_new shut_pi shutL_nil shutL_cons exQ_exit exQ_ret exQ_normal Go.Sim.Try.ty_load1 Go.Sim.Try.ty_zero1 Go.Sim.Try.ty_load2 Go.Sim.Try.ty_zero2 Go.Sim.Try.ty_und2 Go.Sim.Try.ty_load3 Go.Sim.Try.ty_zero3 Go.Sim.Try.ty_und3 Go.Sim.Try.ty_load4 Go.Sim.Try.ty_zero4 Go.Sim.Try.ty_und4 Go.Sim.Try.ty_load5 Go.Sim.Try.ty_zero5 Go.Sim.Try.ty_und5 Go.Sim.Try.ty_load9 Go.Sim.Try.ty_zero9 Go.Sim.Try.ty_und9 Go.Sim.Try.ty_load21 Go.Sim.Try.ty_zero21 Go.Sim.Try.ty_und21 Go.Sim.Try.ty_load22 Go.Sim.Try.ty_zero22 Go.Sim.Try.ty_el22 Go.Sim.Try.ty_zeroE22 Go.Sim.Try.ty_load24 Go.Sim.Try.ty_zero24 Go.Sim.Try.ty_fld24_0 Go.Sim.Try.ty_part24_0 Go.Sim.Try.ty_fld24_1 Go.Sim.Try.ty_part24_1 Go.Sim.Try.ty_struct24 Go.Sim.Try.ty_load27 Go.Sim.Try.ty_zero27 Go.Sim.Try.ty_load32 Go.Sim.Try.ty_zero32 Go.Sim.Try.ty_load38 Go.Sim.Try.ty_zero38 Go.Sim.Try.ty_fld38_0 Go.Sim.Try.ty_part38_0 Go.Sim.Try.ty_fld38_1 Go.Sim.Try.ty_part38_1 Go.Sim.Try.ty_struct38 Go.Sim.Try.ty_load39 Go.Sim.Try.ty_zero39 Go.Sim.Try.ty_el39 Go.Sim.Try.ty_zeroE39 Go.Sim.Try.ty_load41 Go.Sim.Try.ty_zero41 Go.Sim.Try.ty_fld41_0 Go.Sim.Try.ty_part41_0 Go.Sim.Try.ty_fld41_1 Go.Sim.Try.ty_part41_1 Go.Sim.Try.ty_fld41_2 Go.Sim.Try.ty_part41_2 Go.Sim.Try.ty_fld41_3 Go.Sim.Try.ty_part41_3 Go.Sim.Try.ty_struct41 Go.Sim.Try.ty_load42 Go.Sim.Try.ty_zero42 Go.Sim.Try.ty_el42 Go.Sim.Try.ty_zeroE42 Go.Sim.Try.ty_load43 Go.Sim.Try.ty_zero43 Go.Sim.Try.ty_load45 Go.Sim.Try.ty_zero45 Go.Sim.Try.ty_el45 Go.Sim.Try.ty_zeroE45 Go.Sim.Try.ty_load51 Go.Sim.Try.ty_zero51 Go.Sim.Try.ty_load64 Go.Sim.Try.ty_zero64 Go.Sim.Try.ty_load67 Go.Sim.Try.ty_zero67 Go.Sim.Try.ty_fld67_0 Go.Sim.Try.ty_part67_0 Go.Sim.Try.ty_struct67 Go.Sim.Try.ty_load69 Go.Sim.Try.ty_zero69 Go.Sim.Try.ty_und69 Go.Sim.Try.ty_load76 Go.Sim.Try.ty_zero76 Go.Sim.Try.ty_el76 Go.Sim.Try.ty_zeroE76 Go.Sim.Try.ty_load83 Go.Sim.Try.ty_zero83 Go.Sim.Try.ty_fld83_0 Go.Sim.Try.ty_part83_0 Go.Sim.Try.ty_fld83_1 Go.Sim.Try.ty_part83_1 Go.Sim.Try.ty_fld83_2 Go.Sim.Try.ty_part83_2 Go.Sim.Try.ty_struct83 Go.Sim.Try.ty_load87 Go.Sim.Try.ty_zero87 Go.Sim.Try.ty_und87 Go.Sim.Try.ty_load90 Go.Sim.Try.ty_zero90 Go.Sim.Try.ty_load94 Go.Sim.Try.ty_zero94 Go.Sim.Try.ty_und94 Go.Sim.Try.ty_load102 Go.Sim.Try.ty_zero102 Go.Sim.Try.ty_und102 Go.Sim.Try.ty_load104 Go.Sim.Try.ty_zero104 Go.Sim.Try.ty_und104 Go.Sim.Try.ty_load106 Go.Sim.Try.ty_zero106 Go.Sim.Try.ty_load115 Go.Sim.Try.ty_zero115 Go.Sim.Try.ty_und115 Go.Sim.Try.ty_load119 Go.Sim.Try.ty_zero119 encE_mk encE_take encE_len encV encE_one encEs_pure encE_pure

/-- 0, 1, .. -/
def upto (n : Nat) : List Int := (List.range n).map Int.ofNat
theorem upto_len (n : Nat) : (upto n).length = n := by simp [upto]
theorem upto_zero : upto 0 = [] := rfl
theorem rowI_nil : rowI [] = [] := rfl
theorem upto_succ (n : Nat) : rowI (upto n) ++ [[.lit (.int .i64 (n : Int))]] = rowI (upto (n + 1)) := by
  simp only [upto, rowI, List.range_succ, List.map_append, List.map_cons, List.map_nil]
  rfl
theorem take_rowI (l : List Int) (n : Nat) (h : l.length ≤ n) : List.take n (rowI l) = rowI l := List.take_of_length_le (by simpa [rowI] using h)
theorem rowI_pure (l : List Int) : PureLL (rowI l) := encIs_pure l
theorem rowI_one (l : List Int) : (∀ e ∈ rowI l, e.length = 1) = True := by
  simp only [rowI, List.mem_map, eq_iff_iff, iff_true]
  rintro _ ⟨x, _, rfl⟩
  rfl

/-- What the law tells, in plain Lean. -/
def partLaw (e : Ex) (row : List Vl) : Bool :=
  if !decide (sz e 29 ≤ 29) || decide (16 < row.length) || !e.may then true
  else if !(e.l.all Ex.may) then false
  else if !(Ex.mk 10 0 0 0 [e]).may then true
  else (((Ex.mk 10 0 0 0 [e]).keeps (upto row.length) row == ((e.eval (upto row.length) row).may && decide ((e.eval (upto row.length) row).k = 0) && decide ((e.eval (upto row.length) row).n = 0))) && decide ((Ex.mk 10 0 0 0 [e]).cols = e.cols))

theorem exprPart_ok (e : Ex) (hok : e.Ok) (row : List Vl) (hr : row.length ≤ 140737488355328) : Quiet Go.Proofs.Try.prog 10 [.agg (encE e), .sl (row.map encV)] (.bool (partLaw e row)) := by
  refine quiet_of (rs := #[.tmp 4]) Go.Proofs.Try.func10 rfl rfl rfl mixed rfl rfl fun H hs => ?_
  simp only [push_cast, Nat.reduceAdd, Nat.reduceSub, Nat.reduceMul, Nat.reduceLT, Nat.reduceLeDiff, Nat.reduceEqDiff, Nat.reduceBEq, reduceCtorEq, reduceIte, Int.reduceLE, Int.reduceLT, Int.reduceNeg, Int.reduceToNat]
  refine callq awake_ok ?_
  simp only [push_cast, Nat.reduceAdd, Nat.reduceSub, Nat.reduceMul, Nat.reduceLT, Nat.reduceLeDiff, Nat.reduceEqDiff, Nat.reduceBEq, reduceCtorEq, reduceIte, Int.reduceLE, Int.reduceLT, Int.reduceNeg, Int.reduceToNat]
  refine callq (few_ok e hok 29 (by decide) (by decide)) ?_
  simp only [push_cast, Nat.reduceAdd, Nat.reduceSub, Nat.reduceMul, Nat.reduceLT, Nat.reduceLeDiff, Nat.reduceEqDiff, Nat.reduceBEq, reduceCtorEq, reduceIte, Int.reduceLE, Int.reduceLT, Int.reduceNeg, Int.reduceToNat]
  refine gcallq' (.bool e.may) (fun h => by grind) (fun _ => mayE_ok e hok) ?_
  simp only [push_cast, Nat.reduceAdd, Nat.reduceSub, Nat.reduceMul, Nat.reduceLT, Nat.reduceLeDiff, Nat.reduceEqDiff, Nat.reduceBEq, reduceCtorEq, reduceIte, Int.reduceLE, Int.reduceLT, Int.reduceNeg, Int.reduceToNat]
  refine ⟨fun h => ?_, fun h => ?_⟩
  · (try simp only [push_cast, Nat.reduceAdd, Nat.reduceSub, Nat.reduceMul, Nat.reduceLT, Nat.reduceLeDiff, Nat.reduceEqDiff, Nat.reduceBEq, reduceCtorEq, reduceIte, Int.reduceLE, Int.reduceLT, Int.reduceNeg, Int.reduceToNat])
    have hg : (!decide (sz e 29 ≤ 29) || decide (16 < row.length) || !e.may) = true := by grind
    simp only [partLaw, hg, if_true]
  have hg : (!decide (sz e 29 ≤ 29) || decide (16 < row.length) || !e.may) = false := by grind
  have hmay : e.may = true := by grind
  have hrl : row.length ≤ 16 := by grind
  have hp : partLaw e row = if !(e.l.all Ex.may) then false
    else if !(Ex.mk 10 0 0 0 [e]).may then true
    else (((Ex.mk 10 0 0 0 [e]).keeps (upto row.length) row == ((e.eval (upto row.length) row).may && decide ((e.eval (upto row.length) row).k = 0) && decide ((e.eval (upto row.length) row).n = 0))) && decide ((Ex.mk 10 0 0 0 [e]).cols = e.cols)) := by
    simp only [partLaw, hg, Bool.false_eq_true, if_false]
  rw [hp]
  clear hp
  obtain ⟨op, col, k, n, l⟩ := e
  have hok' := hok
  obtain ⟨hl, hlo⟩ := hok'
  simp only [Ex.l]
  refine loop_rule hs (σ := Nat) (fun i => i ≤ l.length ∧ (l.take i).all Ex.may = true) (fun i => l.length - i)
    (fun i => [(2, .ptr (H.nxt + 0) 5 0 0), (1, .sl (row.map encV)), (7, .int i)]) (fun _ => [some (.cells 5 [encE (.mk op col k n l)] 0)]) 0 ⟨by omega, by simp⟩ ?_ ?_ ?_
  · (try simp only [push_cast, Nat.reduceAdd, Nat.reduceSub, Nat.reduceMul, Nat.reduceLT, Nat.reduceLeDiff, Nat.reduceEqDiff, Nat.reduceBEq, reduceCtorEq, reduceIte, Int.reduceLE, Int.reduceLT, Int.reduceNeg, Int.reduceToNat, encVs_pure])
  · (try simp only [push_cast, Nat.reduceAdd, Nat.reduceSub, Nat.reduceMul, Nat.reduceLT, Nat.reduceLeDiff, Nat.reduceEqDiff, Nat.reduceBEq, reduceCtorEq, reduceIte, Int.reduceLE, Int.reduceLT, Int.reduceNeg, Int.reduceToNat])
  · rintro i ⟨h2, h3⟩
    by_cases hi : i < l.length
    · have hi' : ((i : Int) < (l.length : Int)) = True := by simp; omega
      have hi0 : (0 ≤ (i : Int)) = True := by simp
      simp only [push_cast, Nat.reduceAdd, Nat.reduceSub, Nat.reduceMul, Nat.reduceLT, Nat.reduceLeDiff, Nat.reduceEqDiff, Nat.reduceBEq, reduceCtorEq, reduceIte, Int.reduceLE, Int.reduceLT, Int.reduceNeg, Int.reduceToNat, hi', hi0, encEs_get l i hi]
      refine callq (mayE_ok _ (hlo _ (List.getElem_mem hi))) ?_
      simp only [push_cast, Nat.reduceAdd, Nat.reduceSub, Nat.reduceMul, Nat.reduceLT, Nat.reduceLeDiff, Nat.reduceEqDiff, Nat.reduceBEq, reduceCtorEq, reduceIte, Int.reduceLE, Int.reduceLT, Int.reduceNeg, Int.reduceToNat]
      refine ⟨fun hb => ?_, fun hb => ?_⟩
      · (try simp only [push_cast, Nat.reduceAdd, Nat.reduceSub, Nat.reduceMul, Nat.reduceLT, Nat.reduceLeDiff, Nat.reduceEqDiff, Nat.reduceBEq, reduceCtorEq, reduceIte, Int.reduceLE, Int.reduceLT, Int.reduceNeg, Int.reduceToNat])
        have hall : l.all Ex.may = false := by
          rw [List.all_eq_false]
          exact ⟨l[i], List.getElem_mem hi, by simpa using hb⟩
        simp [hall]
      · rw [wrap64 (n := (i : Int) + 1) (by omega) (by omega)]
        refine next_intro (i + 1) ⟨by omega, ?_⟩ (by omega) ?_ ?_
        · rw [List.take_succ_eq_append_getElem hi, List.all_append, h3]
          simpa using hb
        · (try simp only [push_cast, Nat.reduceAdd, Nat.reduceSub, Nat.reduceMul, Nat.reduceLT, Nat.reduceLeDiff, Nat.reduceEqDiff, Nat.reduceBEq, reduceCtorEq, reduceIte, Int.reduceLE, Int.reduceLT, Int.reduceNeg, Int.reduceToNat, encVs_pure])
        · (try simp only [push_cast, Nat.reduceAdd, Nat.reduceSub, Nat.reduceMul, Nat.reduceLT, Nat.reduceLeDiff, Nat.reduceEqDiff, Nat.reduceBEq, reduceCtorEq, reduceIte, Int.reduceLE, Int.reduceLT, Int.reduceNeg, Int.reduceToNat])
    · have hi' : ((i : Int) < (l.length : Int)) = False := by simp; omega
      rw [List.take_of_length_le (by omega)] at h3
      simp only [push_cast, Nat.reduceAdd, Nat.reduceSub, Nat.reduceMul, Nat.reduceLT, Nat.reduceLeDiff, Nat.reduceEqDiff, Nat.reduceBEq, reduceCtorEq, reduceIte, Int.reduceLE, Int.reduceLT, Int.reduceNeg, Int.reduceToNat, hi']
      refine loop_at hs (σ := Nat) (fun i => i ≤ row.length) (fun i => row.length - i)
        (fun i => [(9, .int i), (8, .rsl (H.nxt + 1) 1 0 i), (1, .sl (row.map encV)), (2, .ptr (H.nxt + 0) 5 0 0)]) (fun i => [some (.cells 5 [encE (.mk op col k n l)] 0), some (.cells 1 (rowI (upto i)) 0)]) [some 0, none] 0 (by omega) rfl ?_ ?_ ?_
      · (try simp only [push_cast, Nat.reduceAdd, Nat.reduceSub, Nat.reduceMul, Nat.reduceLT, Nat.reduceLeDiff, Nat.reduceEqDiff, Nat.reduceBEq, reduceCtorEq, reduceIte, Int.reduceLE, Int.reduceLT, Int.reduceNeg, Int.reduceToNat, encVs_pure])
      · (try simp only [push_cast, Nat.reduceAdd, Nat.reduceSub, Nat.reduceMul, Nat.reduceLT, Nat.reduceLeDiff, Nat.reduceEqDiff, Nat.reduceBEq, reduceCtorEq, reduceIte, Int.reduceLE, Int.reduceLT, Int.reduceNeg, Int.reduceToNat, upto_zero, rowI_nil])
      · intro i hi2
        by_cases hi : i < row.length
        · have hi' : ((i : Int) < (row.length : Int)) = True := by simp; omega
          have hi0 : (0 ≤ (i : Int)) = True := by simp
          simp only [push_cast, Nat.reduceAdd, Nat.reduceSub, Nat.reduceMul, Nat.reduceLT, Nat.reduceLeDiff, Nat.reduceEqDiff, Nat.reduceBEq, reduceCtorEq, reduceIte, Int.reduceLE, Int.reduceLT, Int.reduceNeg, Int.reduceToNat, hi', hi0]
          refine ⟨by rw [upto_len]; omega, ?_⟩
          rw [wrap64 (n := (i : Int) + 1) (by omega) (by omega)]
          refine next_at [some 0, some 3] (i + 1) (by omega) (by omega) rfl ?_ ?_
          · (try simp only [push_cast, Nat.reduceAdd, Nat.reduceSub, Nat.reduceMul, Nat.reduceLT, Nat.reduceLeDiff, Nat.reduceEqDiff, Nat.reduceBEq, reduceCtorEq, reduceIte, Int.reduceLE, Int.reduceLT, Int.reduceNeg, Int.reduceToNat, encVs_pure])
          · (try simp only [push_cast, Nat.reduceAdd, Nat.reduceSub, Nat.reduceMul, Nat.reduceLT, Nat.reduceLeDiff, Nat.reduceEqDiff, Nat.reduceBEq, reduceCtorEq, reduceIte, Int.reduceLE, Int.reduceLT, Int.reduceNeg, Int.reduceToNat, take_rowI _ _ (Nat.le_of_eq (upto_len i)), upto_succ, rowI_pure, rowI_one])
        · have hi' : ((i : Int) < (row.length : Int)) = False := by simp; omega
          obtain rfl : i = row.length := by omega
          simp only [push_cast, Nat.reduceAdd, Nat.reduceSub, Nat.reduceMul, Nat.reduceLT, Nat.reduceLeDiff, Nat.reduceEqDiff, Nat.reduceBEq, reduceCtorEq, reduceIte, Int.reduceLE, Int.reduceLT, Int.reduceNeg, Int.reduceToNat, hi']
          have hul : (upto row.length).length = row.length := upto_len _
          have hnok : (Ex.mk 10 0 0 0 [Ex.mk op col k n l]).Ok := .mk (by simp) (by simpa using hok)
          refine fzk H 1 row.length [.agg (encE (.mk op col k n l)), .sl ((upto row.length).map encI), .sl (row.map encV)] (by rfl) (by omega) (by simp [rowI, hul]) ?_ ?_
          · (try simp only [push_cast, Nat.reduceAdd, Nat.reduceSub, Nat.reduceMul, Nat.reduceLT, Nat.reduceLeDiff, Nat.reduceEqDiff, Nat.reduceBEq, reduceCtorEq, reduceIte, Int.reduceLE, Int.reduceLT, Int.reduceNeg, Int.reduceToNat, take_rowI _ _ (Nat.le_of_eq (upto_len row.length)), rowI_pure, rowI_one, List.set_cons_zero, List.set_cons_succ, encVs_pure])
            simp [hul]
          refine callq (Eval_ok _ (by omega) row hr _ hok) ?_
          simp only [push_cast, Nat.reduceAdd, Nat.reduceSub, Nat.reduceMul, Nat.reduceLT, Nat.reduceLeDiff, Nat.reduceEqDiff, Nat.reduceBEq, reduceCtorEq, reduceIte, Int.reduceLE, Int.reduceLT, Int.reduceNeg, Int.reduceToNat]
          refine fzk H 2 1 [.agg (encE (.mk 10 0 0 0 [.mk op col k n l]))] (by rfl) (by omega) (by simp) ?_ ?_
          · (try simp only [push_cast, Nat.reduceAdd, Nat.reduceSub, Nat.reduceMul, Nat.reduceLT, Nat.reduceLeDiff, Nat.reduceEqDiff, Nat.reduceBEq, reduceCtorEq, reduceIte, Int.reduceLE, Int.reduceLT, Int.reduceNeg, Int.reduceToNat, List.set_cons_zero, List.set_cons_succ, List.map_cons, List.map_nil])
          refine callq (mayE_ok _ hnok) ?_
          simp only [push_cast, Nat.reduceAdd, Nat.reduceSub, Nat.reduceMul, Nat.reduceLT, Nat.reduceLeDiff, Nat.reduceEqDiff, Nat.reduceBEq, reduceCtorEq, reduceIte, Int.reduceLE, Int.reduceLT, Int.reduceNeg, Int.reduceToNat]
          refine ⟨fun hb => ?_, fun hb => ?_⟩
          · (try simp only [push_cast, Nat.reduceAdd, Nat.reduceSub, Nat.reduceMul, Nat.reduceLT, Nat.reduceLeDiff, Nat.reduceEqDiff, Nat.reduceBEq, reduceCtorEq, reduceIte, Int.reduceLE, Int.reduceLT, Int.reduceNeg, Int.reduceToNat])
            simp [h3, hb]
          rw [if_neg (by simp [h3]), if_neg (by simp [hb])]
          have hvm := may_ok ((Ex.mk op col k n l).eval (upto row.length) row)
          generalize hv : (Ex.mk op col k n l).eval (upto row.length) row = v at hvm
          refine areg_wk hs 24 [(10, .ptr (H.nxt + 3) 5 0 0), (2, .ptr (H.nxt + 0) 5 0 0), (8, .sl ((upto row.length).map encI)), (1, .sl (row.map encV)), (11, .ptr (H.nxt + 4) 2 0 0)]
            [some (.cells 5 [encE (.mk op col k n l)] 0), none, none, some (.cells 5 [encE (.mk 10 0 0 0 [.mk op col k n l])] 0), some (.cells 2 [encV v] 0)] (by kernel_rfl) (by kernel_rfl) ?_ ?_ ?_
          · (try simp only [push_cast, Nat.reduceAdd, Nat.reduceSub, Nat.reduceMul, Nat.reduceLT, Nat.reduceLeDiff, Nat.reduceEqDiff, Nat.reduceBEq, reduceCtorEq, reduceIte, Int.reduceLE, Int.reduceLT, Int.reduceNeg, Int.reduceToNat, List.set_cons_zero, List.set_cons_succ, List.map_cons, List.map_nil, encVs_pure, take_rowI _ _ (Nat.le_of_eq (upto_len row.length)), rowI_pure, rowI_one])
            simp [hul]
          · (try simp only [push_cast, Nat.reduceAdd, Nat.reduceSub, Nat.reduceMul, Nat.reduceLT, Nat.reduceLeDiff, Nat.reduceEqDiff, Nat.reduceBEq, reduceCtorEq, reduceIte, Int.reduceLE, Int.reduceLT, Int.reduceNeg, Int.reduceToNat, List.set_cons_zero, List.set_cons_succ, List.map_cons, List.map_nil, encVs_pure])
          simp only [push_cast, Nat.reduceAdd, Nat.reduceSub, Nat.reduceMul, Nat.reduceLT, Nat.reduceLeDiff, Nat.reduceEqDiff, Nat.reduceBEq, reduceCtorEq, reduceIte, Int.reduceLE, Int.reduceLT, Int.reduceNeg, Int.reduceToNat, List.map_cons, List.map_nil]
          have hk := Keeps_ok (upto row.length) (by omega) row hr _ hnok
          simp only [encE_mk, List.map_cons, List.map_nil] at hk
          refine ahdq hk ?_
          simp only [push_cast, Nat.reduceAdd, Nat.reduceSub, Nat.reduceMul, Nat.reduceLT, Nat.reduceLeDiff, Nat.reduceEqDiff, Nat.reduceBEq, reduceCtorEq, reduceIte, Int.reduceLE, Int.reduceLT, Int.reduceNeg, Int.reduceToNat]
          refine ahdq hvm ?_
          have c1 := may_cnt hb
          have c2 := may_cnt hmay
          have c3 := cols_len (Ex.mk 10 0 0 0 [Ex.mk op col k n l])
          have c4 := cols_len (Ex.mk op col k n l)
          have hc1 := Cols_ok _ hnok (by omega)
          have hc2 := Cols_ok _ hok (by omega)
          simp only [encE_mk, List.map_cons, List.map_nil] at hc1 hc2
          simp only [push_cast, Nat.reduceAdd, Nat.reduceSub, Nat.reduceMul, Nat.reduceLT, Nat.reduceLeDiff, Nat.reduceEqDiff, Nat.reduceBEq, reduceCtorEq, reduceIte, Int.reduceLE, Int.reduceLT, Int.reduceNeg, Int.reduceToNat]
          refine gcallq _ (fun _ => hc1) ?_
          simp only [push_cast, Nat.reduceAdd, Nat.reduceSub, Nat.reduceMul, Nat.reduceLT, Nat.reduceLeDiff, Nat.reduceEqDiff, Nat.reduceBEq, reduceCtorEq, reduceIte, Int.reduceLE, Int.reduceLT, Int.reduceNeg, Int.reduceToNat]
          refine gcallq _ (fun _ => hc2) ?_
          simp only [push_cast, Nat.reduceAdd, Nat.reduceSub, Nat.reduceMul, Nat.reduceLT, Nat.reduceLeDiff, Nat.reduceEqDiff, Nat.reduceBEq, reduceCtorEq, reduceIte, Int.reduceLE, Int.reduceLT, Int.reduceNeg, Int.reduceToNat]
          refine gcallq _ (fun _ => ints_ok (Ex.mk 10 0 0 0 [Ex.mk op col k n l]).cols (Ex.mk op col k n l).cols (by omega) (by omega)) ?_
          simp only [push_cast, Nat.reduceAdd, Nat.reduceSub, Nat.reduceMul, Nat.reduceLT, Nat.reduceLeDiff, Nat.reduceEqDiff, Nat.reduceBEq, reduceCtorEq, reduceIte, Int.reduceLE, Int.reduceLT, Int.reduceNeg, Int.reduceToNat]
          (try simp only [push_cast, Nat.reduceAdd, Nat.reduceSub, Nat.reduceMul, Nat.reduceLT, Nat.reduceLeDiff, Nat.reduceEqDiff, Nat.reduceBEq, reduceCtorEq, reduceIte, Int.reduceLE, Int.reduceLT, Int.reduceNeg, Int.reduceToNat])
end Go.Sim.Try
