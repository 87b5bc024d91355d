/- The law ExprOwn, walked. Conditions: none. -/
import Derived.Test.YtnoajklojkmonaaSimPart
set_option linter.unusedSimpArgs false
set_option linter.unusedVariables false
set_option maxRecDepth 100000
namespace Go.Sim.Try
open Go Go.Sim
attribute [local push_cast] aops_cons aops_nil aopG_none aopG_some aopP_eq aopE_eq aopC_eq aopE?_eq aopC?_eq gopP_eq gopL_eq ahead_cons ahead_nil ahdG_none ahdG_some ahdP_eq ahdN_eq ahdC_eq ahdN?_eq ahdS_eq ahdS?_eq astoreN ahdC?_eq ghdP_eq ghdC_eq ghdC?_eq opt_some opt_none no_eq acondT_true acondT_false acondT_lit aw_skip aw_region aw_regionD aw_seq aw_cond aw_block aw_loop aw_exit aw_label aw_ret thn_normal thn_exit thn_ret inb_normal inb_exit inb_ret qret_ret qret_normal gcond apure aeff anew acallee ares aresT aresL aresC ares1 qfin_eq ev ofV evL gokL tget tput_some tput_none initT abin aint aun aload afaddr aiaddr afield aindex aextract apick pickv_lit Bool.or_false Bool.false_or Bool.or_true Bool.true_or imp_self aslice abound aconv abuild afill splice alen aminmax abuiltin anil apart Value.oneCell' astore aappend srcEs abuildSlice asets isEq plus_obj plus_nxt plus_add plus_set plus_del IntKind.bits Option.map_some Option.map_none Option.bind_some Option.bind_none Option.join_some Option.getD_some Option.getD_none Option.toList Option.isSome_some List.getElem?_toArray List.getElem?_cons_zero List.getElem?_cons_succ List.getElem?_nil List.length_cons List.length_nil List.length_map List.head?_cons List.cons_append List.nil_append List.append_nil List.map_cons List.map_nil List.getD_cons_zero List.getD_cons_succ List.replicate_succ List.replicate_zero List.set_cons_zero List.set_cons_succ List.take_succ_cons List.take_zero List.drop_succ_cons List.drop_zero List.all_cons List.all_nil Nat.zero_add if_true if_false true_and and_true false_and and_false true_implies implies_true forall_const Bool.and_true Bool.true_and Bool.false_and Bool.and_false Bool.true_beq Bool.false_beq Bool.not_not beq_tt beq_ff Int.toNat_natCast decide_true decide_false Bool.not_true Bool.not_false Bool.true_eq_false Bool.false_eq_true false_implies exists_prop eq_self bne_self_eq_false beq_self_eq_true decide_eq_true_eq decide_eq_false_iff_not Bool.not_eq_true' Bool.not_eq_false' AV.int AV.bool AV.nilS ne_eq not_false_eq_true not_true_eq_false exists_eq_left exists_eq_left' Nat.lt_irrefl core_lit grd_lit acells_lit one_lit core_agg grd_agg acells_agg one_agg core_tup grd_tup acells_tup one_tup core_sl grd_sl acells_sl one_sl core_esl grd_esl acells_esl one_esl core_rsl grd_rsl acells_rsl one_rsl core_ptr grd_ptr acells_ptr one_ptr core_iptr grd_iptr acells_iptr one_iptr core_clo grd_clo acells_clo one_clo core_mp grd_mp acells_mp one_mp core_any grd_any acells_any one_any core_gv grd_gv fit_agg fit_lit fit_sl fit_esl fit_rsl fit_ptr fit_iptr fit_clo fit_mp retq_ret retq_normal set_nxt set_set plus_obj_set plus_set_set app_get0 app_get app_set0 app_set List.append_assoc List.length_append List.length_set Nat.lt_add_one Nat.add_lt_add_iff_right Nat.lt_add_right_iff_pos Nat.add_lt_add_iff_left List.mem_cons List.not_mem_nil or_false forall_eq forall_eq_or_imp lt_s0 lt_s1 lt_s2 lt_s3 lt_s4 lt_s5 lt_s6 lt_s7 lt_s8 SealT SealOs sealO_cells sl_lit sl_any sl_agg sl_tup sl_sl sl_rsl slO sl_esl sl_nil sl_eslesl sl_eslnil sl_rslrsl sl_eslrsl sl_nilrsl sl_ptr sl_iptr sl_ptri slP sl_clo sl_mp sl_gv sll_nil sll_cons slll_nil slll_cons shut_eq shutO Option.join_none Fn.func.injEq and_self sealL_self sealLL_self seal_self PureL PureLL Pure Nat.le_refl Nat.zero_le AV.lit.injEq Value.int.injEq Value.bool.injEq false_or or_true true_or Int.natCast_zero Int.ofNat_zero Int.cast_ofNat_Int Int.natCast_add Int.natCast_one Option.some.injEq piL_is sop_nil sop_cons sop_none sop_some sopO_some sop_new shut_pi shutL_nil shutL_cons exQ_exit exQ_ret exQ_normal Go.Sim.Try.ty_load1 Go.Sim.Try.ty_zero1 Go.Sim.Try.ty_load2 Go.Sim.Try.ty_zero2 Go.Sim.Try.ty_und2 Go.Sim.Try.ty_load3 Go.Sim.Try.ty_zero3 Go.Sim.Try.ty_und3 Go.Sim.Try.ty_load4 Go.Sim.Try.ty_zero4 Go.Sim.Try.ty_und4 Go.Sim.Try.ty_load5 Go.Sim.Try.ty_zero5 Go.Sim.Try.ty_und5 Go.Sim.Try.ty_load9 Go.Sim.Try.ty_zero9 Go.Sim.Try.ty_und9 Go.Sim.Try.ty_load21 Go.Sim.Try.ty_zero21 Go.Sim.Try.ty_und21 Go.Sim.Try.ty_load22 Go.Sim.Try.ty_zero22 Go.Sim.Try.ty_el22 Go.Sim.Try.ty_zeroE22 Go.Sim.Try.ty_load24 Go.Sim.Try.ty_zero24 Go.Sim.Try.ty_fld24_0 Go.Sim.Try.ty_part24_0 Go.Sim.Try.ty_fld24_1 Go.Sim.Try.ty_part24_1 Go.Sim.Try.ty_struct24 Go.Sim.Try.ty_load27 Go.Sim.Try.ty_zero27 Go.Sim.Try.ty_load32 Go.Sim.Try.ty_zero32 Go.Sim.Try.ty_load38 Go.Sim.Try.ty_zero38 Go.Sim.Try.ty_fld38_0 Go.Sim.Try.ty_part38_0 Go.Sim.Try.ty_fld38_1 Go.Sim.Try.ty_part38_1 Go.Sim.Try.ty_struct38 Go.Sim.Try.ty_load39 Go.Sim.Try.ty_zero39 Go.Sim.Try.ty_el39 Go.Sim.Try.ty_zeroE39 Go.Sim.Try.ty_load41 Go.Sim.Try.ty_zero41 Go.Sim.Try.ty_fld41_0 Go.Sim.Try.ty_part41_0 Go.Sim.Try.ty_fld41_1 Go.Sim.Try.ty_part41_1 Go.Sim.Try.ty_fld41_2 Go.Sim.Try.ty_part41_2 Go.Sim.Try.ty_fld41_3 Go.Sim.Try.ty_part41_3 Go.Sim.Try.ty_struct41 Go.Sim.Try.ty_load42 Go.Sim.Try.ty_zero42 Go.Sim.Try.ty_el42 Go.Sim.Try.ty_zeroE42 Go.Sim.Try.ty_load43 Go.Sim.Try.ty_zero43 Go.Sim.Try.ty_load45 Go.Sim.Try.ty_zero45 Go.Sim.Try.ty_el45 Go.Sim.Try.ty_zeroE45 Go.Sim.Try.ty_load51 Go.Sim.Try.ty_zero51 Go.Sim.Try.ty_load64 Go.Sim.Try.ty_zero64 Go.Sim.Try.ty_load67 Go.Sim.Try.ty_zero67 Go.Sim.Try.ty_fld67_0 Go.Sim.Try.ty_part67_0 Go.Sim.Try.ty_struct67 Go.Sim.Try.ty_load69 Go.Sim.Try.ty_zero69 Go.Sim.Try.ty_und69 Go.Sim.Try.ty_load76 Go.Sim.Try.ty_zero76 Go.Sim.Try.ty_el76 Go.Sim.Try.ty_zeroE76 Go.Sim.Try.ty_load83 Go.Sim.Try.ty_zero83 Go.Sim.Try.ty_fld83_0 Go.Sim.Try.ty_part83_0 Go.Sim.Try.ty_fld83_1 Go.Sim.Try.ty_part83_1 Go.Sim.Try.ty_fld83_2 Go.Sim.Try.ty_part83_2 Go.Sim.Try.ty_struct83 Go.Sim.Try.ty_load87 Go.Sim.Try.ty_zero87 Go.Sim.Try.ty_und87 Go.Sim.Try.ty_load90 Go.Sim.Try.ty_zero90 Go.Sim.Try.ty_load94 Go.Sim.Try.ty_zero94 Go.Sim.Try.ty_und94 Go.Sim.Try.ty_load102 Go.Sim.Try.ty_zero102 Go.Sim.Try.ty_und102 Go.Sim.Try.ty_load104 Go.Sim.Try.ty_zero104 Go.Sim.Try.ty_und104 Go.Sim.Try.ty_load106 Go.Sim.Try.ty_zero106 Go.Sim.Try.ty_load115 Go.Sim.Try.ty_zero115 Go.Sim.Try.ty_und115 Go.Sim.Try.ty_load119 Go.Sim.Try.ty_zero119 encE_mk encE_take encE_len encV encE_one encEs_pure encE_pure

/-- n-1, .., 0 -/
def down (n : Nat) : List Int := (upto n).reverse
theorem down_len (n : Nat) : (down n).length = n := by simp [down, upto_len]
theorem down_zero : down 0 = [] := rfl
theorem down_succ (n : Nat) : [.lit (.int .i64 (n : Int))] :: rowI (down n) = rowI (down (n + 1)) := by
  have : down (n + 1) = (n : Int) :: down n := by simp [down, upto, List.range_succ]
  rw [this]; rfl
/-- Those of its own out of one row, the others out of another one. -/
def mixV (own : List Int) (row other : List Vl) (i : Nat) : Vl := if own.any (fun c => decide (c = (i : Int))) then row.getD i .bad else other.getD i .bad
def mixB (own : List Int) (row other : List Vl) (n : Nat) : List Vl := ((List.range n).map (mixV own row other)).reverse
theorem mixB_len (own : List Int) (row other : List Vl) (n : Nat) : (mixB own row other n).length = n := by simp [mixB]
theorem mixB_zero (own : List Int) (row other : List Vl) : mixB own row other 0 = [] := rfl
theorem mixB_succ (own : List Int) (row other : List Vl) (n : Nat) : mixB own row other (n + 1) = mixV own row other n :: mixB own row other n := by simp [mixB, List.range_succ]
theorem consV (v : Vl) (vs : List Vl) : [.lit (.int .i64 v.k), .lit (.int .i64 v.n)] :: vs.map encV = (v :: vs).map encV := rfl

/-- What the law tells, in plain Lean. -/
def ownLaw (e : Ex) (row other : List Vl) : Bool :=
  if !decide (sz e 200 ≤ 200) || !decide (row.length = 16) || !decide (other.length = 16) || !e.may then true
  else decide ((e.eval (upto row.length) row).k = (e.eval (down row.length) (mixB e.cols row other row.length)).k) && decide ((e.eval (upto row.length) row).n = (e.eval (down row.length) (mixB e.cols row other row.length)).n)

set_option maxHeartbeats 2000000 in
theorem exprOwn_ok (e : Ex) (hok : e.Ok) (row other : List Vl) (hr : row.length ≤ 140737488355328) (ho : other.length ≤ 140737488355328) :
    Quiet Go.Proofs.Try.prog 8 [.agg (encE e), .sl (row.map encV), .sl (other.map encV)] (.bool (ownLaw e row other)) := by
  refine quiet_of (rs := #[.tmp 6]) Go.Proofs.Try.func8 rfl rfl rfl mixed rfl rfl fun H hs => ?_
  simp only [push_cast, Nat.reduceAdd, Nat.reduceSub, Nat.reduceMul, Nat.reduceLT, Nat.reduceLeDiff, Nat.reduceEqDiff, Nat.reduceBEq, reduceCtorEq, reduceIte, Int.reduceLE, Int.reduceLT, Int.reduceNeg, Int.reduceToNat]
  refine callq awake_ok ?_
  simp only [push_cast, Nat.reduceAdd, Nat.reduceSub, Nat.reduceMul, Nat.reduceLT, Nat.reduceLeDiff, Nat.reduceEqDiff, Nat.reduceBEq, reduceCtorEq, reduceIte, Int.reduceLE, Int.reduceLT, Int.reduceNeg, Int.reduceToNat]
  refine callq (few_ok e hok 200 (by decide) (by decide)) ?_
  simp only [push_cast, Nat.reduceAdd, Nat.reduceSub, Nat.reduceMul, Nat.reduceLT, Nat.reduceLeDiff, Nat.reduceEqDiff, Nat.reduceBEq, reduceCtorEq, reduceIte, Int.reduceLE, Int.reduceLT, Int.reduceNeg, Int.reduceToNat]
  refine gcallq' (.bool e.may) (fun h => by grind) (fun _ => mayE_ok e hok) ?_
  simp only [push_cast, Nat.reduceAdd, Nat.reduceSub, Nat.reduceMul, Nat.reduceLT, Nat.reduceLeDiff, Nat.reduceEqDiff, Nat.reduceBEq, reduceCtorEq, reduceIte, Int.reduceLE, Int.reduceLT, Int.reduceNeg, Int.reduceToNat]
  refine ⟨fun h => ?_, fun h => ?_⟩
  · (try simp only [push_cast, Nat.reduceAdd, Nat.reduceSub, Nat.reduceMul, Nat.reduceLT, Nat.reduceLeDiff, Nat.reduceEqDiff, Nat.reduceBEq, reduceCtorEq, reduceIte, Int.reduceLE, Int.reduceLT, Int.reduceNeg, Int.reduceToNat])
    have hg : (!decide (sz e 200 ≤ 200) || !decide (row.length = 16) || !decide (other.length = 16) || !e.may) = true := by grind
    simp only [ownLaw, hg, if_true]
  have hg : (!decide (sz e 200 ≤ 200) || !decide (row.length = 16) || !decide (other.length = 16) || !e.may) = false := by grind
  have h16 : row.length = 16 := by grind
  have h16' : other.length = 16 := by grind
  have hmay : e.may = true := by grind
  have hc1 := may_cnt hmay
  have hc2 := cols_len e
  have hp : ownLaw e row other = (decide ((e.eval (upto row.length) row).k = (e.eval (down row.length) (mixB e.cols row other row.length)).k) && decide ((e.eval (upto row.length) row).n = (e.eval (down row.length) (mixB e.cols row other row.length)).n)) := by
    simp only [ownLaw, hg, Bool.false_eq_true, if_false]
  rw [hp]
  clear hp
  refine callq (Cols_ok _ hok (by omega)) ?_
  simp only [push_cast, Nat.reduceAdd, Nat.reduceSub, Nat.reduceMul, Nat.reduceLT, Nat.reduceLeDiff, Nat.reduceEqDiff, Nat.reduceBEq, reduceCtorEq, reduceIte, Int.reduceLE, Int.reduceLT, Int.reduceNeg, Int.reduceToNat]
  generalize hown : e.cols = own at hc2
  refine loop_ex hs (σ := Nat) (τ := Unit) (fun i => i ≤ row.length) (fun i => row.length - i)
    (fun i => [(14, .int i), (10, .rsl (H.nxt + 1) 1 0 i), (11, .rsl (H.nxt + 2) 1 0 i), (12, .rsl (H.nxt + 3) 2 0 i), (13, .rsl (H.nxt + 4) 2 0 i), (1, .sl (row.map encV)), (2, .sl (other.map encV)), (3, .ptr (H.nxt + 0) 5 0 0), (9, .sl (own.map encI))])
    (fun i => [some (.cells 5 [encE e] 0), some (.cells 1 (rowI (upto i)) 0), some (.cells 1 (rowI (down i)) 0), some (.cells 2 ((row.take i).map encV) 0), some (.cells 2 ((mixB own row other i).map encV) 0)]) [some 0, none, none, none, none] 0
    0 (fun _ => True) (fun _ => [(10, .sl ((upto row.length).map encI)), (11, .sl ((down row.length).map encI)), (12, .sl (row.map encV)), (13, .sl ((mixB own row other row.length).map encV)), (3, .ptr (H.nxt + 0) 5 0 0)]) (fun _ => [some (.cells 5 [encE e] 0)]) (by omega) rfl ?_ ?_ ?_ ?_
  · (try simp only [push_cast, Nat.reduceAdd, Nat.reduceSub, Nat.reduceMul, Nat.reduceLT, Nat.reduceLeDiff, Nat.reduceEqDiff, Nat.reduceBEq, reduceCtorEq, reduceIte, Int.reduceLE, Int.reduceLT, Int.reduceNeg, Int.reduceToNat, encVs_pure, encIs_pure])
  · (try simp only [push_cast, Nat.reduceAdd, Nat.reduceSub, Nat.reduceMul, Nat.reduceLT, Nat.reduceLeDiff, Nat.reduceEqDiff, Nat.reduceBEq, reduceCtorEq, reduceIte, Int.reduceLE, Int.reduceLT, Int.reduceNeg, Int.reduceToNat, upto_zero, down_zero, mixB_zero, rowI_nil, List.take_zero, List.map_nil])
  · intro i hi2
    by_cases hi : i < row.length
    · have hi' : ((i : Int) < 16) = True := by simp; omega
      simp only [push_cast, Nat.reduceAdd, Nat.reduceSub, Nat.reduceMul, Nat.reduceLT, Nat.reduceLeDiff, Nat.reduceEqDiff, Nat.reduceBEq, reduceCtorEq, reduceIte, Int.reduceLE, Int.reduceLT, Int.reduceNeg, Int.reduceToNat, hi']
      refine loop_at hs (σ := Nat) (fun k => k ≤ own.length) (fun k => own.length - k)
        (fun k => [(15, .bool ((own.take k).any fun c => decide (c = (i : Int)))), (16, .int k), (14, .int i), (10, .rsl (H.nxt + 1) 1 0 i), (11, .rsl (H.nxt + 2) 1 0 i), (12, .rsl (H.nxt + 3) 2 0 i), (13, .rsl (H.nxt + 4) 2 0 i), (1, .sl (row.map encV)), (2, .sl (other.map encV)), (3, .ptr (H.nxt + 0) 5 0 0), (9, .sl (own.map encI))])
        (fun k => [some (.cells 5 [encE e] 0), some (.cells 1 (rowI (upto i)) 0), some (.cells 1 (rowI (down i)) 0), some (.cells 2 ((row.take i).map encV) 0), some (.cells 2 ((mixB own row other i).map encV) 0)]) [some 0, some 1, some 2, some 3, some 4] 0 (by omega) rfl ?_ ?_ ?_
      · (try simp only [push_cast, Nat.reduceAdd, Nat.reduceSub, Nat.reduceMul, Nat.reduceLT, Nat.reduceLeDiff, Nat.reduceEqDiff, Nat.reduceBEq, reduceCtorEq, reduceIte, Int.reduceLE, Int.reduceLT, Int.reduceNeg, Int.reduceToNat, encVs_pure, encIs_pure, List.take_zero, List.any_nil])
      · (try simp only [push_cast, Nat.reduceAdd, Nat.reduceSub, Nat.reduceMul, Nat.reduceLT, Nat.reduceLeDiff, Nat.reduceEqDiff, Nat.reduceBEq, reduceCtorEq, reduceIte, Int.reduceLE, Int.reduceLT, Int.reduceNeg, Int.reduceToNat, encVs_pure, encVs_len, rowI_pure, rowI_one])
      · intro k hk2
        by_cases hk : k < own.length
        · have hk' : ((k : Int) < (own.length : Int)) = True := by simp; omega
          have hk0 : (0 ≤ (k : Int)) = True := by simp
          simp only [push_cast, Nat.reduceAdd, Nat.reduceSub, Nat.reduceMul, Nat.reduceLT, Nat.reduceLeDiff, Nat.reduceEqDiff, Nat.reduceBEq, reduceCtorEq, reduceIte, Int.reduceLE, Int.reduceLT, Int.reduceNeg, Int.reduceToNat, hk', hk0, encIs_get own k hk, encI]
          rw [wrap64 (n := (k : Int) + 1) (by omega) (by omega)]
          refine next_at [some 0, some 1, some 2, some 3, some 4] (k + 1) (by omega) (by omega) rfl ?_ ?_
          · (try simp only [push_cast, Nat.reduceAdd, Nat.reduceSub, Nat.reduceMul, Nat.reduceLT, Nat.reduceLeDiff, Nat.reduceEqDiff, Nat.reduceBEq, reduceCtorEq, reduceIte, Int.reduceLE, Int.reduceLT, Int.reduceNeg, Int.reduceToNat, encVs_pure, encIs_pure])
            rw [List.take_succ_eq_append_getElem hk, List.any_append]
            cases (own.take k).any fun c => decide (c = (i : Int)) <;> simp
          · (try simp only [push_cast, Nat.reduceAdd, Nat.reduceSub, Nat.reduceMul, Nat.reduceLT, Nat.reduceLeDiff, Nat.reduceEqDiff, Nat.reduceBEq, reduceCtorEq, reduceIte, Int.reduceLE, Int.reduceLT, Int.reduceNeg, Int.reduceToNat, encVs_pure, encVs_len, rowI_pure, rowI_one])
        · have hk' : ((k : Int) < (own.length : Int)) = False := by simp; omega
          obtain rfl : k = own.length := by omega
          have hi3 : ((i : Int) < (other.length : Int)) = True := by simp; omega
          have hi4 : ((i : Int) < (row.length : Int)) = True := by simp; omega
          have hi0 : (0 ≤ (i : Int)) = True := by simp
          simp only [push_cast, Nat.reduceAdd, Nat.reduceSub, Nat.reduceMul, Nat.reduceLT, Nat.reduceLeDiff, Nat.reduceEqDiff, Nat.reduceBEq, reduceCtorEq, reduceIte, Int.reduceLE, Int.reduceLT, Int.reduceNeg, Int.reduceToNat, hk', hi3, hi4, hi0, encVs_get row i (by omega), encVs_get other i (by omega), List.take_length]
          have hmv : mixV own row other i = if (own.any fun c => decide (c = (i : Int))) = true then row[i] else other[i] := by
            unfold mixV
            split
            · rw [List.getD_eq_getElem?_getD, List.getElem?_eq_getElem (by omega)]; rfl
            · rw [List.getD_eq_getElem?_getD, List.getElem?_eq_getElem (by omega)]; rfl
          have hrl := rowI_one (down i)
          have hvl := encVs_len (mixB own row other i)
          have c1 : List.take i (rowI (upto i)) = rowI (upto i) := take_rowI _ _ (Nat.le_of_eq (upto_len i))
          have c2 : List.take i (rowI (down i)) = rowI (down i) := take_rowI _ _ (Nat.le_of_eq (down_len i))
          have c3 : List.take i ((mixB own row other i).map encV) = (mixB own row other i).map encV := takeV _ _ (Nat.le_of_eq (mixB_len own row other i))
          have c4 : List.take i ((row.take i).map encV) = (row.take i).map encV := takeV _ _ (by simp; omega)
          have c5 : (∀ x ∈ rowI (down i), x.all AV.one = true) = True := by
            simp only [rowI, List.mem_map, eq_iff_iff, iff_true]
            rintro _ ⟨x, _, rfl⟩
            rfl
          have c6 : (∀ x ∈ (mixB own row other i).map encV, x.all AV.one = true) = True := by
            simp only [List.mem_map, eq_iff_iff, iff_true]
            rintro _ ⟨x, _, rfl⟩
            rfl
          have c7 : (row.take i) ++ [row[i]] = row.take (i + 1) := (List.take_succ_eq_append_getElem (by omega)).symm
          have c8 : i ≤ (upto i).length := by rw [upto_len]; omega
          have c9 : i ≤ (row.take i).length := by rw [List.length_take]; omega
          have c10 : i ≤ (down i).length := by rw [down_len]; omega
          have c11 : i ≤ (mixB own row other i).length := by rw [mixB_len]; omega
          have c12 : (rowI (down i)).length = i := by rw [List.length_map, down_len]
          have c13 : ((mixB own row other i).map encV).length = i := by rw [List.length_map, mixB_len]
          rw [c1, c2, c3, c4, c12, c13]
          refine ⟨fun hq => ⟨⟨c8, by omega⟩, ⟨c9, by omega⟩, ⟨c10, hrl.mpr trivial, c5.mpr trivial, by omega⟩, ⟨c11, hvl.mpr trivial, c6.mpr trivial, by omega⟩, ?_⟩, fun hq => ⟨⟨c8, by omega⟩, ⟨c9, by omega⟩, ⟨c10, hrl.mpr trivial, c5.mpr trivial, by omega⟩, ⟨c11, hvl.mpr trivial, c6.mpr trivial, by omega⟩, ?_⟩⟩
          · rw [wrap64 (n := (i : Int) + 1) (by omega) (by omega), Nat.add_comm 1 i]
            rw [hq, if_pos rfl] at hmv
            refine next_at [some 0, some 7, some 11, some 9, some 13] (i + 1) (by omega) (by omega) rfl ?_ ?_
            · (try simp only [push_cast, Nat.reduceAdd, Nat.reduceSub, Nat.reduceMul, Nat.reduceLT, Nat.reduceLeDiff, Nat.reduceEqDiff, Nat.reduceBEq, reduceCtorEq, reduceIte, Int.reduceLE, Int.reduceLT, Int.reduceNeg, Int.reduceToNat, encVs_pure, encIs_pure])
            · have c20 : [.lit (.int .i64 row[i].k), .lit (.int .i64 row[i].n)] :: (mixB own row other i).map encV = (mixB own row other (i + 1)).map encV := by rw [mixB_succ, hmv]; rfl
              simp only [push_cast, Nat.reduceAdd, Nat.reduceSub, Nat.reduceMul, Nat.reduceLT, Nat.reduceLeDiff, Nat.reduceEqDiff, Nat.reduceBEq, reduceCtorEq, reduceIte, Int.reduceLE, Int.reduceLT, Int.reduceNeg, Int.reduceToNat, encVs_pure, encVs_len, rowI_pure, rowI_one, upto_succ, down_succ, snocV, c7, c20]
          · rw [wrap64 (n := (i : Int) + 1) (by omega) (by omega), Nat.add_comm 1 i]
            rw [hq, if_neg (by simp)] at hmv
            refine next_at [some 0, some 7, some 11, some 9, some 13] (i + 1) (by omega) (by omega) rfl ?_ ?_
            · (try simp only [push_cast, Nat.reduceAdd, Nat.reduceSub, Nat.reduceMul, Nat.reduceLT, Nat.reduceLeDiff, Nat.reduceEqDiff, Nat.reduceBEq, reduceCtorEq, reduceIte, Int.reduceLE, Int.reduceLT, Int.reduceNeg, Int.reduceToNat, encVs_pure, encIs_pure])
            · have c20 : [.lit (.int .i64 other[i].k), .lit (.int .i64 other[i].n)] :: (mixB own row other i).map encV = (mixB own row other (i + 1)).map encV := by rw [mixB_succ, hmv]; rfl
              simp only [push_cast, Nat.reduceAdd, Nat.reduceSub, Nat.reduceMul, Nat.reduceLT, Nat.reduceLeDiff, Nat.reduceEqDiff, Nat.reduceBEq, reduceCtorEq, reduceIte, Int.reduceLE, Int.reduceLT, Int.reduceNeg, Int.reduceToNat, encVs_pure, encVs_len, rowI_pure, rowI_one, upto_succ, down_succ, snocV, c7, c20]
    · have hi' : ((i : Int) < 16) = False := by simp; omega
      obtain rfl : i = row.length := by omega
      simp only [push_cast, Nat.reduceAdd, Nat.reduceSub, Nat.reduceMul, Nat.reduceLT, Nat.reduceLeDiff, Nat.reduceEqDiff, Nat.reduceBEq, reduceCtorEq, reduceIte, Int.reduceLE, Int.reduceLT, Int.reduceNeg, Int.reduceToNat, hi']
      refine exit_at [some 0] () trivial rfl ?_ ?_
      · (try simp only [push_cast, Nat.reduceAdd, Nat.reduceSub, Nat.reduceMul, Nat.reduceLT, Nat.reduceLeDiff, Nat.reduceEqDiff, Nat.reduceBEq, reduceCtorEq, reduceIte, Int.reduceLE, Int.reduceLT, Int.reduceNeg, Int.reduceToNat, take_rowI _ _ (Nat.le_of_eq (upto_len row.length)), take_rowI _ _ (Nat.le_of_eq (down_len row.length)), takeV _ _ (Nat.le_of_eq (mixB_len own row other row.length)), takeV row _ (Nat.le_refl _), List.take_length, encVs_pure, rowI_pure, encIs_pure, upto_len])
        exact ⟨by rw [down_len]; omega, by rw [mixB_len]; omega⟩
      · (try simp only [push_cast, Nat.reduceAdd, Nat.reduceSub, Nat.reduceMul, Nat.reduceLT, Nat.reduceLeDiff, Nat.reduceEqDiff, Nat.reduceBEq, reduceCtorEq, reduceIte, Int.reduceLE, Int.reduceLT, Int.reduceNeg, Int.reduceToNat])
  · intro _ _
    have he1 := Eval_ok (upto row.length) (by rw [upto_len]; omega) row hr e hok
    have he2 := Eval_ok (down row.length) (by rw [down_len]; omega) (mixB own row other row.length) (by rw [mixB_len]; omega) e hok
    generalize e.eval (upto row.length) row = v1 at he1 ⊢
    generalize e.eval (down row.length) (mixB own row other row.length) = v2 at he2 ⊢
    simp only [push_cast, Nat.reduceAdd, Nat.reduceSub, Nat.reduceMul, Nat.reduceLT, Nat.reduceLeDiff, Nat.reduceEqDiff, Nat.reduceBEq, reduceCtorEq, reduceIte, Int.reduceLE, Int.reduceLT, Int.reduceNeg, Int.reduceToNat]
    refine areg_at 9 (by kernel_rfl) (by kernel_rfl) ?_
    simp only [push_cast, Nat.reduceAdd, Nat.reduceSub, Nat.reduceMul, Nat.reduceLT, Nat.reduceLeDiff, Nat.reduceEqDiff, Nat.reduceBEq, reduceCtorEq, reduceIte, Int.reduceLE, Int.reduceLT, Int.reduceNeg, Int.reduceToNat]
    refine ahdq he1 ?_
    simp only [push_cast, Nat.reduceAdd, Nat.reduceSub, Nat.reduceMul, Nat.reduceLT, Nat.reduceLeDiff, Nat.reduceEqDiff, Nat.reduceBEq, reduceCtorEq, reduceIte, Int.reduceLE, Int.reduceLT, Int.reduceNeg, Int.reduceToNat]
    refine ahdq he2 ?_
    simp only [push_cast, Nat.reduceAdd, Nat.reduceSub, Nat.reduceMul, Nat.reduceLT, Nat.reduceLeDiff, Nat.reduceEqDiff, Nat.reduceBEq, reduceCtorEq, reduceIte, Int.reduceLE, Int.reduceLT, Int.reduceNeg, Int.reduceToNat, lits, cellsEq, cellEq, cmpV]
    (try simp only [push_cast, Nat.reduceAdd, Nat.reduceSub, Nat.reduceMul, Nat.reduceLT, Nat.reduceLeDiff, Nat.reduceEqDiff, Nat.reduceBEq, reduceCtorEq, reduceIte, Int.reduceLE, Int.reduceLT, Int.reduceNeg, Int.reduceToNat])
end Go.Sim.Try
