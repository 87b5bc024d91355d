/- What the row rests on, part 4. Conditions: none. -/
import Derived.Test.YtojfhjejenaclaaM3
set_option linter.unusedSimpArgs false
set_option linter.unusedVariables false
set_option maxRecDepth 100000
namespace Go.Sim.Try
open Go Go.Sim
attribute [local push_cast] aops_cons aops_nil aopG_none aopG_some aopP_eq aopE_eq aopC_eq aopE?_eq aopC?_eq aopB_eq aopB?_eq abr anilq gopP_eq gopL_eq ahead_cons ahead_nil ahdG_none ahdG_some ahdP_eq ahdN_eq ahdC_eq ahdN?_eq ahdS_eq ahdS?_eq astoreN ahdC?_eq ghdP_eq ghdC_eq ghdC?_eq ghdZ_f ghdZ_t ahdI_eq ahdI?_eq ghdN?_eq aim_nil aim_cons isIn_nil isIn_none isIn_cons aimm aheP_eq aheA_eq aheC_eq aheC?_eq aheI?_eq aheA?_eq gheP_eq gheC_eq gheC?_eq gheZ_eq aheG_none aheG_some aheff_cons aheff_nil aapp gro_rsl gro_lit gro_esl opt_some opt_none no_eq acondT_true acondT_false acondT_lit aw_skip aw_region aw_regionD aw_seq aw_cond aw_block aw_loop aw_exit aw_label aw_ret thn_normal thn_exit thn_ret inb_normal inb_exit inb_ret qret_ret qret_normal gcond apure aeff anew acallee ares aresT aresL aresC ares1 qfin_eq ev ofV evL gokL tget tput_some tput_none initT abin aint aun aload afaddr aiaddr afield aindex aextract apick pickv_lit Bool.or_false Bool.false_or Bool.or_true Bool.true_or imp_self aslice chunk roomB abound aconv abuild afill splice alen aminmax abuiltin anil apart Value.oneCell' astore aappend srcEs abuildSlice asets isEq plus_obj plus_nxt plus_add plus_set plus_del IntKind.bits Option.map_some Option.map_none Option.bind_some Option.bind_none Option.join_some Option.getD_some Option.getD_none Option.toList Option.isSome_some List.getElem?_toArray List.getElem?_cons_zero List.getElem?_cons_succ List.getElem?_nil List.length_cons List.length_nil List.length_map List.head?_cons List.cons_append List.nil_append List.append_nil List.map_cons List.map_nil List.getD_cons_zero List.getD_cons_succ List.replicate_succ List.replicate_zero List.set_cons_zero List.set_cons_succ List.take_succ_cons List.take_zero List.drop_succ_cons List.drop_zero List.all_cons List.all_nil Nat.zero_add if_true if_false true_and and_true false_and and_false true_implies implies_true forall_const Bool.and_true Bool.true_and Bool.false_and Bool.and_false Bool.true_beq Bool.false_beq Bool.not_not beq_tt beq_ff Int.toNat_natCast decide_true decide_false Bool.not_true Bool.not_false Bool.true_eq_false Bool.false_eq_true false_implies exists_prop eq_self bne_self_eq_false beq_self_eq_true decide_eq_true_eq decide_eq_false_iff_not Bool.not_eq_true' Bool.not_eq_false' AV.int AV.bool AV.nilS ne_eq not_false_eq_true not_true_eq_false exists_eq_left exists_eq_left' Nat.lt_irrefl core_lit grd_lit acells_lit one_lit core_agg grd_agg acells_agg one_agg core_tup grd_tup acells_tup one_tup core_sl grd_sl acells_sl one_sl core_esl grd_esl acells_esl one_esl core_rsl grd_rsl acells_rsl one_rsl core_ptr grd_ptr acells_ptr one_ptr core_iptr grd_iptr acells_iptr one_iptr core_clo grd_clo acells_clo one_clo core_mp grd_mp acells_mp one_mp core_any grd_any acells_any one_any core_gv grd_gv fit_agg fit_lit fit_sl fit_esl fit_rsl fit_ptr fit_iptr fit_clo fit_mp retq_ret retq_normal set_nxt set_set plus_obj_set plus_set_set app_get0 app_get app_set0 app_set List.append_assoc List.length_append List.length_set Nat.lt_add_one Nat.add_lt_add_iff_right Nat.lt_add_right_iff_pos Nat.add_lt_add_iff_left List.mem_cons List.not_mem_nil or_false forall_eq forall_eq_or_imp lt_s0 lt_s1 lt_s2 lt_s3 lt_s4 lt_s5 lt_s6 lt_s7 lt_s8 pickv_t pickv_f or_nand or_nand2 imp_and_l SealT SealOs sealO_cells sl_lit sl_any sl_agg sl_tup sl_sl sl_rsl slO sl_esl sl_nil sl_eslesl sl_eslnil sl_rslrsl sl_eslrsl sl_nilrsl sl_ptr sl_iptr sl_ptri slP sl_clo sl_mp sl_gv sll_nil sll_cons slll_nil slll_cons shut_eq shutO Option.join_none Fn.func.injEq and_self sealL_self sealLL_self seal_self PureL PureLL Pure Nat.le_refl Nat.zero_le AV.lit.injEq Value.int.injEq Value.bool.injEq false_or or_true true_or Int.natCast_zero Int.ofNat_zero Int.cast_ofNat_Int Int.natCast_add Int.natCast_one Option.some.injEq piL_is sop_nil sop_cons sop_none sop_some sopO_some sop_new shut_pi shutL_nil shutL_cons exQ_exit exQ_ret exQ_normal Go.Sim.Try.ty_load1 Go.Sim.Try.ty_zero1 Go.Sim.Try.ty_load2 Go.Sim.Try.ty_zero2 Go.Sim.Try.ty_und2 Go.Sim.Try.ty_load3 Go.Sim.Try.ty_zero3 Go.Sim.Try.ty_und3 Go.Sim.Try.ty_load4 Go.Sim.Try.ty_zero4 Go.Sim.Try.ty_und4 Go.Sim.Try.ty_load5 Go.Sim.Try.ty_zero5 Go.Sim.Try.ty_und5 Go.Sim.Try.ty_load9 Go.Sim.Try.ty_zero9 Go.Sim.Try.ty_und9 Go.Sim.Try.ty_load22 Go.Sim.Try.ty_zero22 Go.Sim.Try.ty_el22 Go.Sim.Try.ty_zeroE22 Go.Sim.Try.ty_load26 Go.Sim.Try.ty_zero26 Go.Sim.Try.ty_el26 Go.Sim.Try.ty_zeroE26 Go.Sim.Try.ty_load28 Go.Sim.Try.ty_zero28 Go.Sim.Try.ty_fld28_0 Go.Sim.Try.ty_part28_0 Go.Sim.Try.ty_struct28 Go.Sim.Try.ty_load29 Go.Sim.Try.ty_zero29 Go.Sim.Try.ty_el29 Go.Sim.Try.ty_zeroE29 Go.Sim.Try.ty_load31 Go.Sim.Try.ty_zero31 Go.Sim.Try.ty_fld31_0 Go.Sim.Try.ty_part31_0 Go.Sim.Try.ty_struct31 Go.Sim.Try.ty_load35 Go.Sim.Try.ty_zero35 Go.Sim.Try.ty_fld35_0 Go.Sim.Try.ty_part35_0 Go.Sim.Try.ty_fld35_1 Go.Sim.Try.ty_part35_1 Go.Sim.Try.ty_struct35 Go.Sim.Try.ty_load36 Go.Sim.Try.ty_zero36 Go.Sim.Try.ty_el36 Go.Sim.Try.ty_zeroE36 Go.Sim.Try.ty_load38 Go.Sim.Try.ty_zero38 Go.Sim.Try.ty_fld38_0 Go.Sim.Try.ty_part38_0 Go.Sim.Try.ty_fld38_1 Go.Sim.Try.ty_part38_1 Go.Sim.Try.ty_fld38_2 Go.Sim.Try.ty_part38_2 Go.Sim.Try.ty_fld38_3 Go.Sim.Try.ty_part38_3 Go.Sim.Try.ty_struct38 Go.Sim.Try.ty_load40 Go.Sim.Try.ty_zero40 Go.Sim.Try.ty_fld40_0 Go.Sim.Try.ty_part40_0 Go.Sim.Try.ty_fld40_1 Go.Sim.Try.ty_part40_1 Go.Sim.Try.ty_fld40_2 Go.Sim.Try.ty_part40_2 Go.Sim.Try.ty_fld40_3 Go.Sim.Try.ty_part40_3 Go.Sim.Try.ty_fld40_4 Go.Sim.Try.ty_part40_4 Go.Sim.Try.ty_fld40_5 Go.Sim.Try.ty_part40_5 Go.Sim.Try.ty_struct40 Go.Sim.Try.ty_load43 Go.Sim.Try.ty_zero43 Go.Sim.Try.ty_und43 Go.Sim.Try.ty_load47 Go.Sim.Try.ty_zero47 Go.Sim.Try.ty_fld47_0 Go.Sim.Try.ty_part47_0 Go.Sim.Try.ty_fld47_1 Go.Sim.Try.ty_part47_1 Go.Sim.Try.ty_struct47 Go.Sim.Try.ty_load48 Go.Sim.Try.ty_zero48 Go.Sim.Try.ty_el48 Go.Sim.Try.ty_zeroE48 Go.Sim.Try.ty_load49 Go.Sim.Try.ty_zero49 Go.Sim.Try.ty_el49 Go.Sim.Try.ty_zeroE49 Go.Sim.Try.ty_load52 Go.Sim.Try.ty_zero52 Go.Sim.Try.ty_und52 Go.Sim.Try.ty_load53 Go.Sim.Try.ty_zero53 Go.Sim.Try.ty_load63 Go.Sim.Try.ty_zero63 Go.Sim.Try.ty_arr63 Go.Sim.Try.ty_part63_0 Go.Sim.Try.ty_part63_1 Go.Sim.Try.ty_struct63 Go.Sim.Try.ty_load67 Go.Sim.Try.ty_zero67 Go.Sim.Try.ty_load72 Go.Sim.Try.ty_zero72 Go.Sim.Try.ty_load77 Go.Sim.Try.ty_zero77 Go.Sim.Try.ty_load78 Go.Sim.Try.ty_zero78 Go.Sim.Try.ty_und78 Go.Sim.Try.ty_load85 Go.Sim.Try.ty_zero85 Go.Sim.Try.ty_fld85_0 Go.Sim.Try.ty_part85_0 Go.Sim.Try.ty_fld85_1 Go.Sim.Try.ty_part85_1 Go.Sim.Try.ty_fld85_2 Go.Sim.Try.ty_part85_2 Go.Sim.Try.ty_struct85 Go.Sim.Try.ty_load87 Go.Sim.Try.ty_zero87 Go.Sim.Try.ty_load89 Go.Sim.Try.ty_zero89 Go.Sim.Try.ty_und89 Go.Sim.Try.ty_load98 Go.Sim.Try.ty_zero98 Go.Sim.Try.ty_und98 Go.Sim.Try.ty_load102 Go.Sim.Try.ty_zero102 Go.Sim.Try.ty_load105 Go.Sim.Try.ty_zero105 Go.Sim.Try.ty_und105 Go.Sim.Try.ty_load109 Go.Sim.Try.ty_zero109 Go.Sim.Try.ty_load113 Go.Sim.Try.ty_zero113 encE_mk encE_take encE_len encV encE_one encEs_pure encE_pure

def encD (d : Df) : List AV := [.lit (.int .i64 d.cols), .lit (.int .i64 d.rows)]
theorem encD_len (d : Df) : (encD d).length = 2 := rfl
theorem encD_pure (d : Df) : PureL (encD d) := by simp [encD, PureL, Pure]
theorem encDs_pure (l : List Df) : PureLL (l.map encD) := by
  rw [pureLL_iff]
  simp only [List.mem_map]
  rintro _ ⟨x, _, rfl⟩
  exact encD_pure x
theorem encDs_get (l : List Df) (i : Nat) (h : i < l.length) : (l.map encD).getD i [] = encD l[i] := getD_map encD l [] i h
theorem cmpD (a b c d : Int) : CmpAt Go.Proofs.Try.prog 47 [.int .i64 a, .int .i64 b] [.int .i64 c, .int .i64 d] (decide (a = c) && decide (b = d)) := by
  rw [← Bool.and_true (decide (b = d))]
  exact cmp_int2 (f0 := { name := "Cols", type := 3, offset := 0, embedded := false, tag := "", pkgPath := "", byteOffset := 0 }) (f1 := { name := "Rows", type := 3, offset := 1, embedded := false, tag := "", pkgPath := "", byteOffset := 8 }) (n0 := 1) (n1 := 1) (by kernel_rfl) (by kernel_rfl) (by kernel_rfl) (by decide) (by decide) rfl rfl (by kernel_rfl) (by kernel_rfl) (by kernel_rfl) (by kernel_rfl) a b c d

def inI (n low high : Int) : Bool := decide (low ≤ n) && decide (n ≤ high)
theorem in_ok (n low high : Int) : Quiet Go.Proofs.Try.prog 25 [.int n, .int low, .int high] (.bool (inI n low high)) := by
  refine quiet_of (rs := #[.tmp 6]) Go.Proofs.Try.func25 rfl rfl rfl mixed rfl rfl fun H hs => ?_
  simp -implicitDefEqProofs only [push_cast, Nat.reduceAdd, Nat.reduceSub, Nat.reduceMul, Nat.reduceLT, Nat.reduceLeDiff, Nat.reduceEqDiff, Nat.reduceBEq, reduceCtorEq, reduceIte, Int.reduceLE, Int.reduceLT, Int.reduceNeg, Int.reduceToNat]
  (try simp -implicitDefEqProofs only [push_cast, Nat.reduceAdd, Nat.reduceSub, Nat.reduceMul, Nat.reduceLT, Nat.reduceLeDiff, Nat.reduceEqDiff, Nat.reduceBEq, reduceCtorEq, reduceIte, Int.reduceLE, Int.reduceLT, Int.reduceNeg, Int.reduceToNat])
  simp only [inI]
theorem one_ok (d : Df) : Quiet Go.Proofs.Try.prog 28 [.agg (encD d)] (.bool d.may) := by
  refine quiet_of (rs := #[.tmp 2]) Go.Proofs.Try.func28 rfl rfl rfl mixed rfl rfl fun H hs => ?_
  simp -implicitDefEqProofs only [push_cast, Nat.reduceAdd, Nat.reduceSub, Nat.reduceMul, Nat.reduceLT, Nat.reduceLeDiff, Nat.reduceEqDiff, Nat.reduceBEq, reduceCtorEq, reduceIte, Int.reduceLE, Int.reduceLT, Int.reduceNeg, Int.reduceToNat, encD, lits, cellsEq, cellEq, cmpD]
  refine gcallq' (.bool (inI d.cols 1 4)) (fun h => by simp only [Bool.not_eq_true'] at h; exact h) (fun _ => in_ok _ _ _) ?_
  simp -implicitDefEqProofs only [push_cast, Nat.reduceAdd, Nat.reduceSub, Nat.reduceMul, Nat.reduceLT, Nat.reduceLeDiff, Nat.reduceEqDiff, Nat.reduceBEq, reduceCtorEq, reduceIte, Int.reduceLE, Int.reduceLT, Int.reduceNeg, Int.reduceToNat, encD]
  refine gcallq' (.bool (inI d.rows 1 1000000)) (fun h => by simpa using h) (fun _ => in_ok _ _ _) ?_
  simp -implicitDefEqProofs only [push_cast, Nat.reduceAdd, Nat.reduceSub, Nat.reduceMul, Nat.reduceLT, Nat.reduceLeDiff, Nat.reduceEqDiff, Nat.reduceBEq, reduceCtorEq, reduceIte, Int.reduceLE, Int.reduceLT, Int.reduceNeg, Int.reduceToNat, encD]
  (try simp -implicitDefEqProofs only [push_cast, Nat.reduceAdd, Nat.reduceSub, Nat.reduceMul, Nat.reduceLT, Nat.reduceLeDiff, Nat.reduceEqDiff, Nat.reduceBEq, reduceCtorEq, reduceIte, Int.reduceLE, Int.reduceLT, Int.reduceNeg, Int.reduceToNat])
  simp only [inI, Df.may]
  grind
theorem indexFuncD_ok (l : List Df) (hl : l.length ≤ 140737488355328) (k : Nat) (caps : List AV) (hc : PureL caps) (p : Df → Bool) (hp : ∀ v ∈ l, Quiet Go.Proofs.Try.prog k (.agg (encD v) :: caps) (.bool (p v))) :
    Quiet Go.Proofs.Try.prog 41 [.sl (l.map encD), .clo (.func k) [] caps] (.int (idx p l)) := by
  refine quiet_of (rs := #[.tmp 4]) Go.Proofs.Try.func41 rfl rfl rfl mixed rfl rfl fun H hs => ?_
  simp -implicitDefEqProofs only [push_cast, Nat.reduceAdd, Nat.reduceSub, Nat.reduceMul, Nat.reduceLT, Nat.reduceLeDiff, Nat.reduceEqDiff, Nat.reduceBEq, reduceCtorEq, reduceIte, Int.reduceLE, Int.reduceLT, Int.reduceNeg, Int.reduceToNat]
  refine loop_rule hs (σ := Nat) (fun i => i ≤ l.length ∧ ∀ (j : Nat) (h : j < l.length), j < i → p l[j] = false) (fun i => l.length - i)
    (fun i => [(0, .sl (l.map encD)), (1, .clo (.func k) [] caps), (7, .int l.length), (8, .int i)]) (fun _ => []) 0 ⟨by omega, fun j _ h => by omega⟩ ?_ ?_ ?_
  · (try simp -implicitDefEqProofs only [push_cast, Nat.reduceAdd, Nat.reduceSub, Nat.reduceMul, Nat.reduceLT, Nat.reduceLeDiff, Nat.reduceEqDiff, Nat.reduceBEq, reduceCtorEq, reduceIte, Int.reduceLE, Int.reduceLT, Int.reduceNeg, Int.reduceToNat, encDs_pure, hc])
  · (try simp -implicitDefEqProofs only [push_cast, Nat.reduceAdd, Nat.reduceSub, Nat.reduceMul, Nat.reduceLT, Nat.reduceLeDiff, Nat.reduceEqDiff, Nat.reduceBEq, reduceCtorEq, reduceIte, Int.reduceLE, Int.reduceLT, Int.reduceNeg, Int.reduceToNat])
  · rintro i ⟨h2, h3⟩
    by_cases hi : i < l.length
    · have hi' : ((i : Int) < (l.length : Int)) = True := by simp; omega
      have hi0 : (0 ≤ (i : Int)) = True := by simp
      simp -implicitDefEqProofs only [push_cast, Nat.reduceAdd, Nat.reduceSub, Nat.reduceMul, Nat.reduceLT, Nat.reduceLeDiff, Nat.reduceEqDiff, Nat.reduceBEq, reduceCtorEq, reduceIte, Int.reduceLE, Int.reduceLT, Int.reduceNeg, Int.reduceToNat, hi', hi0, encDs_get l i hi, encD_len]
      refine callq (hp l[i] (List.getElem_mem hi)) ?_
      simp -implicitDefEqProofs only [push_cast, Nat.reduceAdd, Nat.reduceSub, Nat.reduceMul, Nat.reduceLT, Nat.reduceLeDiff, Nat.reduceEqDiff, Nat.reduceBEq, reduceCtorEq, reduceIte, Int.reduceLE, Int.reduceLT, Int.reduceNeg, Int.reduceToNat]
      refine ⟨fun h => ?_, fun h => ?_⟩
      · (try simp -implicitDefEqProofs only [push_cast, Nat.reduceAdd, Nat.reduceSub, Nat.reduceMul, Nat.reduceLT, Nat.reduceLeDiff, Nat.reduceEqDiff, Nat.reduceBEq, reduceCtorEq, reduceIte, Int.reduceLE, Int.reduceLT, Int.reduceNeg, Int.reduceToNat])
        exact (idx_hit hi h3 h).symm
      · rw [wrap64 (n := (i : Int) + 1) (by omega) (by omega)]
        refine next_intro (i + 1) ⟨by omega, fun j hj hji => ?_⟩ (by omega) ?_ ?_
        · rcases Nat.lt_or_ge j i with h4 | h4
          · exact h3 j hj h4
          · obtain rfl : j = i := by omega
            exact h
        · (try simp -implicitDefEqProofs only [push_cast, Nat.reduceAdd, Nat.reduceSub, Nat.reduceMul, Nat.reduceLT, Nat.reduceLeDiff, Nat.reduceEqDiff, Nat.reduceBEq, reduceCtorEq, reduceIte, Int.reduceLE, Int.reduceLT, Int.reduceNeg, Int.reduceToNat, encDs_pure, hc])
        · (try simp -implicitDefEqProofs only [push_cast, Nat.reduceAdd, Nat.reduceSub, Nat.reduceMul, Nat.reduceLT, Nat.reduceLeDiff, Nat.reduceEqDiff, Nat.reduceBEq, reduceCtorEq, reduceIte, Int.reduceLE, Int.reduceLT, Int.reduceNeg, Int.reduceToNat])
    · have hi' : ((i : Int) < (l.length : Int)) = False := by simp; omega
      simp -implicitDefEqProofs only [push_cast, Nat.reduceAdd, Nat.reduceSub, Nat.reduceMul, Nat.reduceLT, Nat.reduceLeDiff, Nat.reduceEqDiff, Nat.reduceBEq, reduceCtorEq, reduceIte, Int.reduceLE, Int.reduceLT, Int.reduceNeg, Int.reduceToNat, hi']
      (try simp -implicitDefEqProofs only [push_cast, Nat.reduceAdd, Nat.reduceSub, Nat.reduceMul, Nat.reduceLT, Nat.reduceLeDiff, Nat.reduceEqDiff, Nat.reduceBEq, reduceCtorEq, reduceIte, Int.reduceLE, Int.reduceLT, Int.reduceNeg, Int.reduceToNat])
      exact (idx_miss fun j hj => h3 j hj (by omega)).symm
theorem containsFuncD_ok (l : List Df) (hl : l.length ≤ 140737488355328) (k : Nat) (caps : List AV) (hc : PureL caps) (p : Df → Bool) (hp : ∀ v ∈ l, Quiet Go.Proofs.Try.prog k (.agg (encD v) :: caps) (.bool (p v))) :
    Quiet Go.Proofs.Try.prog 26 [.sl (l.map encD), .clo (.func k) [] caps] (.bool (l.any p)) := by
  refine quiet_of (rs := #[.tmp 4]) Go.Proofs.Try.func26 rfl rfl rfl mixed rfl rfl fun H hs => ?_
  simp -implicitDefEqProofs only [push_cast, Nat.reduceAdd, Nat.reduceSub, Nat.reduceMul, Nat.reduceLT, Nat.reduceLeDiff, Nat.reduceEqDiff, Nat.reduceBEq, reduceCtorEq, reduceIte, Int.reduceLE, Int.reduceLT, Int.reduceNeg, Int.reduceToNat]
  refine callq (indexFuncD_ok l hl k caps hc p hp) ?_
  simp -implicitDefEqProofs only [push_cast, Nat.reduceAdd, Nat.reduceSub, Nat.reduceMul, Nat.reduceLT, Nat.reduceLeDiff, Nat.reduceEqDiff, Nat.reduceBEq, reduceCtorEq, reduceIte, Int.reduceLE, Int.reduceLT, Int.reduceNeg, Int.reduceToNat, idx_nonneg]
  (try simp -implicitDefEqProofs only [push_cast, Nat.reduceAdd, Nat.reduceSub, Nat.reduceMul, Nat.reduceLT, Nat.reduceLeDiff, Nat.reduceEqDiff, Nat.reduceBEq, reduceCtorEq, reduceIte, Int.reduceLE, Int.reduceLT, Int.reduceNeg, Int.reduceToNat])
theorem indexFuncI_ok (l : List Int) (hl : l.length ≤ 140737488355328) (k : Nat) (caps : List AV) (hc : PureL caps) (p : Int → Bool) (hp : ∀ v ∈ l, Quiet Go.Proofs.Try.prog k (.int v :: caps) (.bool (p v))) :
    Quiet Go.Proofs.Try.prog 29 [.sl (l.map encI), .clo (.func k) [] caps] (.int (idx p l)) := by
  refine quiet_of (rs := #[.tmp 4]) Go.Proofs.Try.func29 rfl rfl rfl mixed rfl rfl fun H hs => ?_
  simp -implicitDefEqProofs only [push_cast, Nat.reduceAdd, Nat.reduceSub, Nat.reduceMul, Nat.reduceLT, Nat.reduceLeDiff, Nat.reduceEqDiff, Nat.reduceBEq, reduceCtorEq, reduceIte, Int.reduceLE, Int.reduceLT, Int.reduceNeg, Int.reduceToNat]
  refine loop_rule hs (σ := Nat) (fun i => i ≤ l.length ∧ ∀ (j : Nat) (h : j < l.length), j < i → p l[j] = false) (fun i => l.length - i)
    (fun i => [(0, .sl (l.map encI)), (1, .clo (.func k) [] caps), (7, .int l.length), (8, .int i)]) (fun _ => []) 0 ⟨by omega, fun j _ h => by omega⟩ ?_ ?_ ?_
  · (try simp -implicitDefEqProofs only [push_cast, Nat.reduceAdd, Nat.reduceSub, Nat.reduceMul, Nat.reduceLT, Nat.reduceLeDiff, Nat.reduceEqDiff, Nat.reduceBEq, reduceCtorEq, reduceIte, Int.reduceLE, Int.reduceLT, Int.reduceNeg, Int.reduceToNat, encIs_pure, hc])
  · (try simp -implicitDefEqProofs only [push_cast, Nat.reduceAdd, Nat.reduceSub, Nat.reduceMul, Nat.reduceLT, Nat.reduceLeDiff, Nat.reduceEqDiff, Nat.reduceBEq, reduceCtorEq, reduceIte, Int.reduceLE, Int.reduceLT, Int.reduceNeg, Int.reduceToNat])
  · rintro i ⟨h2, h3⟩
    by_cases hi : i < l.length
    · have hi' : ((i : Int) < (l.length : Int)) = True := by simp; omega
      have hi0 : (0 ≤ (i : Int)) = True := by simp
      simp -implicitDefEqProofs only [push_cast, Nat.reduceAdd, Nat.reduceSub, Nat.reduceMul, Nat.reduceLT, Nat.reduceLeDiff, Nat.reduceEqDiff, Nat.reduceBEq, reduceCtorEq, reduceIte, Int.reduceLE, Int.reduceLT, Int.reduceNeg, Int.reduceToNat, hi', hi0, encIs_get l i hi, encI]
      refine callq (hp l[i] (List.getElem_mem hi)) ?_
      simp -implicitDefEqProofs only [push_cast, Nat.reduceAdd, Nat.reduceSub, Nat.reduceMul, Nat.reduceLT, Nat.reduceLeDiff, Nat.reduceEqDiff, Nat.reduceBEq, reduceCtorEq, reduceIte, Int.reduceLE, Int.reduceLT, Int.reduceNeg, Int.reduceToNat]
      refine ⟨fun h => ?_, fun h => ?_⟩
      · (try simp -implicitDefEqProofs only [push_cast, Nat.reduceAdd, Nat.reduceSub, Nat.reduceMul, Nat.reduceLT, Nat.reduceLeDiff, Nat.reduceEqDiff, Nat.reduceBEq, reduceCtorEq, reduceIte, Int.reduceLE, Int.reduceLT, Int.reduceNeg, Int.reduceToNat])
        exact (idx_hit hi h3 h).symm
      · rw [wrap64 (n := (i : Int) + 1) (by omega) (by omega)]
        refine next_intro (i + 1) ⟨by omega, fun j hj hji => ?_⟩ (by omega) ?_ ?_
        · rcases Nat.lt_or_ge j i with h4 | h4
          · exact h3 j hj h4
          · obtain rfl : j = i := by omega
            exact h
        · (try simp -implicitDefEqProofs only [push_cast, Nat.reduceAdd, Nat.reduceSub, Nat.reduceMul, Nat.reduceLT, Nat.reduceLeDiff, Nat.reduceEqDiff, Nat.reduceBEq, reduceCtorEq, reduceIte, Int.reduceLE, Int.reduceLT, Int.reduceNeg, Int.reduceToNat, encIs_pure, hc])
        · (try simp -implicitDefEqProofs only [push_cast, Nat.reduceAdd, Nat.reduceSub, Nat.reduceMul, Nat.reduceLT, Nat.reduceLeDiff, Nat.reduceEqDiff, Nat.reduceBEq, reduceCtorEq, reduceIte, Int.reduceLE, Int.reduceLT, Int.reduceNeg, Int.reduceToNat])
    · have hi' : ((i : Int) < (l.length : Int)) = False := by simp; omega
      simp -implicitDefEqProofs only [push_cast, Nat.reduceAdd, Nat.reduceSub, Nat.reduceMul, Nat.reduceLT, Nat.reduceLeDiff, Nat.reduceEqDiff, Nat.reduceBEq, reduceCtorEq, reduceIte, Int.reduceLE, Int.reduceLT, Int.reduceNeg, Int.reduceToNat, hi']
      (try simp -implicitDefEqProofs only [push_cast, Nat.reduceAdd, Nat.reduceSub, Nat.reduceMul, Nat.reduceLT, Nat.reduceLeDiff, Nat.reduceEqDiff, Nat.reduceBEq, reduceCtorEq, reduceIte, Int.reduceLE, Int.reduceLT, Int.reduceNeg, Int.reduceToNat])
      exact (idx_miss fun j hj => h3 j hj (by omega)).symm
theorem containsFuncI_ok (l : List Int) (hl : l.length ≤ 140737488355328) (k : Nat) (caps : List AV) (hc : PureL caps) (p : Int → Bool) (hp : ∀ v ∈ l, Quiet Go.Proofs.Try.prog k (.int v :: caps) (.bool (p v))) :
    Quiet Go.Proofs.Try.prog 15 [.sl (l.map encI), .clo (.func k) [] caps] (.bool (l.any p)) := by
  refine quiet_of (rs := #[.tmp 4]) Go.Proofs.Try.func15 rfl rfl rfl mixed rfl rfl fun H hs => ?_
  simp -implicitDefEqProofs only [push_cast, Nat.reduceAdd, Nat.reduceSub, Nat.reduceMul, Nat.reduceLT, Nat.reduceLeDiff, Nat.reduceEqDiff, Nat.reduceBEq, reduceCtorEq, reduceIte, Int.reduceLE, Int.reduceLT, Int.reduceNeg, Int.reduceToNat]
  refine callq (indexFuncI_ok l hl k caps hc p hp) ?_
  simp -implicitDefEqProofs only [push_cast, Nat.reduceAdd, Nat.reduceSub, Nat.reduceMul, Nat.reduceLT, Nat.reduceLeDiff, Nat.reduceEqDiff, Nat.reduceBEq, reduceCtorEq, reduceIte, Int.reduceLE, Int.reduceLT, Int.reduceNeg, Int.reduceToNat, idx_nonneg]
  (try simp -implicitDefEqProofs only [push_cast, Nat.reduceAdd, Nat.reduceSub, Nat.reduceMul, Nat.reduceLT, Nat.reduceLeDiff, Nat.reduceEqDiff, Nat.reduceBEq, reduceCtorEq, reduceIte, Int.reduceLE, Int.reduceLT, Int.reduceNeg, Int.reduceToNat])

theorem May1_ok (d : Df) : Quiet Go.Proofs.Try.prog 27 [.agg (encD d)] (.bool (!d.may)) := by
  refine quiet_of (rs := #[.tmp 2]) Go.Proofs.Try.func27 rfl rfl rfl mixed rfl rfl fun H hs => ?_
  simp -implicitDefEqProofs only [push_cast, Nat.reduceAdd, Nat.reduceSub, Nat.reduceMul, Nat.reduceLT, Nat.reduceLeDiff, Nat.reduceEqDiff, Nat.reduceBEq, reduceCtorEq, reduceIte, Int.reduceLE, Int.reduceLT, Int.reduceNeg, Int.reduceToNat, encD]
  refine callq (one_ok d) ?_
  simp -implicitDefEqProofs only [push_cast, Nat.reduceAdd, Nat.reduceSub, Nat.reduceMul, Nat.reduceLT, Nat.reduceLeDiff, Nat.reduceEqDiff, Nat.reduceBEq, reduceCtorEq, reduceIte, Int.reduceLE, Int.reduceLT, Int.reduceNeg, Int.reduceToNat]
  (try simp -implicitDefEqProofs only [push_cast, Nat.reduceAdd, Nat.reduceSub, Nat.reduceMul, Nat.reduceLT, Nat.reduceLeDiff, Nat.reduceEqDiff, Nat.reduceBEq, reduceCtorEq, reduceIte, Int.reduceLE, Int.reduceLT, Int.reduceNeg, Int.reduceToNat])
theorem dataMay_ok (c : List Df) (hc : c.length ≤ 1000000) : Quiet Go.Proofs.Try.prog 14 [.agg [.sl (c.map encD)]] (.bool (catMay c)) := by
  refine quiet_of (rs := #[.tmp 2]) Go.Proofs.Try.func14 rfl rfl rfl mixed rfl rfl fun H hs => ?_
  simp -implicitDefEqProofs only [push_cast, Nat.reduceAdd, Nat.reduceSub, Nat.reduceMul, Nat.reduceLT, Nat.reduceLeDiff, Nat.reduceEqDiff, Nat.reduceBEq, reduceCtorEq, reduceIte, Int.reduceLE, Int.reduceLT, Int.reduceNeg, Int.reduceToNat]
  refine callq (in_ok _ _ _) ?_
  simp -implicitDefEqProofs only [push_cast, Nat.reduceAdd, Nat.reduceSub, Nat.reduceMul, Nat.reduceLT, Nat.reduceLeDiff, Nat.reduceEqDiff, Nat.reduceBEq, reduceCtorEq, reduceIte, Int.reduceLE, Int.reduceLT, Int.reduceNeg, Int.reduceToNat]
  refine gcallq' (.bool (c.any fun d => !d.may)) (fun h => h) (fun _ => containsFuncD_ok c (by omega) _ [] trivial (fun d => !d.may) fun d _ => May1_ok d) ?_
  simp -implicitDefEqProofs only [push_cast, Nat.reduceAdd, Nat.reduceSub, Nat.reduceMul, Nat.reduceLT, Nat.reduceLeDiff, Nat.reduceEqDiff, Nat.reduceBEq, reduceCtorEq, reduceIte, Int.reduceLE, Int.reduceLT, Int.reduceNeg, Int.reduceToNat]
  (try simp -implicitDefEqProofs only [push_cast, Nat.reduceAdd, Nat.reduceSub, Nat.reduceMul, Nat.reduceLT, Nat.reduceLeDiff, Nat.reduceEqDiff, Nat.reduceBEq, reduceCtorEq, reduceIte, Int.reduceLE, Int.reduceLT, Int.reduceNeg, Int.reduceToNat])
  unfold catMay inI
  rw [List.all_eq_not_any_not]
  have e1 : decide ((1 : Int) ≤ (c.length : Int)) = decide (1 ≤ c.length) := by rw [decide_eq_decide]; omega
  have e2 : decide ((c.length : Int) ≤ 4) = decide (c.length ≤ 4) := by rw [decide_eq_decide]; omega
  rw [e1, e2]
theorem Col_ok (o i : Int) (h0 : 0 ≤ o) (h1 : o ≤ 3) (h2 : 0 ≤ i) (h3 : i ≤ 3) : Quiet Go.Proofs.Try.prog 30 [.int o, .int i] (.int (4 * o + i)) := by
  refine quiet_of (rs := #[.tmp 4]) Go.Proofs.Try.func30 rfl rfl rfl mixed rfl rfl fun H hs => ?_
  simp -implicitDefEqProofs only [push_cast, Nat.reduceAdd, Nat.reduceSub, Nat.reduceMul, Nat.reduceLT, Nat.reduceLeDiff, Nat.reduceEqDiff, Nat.reduceBEq, reduceCtorEq, reduceIte, Int.reduceLE, Int.reduceLT, Int.reduceNeg, Int.reduceToNat]
  refine callq (in_ok _ _ _) ?_
  simp -implicitDefEqProofs only [push_cast, Nat.reduceAdd, Nat.reduceSub, Nat.reduceMul, Nat.reduceLT, Nat.reduceLeDiff, Nat.reduceEqDiff, Nat.reduceBEq, reduceCtorEq, reduceIte, Int.reduceLE, Int.reduceLT, Int.reduceNeg, Int.reduceToNat]
  refine gcallq' (.bool (inI i 0 3)) (fun h => h) (fun _ => in_ok _ _ _) ?_
  simp -implicitDefEqProofs only [push_cast, Nat.reduceAdd, Nat.reduceSub, Nat.reduceMul, Nat.reduceLT, Nat.reduceLeDiff, Nat.reduceEqDiff, Nat.reduceBEq, reduceCtorEq, reduceIte, Int.reduceLE, Int.reduceLT, Int.reduceNeg, Int.reduceToNat]
  have a1 : inI o 0 3 = true := by simp [inI, h0, h1]
  have a2 : inI i 0 3 = true := by simp [inI, h2, h3]
  rw [a1, a2]
  refine ⟨fun h => absurd h (by decide), fun _ => ?_⟩
  simp only [IntKind.wrap_i64]
  omega
theorem Split_ok (c : Int) (h0 : 0 ≤ c) (h1 : c ≤ 15) : Quiet Go.Proofs.Try.prog 80 [.int c] (.tup [.int (c / 4), .int (c % 4), .bool true]) := by
  refine quiet_of (rs := #[.tmp 2, .tmp 3, .tmp 4]) Go.Proofs.Try.func80 rfl rfl rfl mixed rfl rfl fun H hs => ?_
  simp -implicitDefEqProofs only [push_cast, Nat.reduceAdd, Nat.reduceSub, Nat.reduceMul, Nat.reduceLT, Nat.reduceLeDiff, Nat.reduceEqDiff, Nat.reduceBEq, reduceCtorEq, reduceIte, Int.reduceLE, Int.reduceLT, Int.reduceNeg, Int.reduceToNat]
  refine callq (in_ok _ _ _) ?_
  simp -implicitDefEqProofs only [push_cast, Nat.reduceAdd, Nat.reduceSub, Nat.reduceMul, Nat.reduceLT, Nat.reduceLeDiff, Nat.reduceEqDiff, Nat.reduceBEq, reduceCtorEq, reduceIte, Int.reduceLE, Int.reduceLT, Int.reduceNeg, Int.reduceToNat]
  have a1 : inI c 0 15 = true := by simp [inI, h0, h1]
  rw [a1]
  refine ⟨fun h => absurd h (by decide), fun _ => ⟨by decide, by decide, ?_, ?_⟩⟩
  · rw [Int.tdiv_eq_ediv_of_nonneg h0, IntKind.wrap_i64]
    omega
  · rw [Int.tmod_eq_emod_of_nonneg h0]
theorem setHolds_ok (s t : Int) (h0 : 0 ≤ t) (h1 : t ≤ 15) : Quiet Go.Proofs.Try.prog 40 [.int s, .int t] (.bool (holdsI s t)) := by
  refine quiet_of (rs := #[.tmp 4]) Go.Proofs.Try.func40 rfl rfl rfl mixed rfl rfl fun H hs => ?_
  simp -implicitDefEqProofs only [push_cast, Nat.reduceAdd, Nat.reduceSub, Nat.reduceMul, Nat.reduceLT, Nat.reduceLeDiff, Nat.reduceEqDiff, Nat.reduceBEq, reduceCtorEq, reduceIte, Int.reduceLE, Int.reduceLT, Int.reduceNeg, Int.reduceToNat]
  exact holds_bit s t h0 h1

end Go.Sim.Try
set_option linter.unusedSimpArgs false
set_option linter.unusedVariables false
set_option maxRecDepth 100000
namespace Go.Sim.Try
open Go Go.Sim
attribute [local push_cast] aops_cons aops_nil aopG_none aopG_some aopP_eq aopE_eq aopC_eq aopE?_eq aopC?_eq aopB_eq aopB?_eq abr anilq gopP_eq gopL_eq ahead_cons ahead_nil ahdG_none ahdG_some ahdP_eq ahdN_eq ahdC_eq ahdN?_eq ahdS_eq ahdS?_eq astoreN ahdC?_eq ghdP_eq ghdC_eq ghdC?_eq ghdZ_f ghdZ_t ahdI_eq ahdI?_eq ghdN?_eq aim_nil aim_cons isIn_nil isIn_none isIn_cons aimm aheP_eq aheA_eq aheC_eq aheC?_eq aheI?_eq aheA?_eq gheP_eq gheC_eq gheC?_eq gheZ_eq aheG_none aheG_some aheff_cons aheff_nil aapp gro_rsl gro_lit gro_esl opt_some opt_none no_eq acondT_true acondT_false acondT_lit aw_skip aw_region aw_regionD aw_seq aw_cond aw_block aw_loop aw_exit aw_label aw_ret thn_normal thn_exit thn_ret inb_normal inb_exit inb_ret qret_ret qret_normal gcond apure aeff anew acallee ares aresT aresL aresC ares1 qfin_eq ev ofV evL gokL tget tput_some tput_none initT abin aint aun aload afaddr aiaddr afield aindex aextract apick pickv_lit Bool.or_false Bool.false_or Bool.or_true Bool.true_or imp_self aslice chunk roomB abound aconv abuild afill splice alen aminmax abuiltin anil apart Value.oneCell' astore aappend srcEs abuildSlice asets isEq plus_obj plus_nxt plus_add plus_set plus_del IntKind.bits Option.map_some Option.map_none Option.bind_some Option.bind_none Option.join_some Option.getD_some Option.getD_none Option.toList Option.isSome_some List.getElem?_toArray List.getElem?_cons_zero List.getElem?_cons_succ List.getElem?_nil List.length_cons List.length_nil List.length_map List.head?_cons List.cons_append List.nil_append List.append_nil List.map_cons List.map_nil List.getD_cons_zero List.getD_cons_succ List.replicate_succ List.replicate_zero List.set_cons_zero List.set_cons_succ List.take_succ_cons List.take_zero List.drop_succ_cons List.drop_zero List.all_cons List.all_nil Nat.zero_add if_true if_false true_and and_true false_and and_false true_implies implies_true forall_const Bool.and_true Bool.true_and Bool.false_and Bool.and_false Bool.true_beq Bool.false_beq Bool.not_not beq_tt beq_ff Int.toNat_natCast decide_true decide_false Bool.not_true Bool.not_false Bool.true_eq_false Bool.false_eq_true false_implies exists_prop eq_self bne_self_eq_false beq_self_eq_true decide_eq_true_eq decide_eq_false_iff_not Bool.not_eq_true' Bool.not_eq_false' AV.int AV.bool AV.nilS ne_eq not_false_eq_true not_true_eq_false exists_eq_left exists_eq_left' Nat.lt_irrefl core_lit grd_lit acells_lit one_lit core_agg grd_agg acells_agg one_agg core_tup grd_tup acells_tup one_tup core_sl grd_sl acells_sl one_sl core_esl grd_esl acells_esl one_esl core_rsl grd_rsl acells_rsl one_rsl core_ptr grd_ptr acells_ptr one_ptr core_iptr grd_iptr acells_iptr one_iptr core_clo grd_clo acells_clo one_clo core_mp grd_mp acells_mp one_mp core_any grd_any acells_any one_any core_gv grd_gv fit_agg fit_lit fit_sl fit_esl fit_rsl fit_ptr fit_iptr fit_clo fit_mp retq_ret retq_normal set_nxt set_set plus_obj_set plus_set_set app_get0 app_get app_set0 app_set List.append_assoc List.length_append List.length_set Nat.lt_add_one Nat.add_lt_add_iff_right Nat.lt_add_right_iff_pos Nat.add_lt_add_iff_left List.mem_cons List.not_mem_nil or_false forall_eq forall_eq_or_imp lt_s0 lt_s1 lt_s2 lt_s3 lt_s4 lt_s5 lt_s6 lt_s7 lt_s8 pickv_t pickv_f or_nand or_nand2 imp_and_l SealT SealOs sealO_cells sl_lit sl_any sl_agg sl_tup sl_sl sl_rsl slO sl_esl sl_nil sl_eslesl sl_eslnil sl_rslrsl sl_eslrsl sl_nilrsl sl_ptr sl_iptr sl_ptri slP sl_clo sl_mp sl_gv sll_nil sll_cons slll_nil slll_cons shut_eq shutO Option.join_none Fn.func.injEq and_self sealL_self sealLL_self seal_self PureL PureLL Pure Nat.le_refl Nat.zero_le AV.lit.injEq Value.int.injEq Value.bool.injEq false_or or_true true_or Int.natCast_zero Int.ofNat_zero Int.cast_ofNat_Int Int.natCast_add Int.natCast_one Option.some.injEq piL_is sop_nil sop_cons sop_none sop_some sopO_some sop_new shut_pi shutL_nil shutL_cons exQ_exit exQ_ret exQ_normal Go.Sim.Try.ty_load1 Go.Sim.Try.ty_zero1 Go.Sim.Try.ty_load2 Go.Sim.Try.ty_zero2 Go.Sim.Try.ty_und2 Go.Sim.Try.ty_load3 Go.Sim.Try.ty_zero3 Go.Sim.Try.ty_und3 Go.Sim.Try.ty_load4 Go.Sim.Try.ty_zero4 Go.Sim.Try.ty_und4 Go.Sim.Try.ty_load5 Go.Sim.Try.ty_zero5 Go.Sim.Try.ty_und5 Go.Sim.Try.ty_load9 Go.Sim.Try.ty_zero9 Go.Sim.Try.ty_und9 Go.Sim.Try.ty_load22 Go.Sim.Try.ty_zero22 Go.Sim.Try.ty_el22 Go.Sim.Try.ty_zeroE22 Go.Sim.Try.ty_load26 Go.Sim.Try.ty_zero26 Go.Sim.Try.ty_el26 Go.Sim.Try.ty_zeroE26 Go.Sim.Try.ty_load28 Go.Sim.Try.ty_zero28 Go.Sim.Try.ty_fld28_0 Go.Sim.Try.ty_part28_0 Go.Sim.Try.ty_struct28 Go.Sim.Try.ty_load29 Go.Sim.Try.ty_zero29 Go.Sim.Try.ty_el29 Go.Sim.Try.ty_zeroE29 Go.Sim.Try.ty_load31 Go.Sim.Try.ty_zero31 Go.Sim.Try.ty_fld31_0 Go.Sim.Try.ty_part31_0 Go.Sim.Try.ty_struct31 Go.Sim.Try.ty_load35 Go.Sim.Try.ty_zero35 Go.Sim.Try.ty_fld35_0 Go.Sim.Try.ty_part35_0 Go.Sim.Try.ty_fld35_1 Go.Sim.Try.ty_part35_1 Go.Sim.Try.ty_struct35 Go.Sim.Try.ty_load36 Go.Sim.Try.ty_zero36 Go.Sim.Try.ty_el36 Go.Sim.Try.ty_zeroE36 Go.Sim.Try.ty_load38 Go.Sim.Try.ty_zero38 Go.Sim.Try.ty_fld38_0 Go.Sim.Try.ty_part38_0 Go.Sim.Try.ty_fld38_1 Go.Sim.Try.ty_part38_1 Go.Sim.Try.ty_fld38_2 Go.Sim.Try.ty_part38_2 Go.Sim.Try.ty_fld38_3 Go.Sim.Try.ty_part38_3 Go.Sim.Try.ty_struct38 Go.Sim.Try.ty_load40 Go.Sim.Try.ty_zero40 Go.Sim.Try.ty_fld40_0 Go.Sim.Try.ty_part40_0 Go.Sim.Try.ty_fld40_1 Go.Sim.Try.ty_part40_1 Go.Sim.Try.ty_fld40_2 Go.Sim.Try.ty_part40_2 Go.Sim.Try.ty_fld40_3 Go.Sim.Try.ty_part40_3 Go.Sim.Try.ty_fld40_4 Go.Sim.Try.ty_part40_4 Go.Sim.Try.ty_fld40_5 Go.Sim.Try.ty_part40_5 Go.Sim.Try.ty_struct40 Go.Sim.Try.ty_load43 Go.Sim.Try.ty_zero43 Go.Sim.Try.ty_und43 Go.Sim.Try.ty_load47 Go.Sim.Try.ty_zero47 Go.Sim.Try.ty_fld47_0 Go.Sim.Try.ty_part47_0 Go.Sim.Try.ty_fld47_1 Go.Sim.Try.ty_part47_1 Go.Sim.Try.ty_struct47 Go.Sim.Try.ty_load48 Go.Sim.Try.ty_zero48 Go.Sim.Try.ty_el48 Go.Sim.Try.ty_zeroE48 Go.Sim.Try.ty_load49 Go.Sim.Try.ty_zero49 Go.Sim.Try.ty_el49 Go.Sim.Try.ty_zeroE49 Go.Sim.Try.ty_load52 Go.Sim.Try.ty_zero52 Go.Sim.Try.ty_und52 Go.Sim.Try.ty_load53 Go.Sim.Try.ty_zero53 Go.Sim.Try.ty_load63 Go.Sim.Try.ty_zero63 Go.Sim.Try.ty_arr63 Go.Sim.Try.ty_part63_0 Go.Sim.Try.ty_part63_1 Go.Sim.Try.ty_struct63 Go.Sim.Try.ty_load67 Go.Sim.Try.ty_zero67 Go.Sim.Try.ty_load72 Go.Sim.Try.ty_zero72 Go.Sim.Try.ty_load77 Go.Sim.Try.ty_zero77 Go.Sim.Try.ty_load78 Go.Sim.Try.ty_zero78 Go.Sim.Try.ty_und78 Go.Sim.Try.ty_load85 Go.Sim.Try.ty_zero85 Go.Sim.Try.ty_fld85_0 Go.Sim.Try.ty_part85_0 Go.Sim.Try.ty_fld85_1 Go.Sim.Try.ty_part85_1 Go.Sim.Try.ty_fld85_2 Go.Sim.Try.ty_part85_2 Go.Sim.Try.ty_struct85 Go.Sim.Try.ty_load87 Go.Sim.Try.ty_zero87 Go.Sim.Try.ty_load89 Go.Sim.Try.ty_zero89 Go.Sim.Try.ty_und89 Go.Sim.Try.ty_load98 Go.Sim.Try.ty_zero98 Go.Sim.Try.ty_und98 Go.Sim.Try.ty_load102 Go.Sim.Try.ty_zero102 Go.Sim.Try.ty_load105 Go.Sim.Try.ty_zero105 Go.Sim.Try.ty_und105 Go.Sim.Try.ty_load109 Go.Sim.Try.ty_zero109 Go.Sim.Try.ty_load113 Go.Sim.Try.ty_zero113 encE_mk encE_take encE_len encV encE_one encEs_pure encE_pure

/-- The set of the first columns. -/
def ofC (cols : List Int) (i : Nat) : Bool := cols.any fun c => decide (c / 4 = i)
theorem ofC_snoc (cols : List Int) (c : Int) (h0 : 0 ≤ c) (h1 : c ≤ 15) : bor .i64 (ofBits (ofC cols)) (bshl .i64 1 (c / 4)) = ofBits (ofC (cols ++ [c])) := by
  obtain ⟨k, hk⟩ : ∃ k : Nat, c / 4 = k := ⟨(c / 4).toNat, by omega⟩
  rw [hk, bshl_one k (by omega), bor_range _ _ (ofBits_range _) (ofBits_range _)]
  refine ofBits_ext fun i hi => ?_
  rw [ofBits_bit _ i hi, ofBits_bit _ i hi, ofC, ofC, List.any_append, List.any_cons, List.any_nil, Bool.or_false, hk]
  congr 1
  rw [decide_eq_decide]
  omega
theorem ofSet_ok (cols : List Int) (hl : cols.length ≤ 1000000) (hr : ∀ c ∈ cols, 0 ≤ c ∧ c ≤ 15) : Quiet Go.Proofs.Try.prog 60 [.sl (cols.map encI)] (.int (ofBits (ofC cols))) := by
  refine quiet_of (rs := #[.tmp 2]) Go.Proofs.Try.func60 rfl rfl rfl mixed rfl rfl fun H hs => ?_
  simp -implicitDefEqProofs only [push_cast, Nat.reduceAdd, Nat.reduceSub, Nat.reduceMul, Nat.reduceLT, Nat.reduceLeDiff, Nat.reduceEqDiff, Nat.reduceBEq, reduceCtorEq, reduceIte, Int.reduceLE, Int.reduceLT, Int.reduceNeg, Int.reduceToNat]
  refine loop_rule hs (σ := Nat) (fun i => i ≤ cols.length) (fun i => cols.length - i)
    (fun i => [(9, .sl (cols.map encI)), (3, .int (ofBits (ofC (cols.take i)))), (10, .int cols.length), (11, .int i)]) (fun _ => []) 0 (by omega) ?_ ?_ ?_
  · (try simp -implicitDefEqProofs only [push_cast, Nat.reduceAdd, Nat.reduceSub, Nat.reduceMul, Nat.reduceLT, Nat.reduceLeDiff, Nat.reduceEqDiff, Nat.reduceBEq, reduceCtorEq, reduceIte, Int.reduceLE, Int.reduceLT, Int.reduceNeg, Int.reduceToNat, encIs_pure])
    rfl
  · (try simp -implicitDefEqProofs only [push_cast, Nat.reduceAdd, Nat.reduceSub, Nat.reduceMul, Nat.reduceLT, Nat.reduceLeDiff, Nat.reduceEqDiff, Nat.reduceBEq, reduceCtorEq, reduceIte, Int.reduceLE, Int.reduceLT, Int.reduceNeg, Int.reduceToNat])
  · rintro i h2
    by_cases hi : i < cols.length
    · have hi' : ((i : Int) < (cols.length : Int)) = True := by simp; omega
      have hi0 : (0 ≤ (i : Int)) = True := by simp
      have hc := hr cols[i] (List.getElem_mem hi)
      simp -implicitDefEqProofs only [push_cast, Nat.reduceAdd, Nat.reduceSub, Nat.reduceMul, Nat.reduceLT, Nat.reduceLeDiff, Nat.reduceEqDiff, Nat.reduceBEq, reduceCtorEq, reduceIte, Int.reduceLE, Int.reduceLT, Int.reduceNeg, Int.reduceToNat, hi', hi0, encIs_get cols i hi, encI]
      refine callq (Split_ok cols[i] hc.1 hc.2) ?_
      simp -implicitDefEqProofs only [push_cast, Nat.reduceAdd, Nat.reduceSub, Nat.reduceMul, Nat.reduceLT, Nat.reduceLeDiff, Nat.reduceEqDiff, Nat.reduceBEq, reduceCtorEq, reduceIte, Int.reduceLE, Int.reduceLT, Int.reduceNeg, Int.reduceToNat]
      refine ⟨by omega, ?_⟩
      rw [wrap64 (n := (i : Int) + 1) (by omega) (by omega), ofC_snoc _ _ hc.1 hc.2, ← List.take_succ_eq_append_getElem hi]
      refine next_intro (i + 1) (by omega) (by omega) ?_ ?_
      · (try simp -implicitDefEqProofs only [push_cast, Nat.reduceAdd, Nat.reduceSub, Nat.reduceMul, Nat.reduceLT, Nat.reduceLeDiff, Nat.reduceEqDiff, Nat.reduceBEq, reduceCtorEq, reduceIte, Int.reduceLE, Int.reduceLT, Int.reduceNeg, Int.reduceToNat, encIs_pure])
      · (try simp -implicitDefEqProofs only [push_cast, Nat.reduceAdd, Nat.reduceSub, Nat.reduceMul, Nat.reduceLT, Nat.reduceLeDiff, Nat.reduceEqDiff, Nat.reduceBEq, reduceCtorEq, reduceIte, Int.reduceLE, Int.reduceLT, Int.reduceNeg, Int.reduceToNat])
    · have hi' : ((i : Int) < (cols.length : Int)) = False := by simp; omega
      simp -implicitDefEqProofs only [push_cast, Nat.reduceAdd, Nat.reduceSub, Nat.reduceMul, Nat.reduceLT, Nat.reduceLeDiff, Nat.reduceEqDiff, Nat.reduceBEq, reduceCtorEq, reduceIte, Int.reduceLE, Int.reduceLT, Int.reduceNeg, Int.reduceToNat, hi']
      (try simp -implicitDefEqProofs only [push_cast, Nat.reduceAdd, Nat.reduceSub, Nat.reduceMul, Nat.reduceLT, Nat.reduceLeDiff, Nat.reduceEqDiff, Nat.reduceBEq, reduceCtorEq, reduceIte, Int.reduceLE, Int.reduceLT, Int.reduceNeg, Int.reduceToNat])
      rw [List.take_of_length_le (by omega)]
theorem ofE_ok (e : Ex) (hok : e.Ok) (hc : cnt e ≤ 1000000) : Quiet Go.Proofs.Try.prog 46 [.agg (encE e)] (.int (setE e)) := by
  refine quiet_of (rs := #[.tmp 2]) Go.Proofs.Try.func46 rfl rfl rfl mixed rfl rfl fun H hs => ?_
  simp -implicitDefEqProofs only [push_cast, Nat.reduceAdd, Nat.reduceSub, Nat.reduceMul, Nat.reduceLT, Nat.reduceLeDiff, Nat.reduceEqDiff, Nat.reduceBEq, reduceCtorEq, reduceIte, Int.reduceLE, Int.reduceLT, Int.reduceNeg, Int.reduceToNat]
  refine callq (Cols_ok e hok hc) ?_
  simp -implicitDefEqProofs only [push_cast, Nat.reduceAdd, Nat.reduceSub, Nat.reduceMul, Nat.reduceLT, Nat.reduceLeDiff, Nat.reduceEqDiff, Nat.reduceBEq, reduceCtorEq, reduceIte, Int.reduceLE, Int.reduceLT, Int.reduceNeg, Int.reduceToNat]
  refine callq (ofSet_ok e.cols (Nat.le_trans (cols_len e) hc) fun c hx => ?_) ?_
  · by_cases hm : e.may = true
    · exact cols_range e (fine_of_may hm) c ((cols_mem hm c).1 hx)
    · rw [cols_eq, if_neg hm] at hx
      cases hx
  · simp -implicitDefEqProofs only [push_cast, Nat.reduceAdd, Nat.reduceSub, Nat.reduceMul, Nat.reduceLT, Nat.reduceLeDiff, Nat.reduceEqDiff, Nat.reduceBEq, reduceCtorEq, reduceIte, Int.reduceLE, Int.reduceLT, Int.reduceNeg, Int.reduceToNat]
    (try simp -implicitDefEqProofs only [push_cast, Nat.reduceAdd, Nat.reduceSub, Nat.reduceMul, Nat.reduceLT, Nat.reduceLeDiff, Nat.reduceEqDiff, Nat.reduceBEq, reduceCtorEq, reduceIte, Int.reduceLE, Int.reduceLT, Int.reduceNeg, Int.reduceToNat])
    rfl
theorem containsI_ok (l : List Int) (hl : l.length ≤ 1000000) (x : Int) : Quiet Go.Proofs.Try.prog 21 [.sl (l.map encI), .int x] (.bool (l.contains x)) := by
  refine quiet_of (rs := #[.tmp 4]) Go.Proofs.Try.func21 rfl rfl rfl mixed rfl rfl fun H hs => ?_
  simp -implicitDefEqProofs only [push_cast, Nat.reduceAdd, Nat.reduceSub, Nat.reduceMul, Nat.reduceLT, Nat.reduceLeDiff, Nat.reduceEqDiff, Nat.reduceBEq, reduceCtorEq, reduceIte, Int.reduceLE, Int.reduceLT, Int.reduceNeg, Int.reduceToNat]
  refine callq (index_ok l (by omega) x) ?_
  simp -implicitDefEqProofs only [push_cast, Nat.reduceAdd, Nat.reduceSub, Nat.reduceMul, Nat.reduceLT, Nat.reduceLeDiff, Nat.reduceEqDiff, Nat.reduceBEq, reduceCtorEq, reduceIte, Int.reduceLE, Int.reduceLT, Int.reduceNeg, Int.reduceToNat, idx_nonneg]
  (try simp -implicitDefEqProofs only [push_cast, Nat.reduceAdd, Nat.reduceSub, Nat.reduceMul, Nat.reduceLT, Nat.reduceLeDiff, Nat.reduceEqDiff, Nat.reduceBEq, reduceCtorEq, reduceIte, Int.reduceLE, Int.reduceLT, Int.reduceNeg, Int.reduceToNat])
  rw [Bool.eq_iff_iff, List.any_eq_true, List.contains_iff_mem]
  constructor
  · rintro ⟨y, hy, h⟩
    rw [decide_eq_true_eq] at h
    rw [h]; exact hy
  · exact fun h => ⟨x, h, decide_eq_true rfl⟩
theorem within1_ok (l : List Int) (hl : l.length ≤ 1000000) (x : Int) : Quiet Go.Proofs.Try.prog 36 [.int x, .iptr [.sl (l.map encI)]] (.bool (!l.contains x)) := by
  refine quiet_of (rs := #[.tmp 3]) Go.Proofs.Try.func36 rfl rfl rfl mixed rfl rfl fun H hs => ?_
  simp -implicitDefEqProofs only [push_cast, Nat.reduceAdd, Nat.reduceSub, Nat.reduceMul, Nat.reduceLT, Nat.reduceLeDiff, Nat.reduceEqDiff, Nat.reduceBEq, reduceCtorEq, reduceIte, Int.reduceLE, Int.reduceLT, Int.reduceNeg, Int.reduceToNat]
  refine callq (containsI_ok l hl x) ?_
  simp -implicitDefEqProofs only [push_cast, Nat.reduceAdd, Nat.reduceSub, Nat.reduceMul, Nat.reduceLT, Nat.reduceLeDiff, Nat.reduceEqDiff, Nat.reduceBEq, reduceCtorEq, reduceIte, Int.reduceLE, Int.reduceLT, Int.reduceNeg, Int.reduceToNat]
  (try simp -implicitDefEqProofs only [push_cast, Nat.reduceAdd, Nat.reduceSub, Nat.reduceMul, Nat.reduceLT, Nat.reduceLeDiff, Nat.reduceEqDiff, Nat.reduceBEq, reduceCtorEq, reduceIte, Int.reduceLE, Int.reduceLT, Int.reduceNeg, Int.reduceToNat])
theorem within_ok (l m : List Int) (hl : l.length ≤ 1000000) (hm : m.length ≤ 1000000) : Quiet Go.Proofs.Try.prog 19 [.sl (l.map encI), .sl (m.map encI)] (.bool (within l m)) := by
  refine quiet_of (rs := #[.tmp 4]) Go.Proofs.Try.func19 rfl rfl rfl mixed rfl rfl fun H hs => ?_
  simp -implicitDefEqProofs only [push_cast, Nat.reduceAdd, Nat.reduceSub, Nat.reduceMul, Nat.reduceLT, Nat.reduceLeDiff, Nat.reduceEqDiff, Nat.reduceBEq, reduceCtorEq, reduceIte, Int.reduceLE, Int.reduceLT, Int.reduceNeg, Int.reduceToNat]
  refine fzk H 0 1 [.sl (l.map encI), .clo (.func 36) [] [.iptr [.sl (m.map encI)]]] (by rfl) (by omega) (by simp) ?_ ?_
  · (try simp -implicitDefEqProofs only [push_cast, Nat.reduceAdd, Nat.reduceSub, Nat.reduceMul, Nat.reduceLT, Nat.reduceLeDiff, Nat.reduceEqDiff, Nat.reduceBEq, reduceCtorEq, reduceIte, Int.reduceLE, Int.reduceLT, Int.reduceNeg, Int.reduceToNat, encIs_pure])
  refine callq (containsFuncI_ok l (by omega) _ [.iptr [.sl (m.map encI)]] (by simp [PureL, Pure, encIs_pure]) (fun x => !m.contains x) fun x _ => within1_ok m hm x) ?_
  simp -implicitDefEqProofs only [push_cast, Nat.reduceAdd, Nat.reduceSub, Nat.reduceMul, Nat.reduceLT, Nat.reduceLeDiff, Nat.reduceEqDiff, Nat.reduceBEq, reduceCtorEq, reduceIte, Int.reduceLE, Int.reduceLT, Int.reduceNeg, Int.reduceToNat]
  (try simp -implicitDefEqProofs only [push_cast, Nat.reduceAdd, Nat.reduceSub, Nat.reduceMul, Nat.reduceLT, Nat.reduceLeDiff, Nat.reduceEqDiff, Nat.reduceBEq, reduceCtorEq, reduceIte, Int.reduceLE, Int.reduceLT, Int.reduceNeg, Int.reduceToNat])
  rw [within, List.all_eq_not_any_not]
theorem idxF_take (p : Ex → Bool) (P : List Ex) (i : Nat) (h : i < P.length) : idxF p (P.take (i + 1)) = idxF p (P.take i) ++ (if p P[i] then [(i : Int)] else []) := by
  rw [List.take_succ_eq_append_getElem h, idxF_snoc, List.length_take, Nat.min_eq_left (by omega)]
theorem idxF_yes (p : Ex → Bool) (P : List Ex) (i : Nat) (h : i < P.length) (hp : p P[i] = true) : idxF p (P.take (i + 1)) = idxF p (P.take i) ++ [(i : Int)] := by rw [idxF_take p P i h, if_pos hp]
theorem idxF_no (p : Ex → Bool) (P : List Ex) (i : Nat) (h : i < P.length) (hp : p P[i] = false) : idxF p (P.take (i + 1)) = idxF p (P.take i) := by rw [idxF_take p P i h, if_neg (by simp [hp]), List.append_nil]
theorem idxF_nil (p : Ex → Bool) : idxF p [] = [] := rfl
theorem idxF_lt (p : Ex → Bool) (P : List Ex) : (idxF p P).length ≤ P.length := Nat.le_trans (List.length_filter_le _ _) (by rw [upto_len]; omega)
/-- What is asked, as a value. -/
def encQ (q : Qy) : List AV := [.sl (q.occ.map encI), .sl (q.p.map encE), .int q.by_, .sl (q.sums.map encI), .sl (q.out.map encI), .int q.ord]
/-- The places of those expressions whose set is so. -/
theorem some_Q (q : Qy) (fn : FuncId) (bnd caps : List AV) (hb : PureL bnd) (hc : PureL caps) (p : Ex → Bool) (hP : q.p.length ≤ 1000000) (hok : ∀ e ∈ q.p, e.Ok ∧ cnt e ≤ 1000000)
    (hf : ∀ e ∈ q.p, Quiet Go.Proofs.Try.prog fn (bnd ++ .int (setE e) :: caps) (.bool (p e))) :
    Quiet Go.Proofs.Try.prog 39 [.agg (encQ q), .clo (.func fn) bnd caps] (.sl ((idxF p q.p).map encI)) := by
  refine quiet_of (rs := #[.tmp 4]) Go.Proofs.Try.func39 rfl rfl rfl mixed rfl rfl fun H hs => ?_
  simp -implicitDefEqProofs only [push_cast, Nat.reduceAdd, Nat.reduceSub, Nat.reduceMul, Nat.reduceLT, Nat.reduceLeDiff, Nat.reduceEqDiff, Nat.reduceBEq, reduceCtorEq, reduceIte, Int.reduceLE, Int.reduceLT, Int.reduceNeg, Int.reduceToNat, encQ]
  refine loop_at hs (σ := Nat) (fun i => i ≤ q.p.length) (fun i => q.p.length - i)
    (fun i => [(11, .int i), (10, .int q.p.length), (9, .sl (q.p.map encE)), (5, .rsl (H.nxt + 0) 1 0 (idxF p (q.p.take i)).length), (1, .clo (.func fn) bnd caps)]) (fun i => [some (.cells 1 (rowI (idxF p (q.p.take i))) 0)]) [none] 0 (by omega) rfl ?_ ?_ ?_
  · (try simp -implicitDefEqProofs only [push_cast, Nat.reduceAdd, Nat.reduceSub, Nat.reduceMul, Nat.reduceLT, Nat.reduceLeDiff, Nat.reduceEqDiff, Nat.reduceBEq, reduceCtorEq, reduceIte, Int.reduceLE, Int.reduceLT, Int.reduceNeg, Int.reduceToNat, idxF_nil, rowI_nil, List.take_zero, encEs_pure, hb, hc])
  · (try simp -implicitDefEqProofs only [push_cast, Nat.reduceAdd, Nat.reduceSub, Nat.reduceMul, Nat.reduceLT, Nat.reduceLeDiff, Nat.reduceEqDiff, Nat.reduceBEq, reduceCtorEq, reduceIte, Int.reduceLE, Int.reduceLT, Int.reduceNeg, Int.reduceToNat, idxF_nil, rowI_nil, List.take_zero])
  intro i hi2
  have hlen := idxF_lt p (q.p.take i)
  rw [List.length_take] at hlen
  by_cases hi : i < q.p.length
  · have hi' : ((i : Int) < (q.p.length : Int)) = True := by simp; omega
    have hi0 : (0 ≤ (i : Int)) = True := by simp
    have ho := hok _ (List.getElem_mem hi)
    simp -implicitDefEqProofs only [push_cast, Nat.reduceAdd, Nat.reduceSub, Nat.reduceMul, Nat.reduceLT, Nat.reduceLeDiff, Nat.reduceEqDiff, Nat.reduceBEq, reduceCtorEq, reduceIte, Int.reduceLE, Int.reduceLT, Int.reduceNeg, Int.reduceToNat, hi', hi0, encEs_get q.p i hi]
    refine callq (ofE_ok _ ho.1 ho.2) ?_
    simp -implicitDefEqProofs only [push_cast, Nat.reduceAdd, Nat.reduceSub, Nat.reduceMul, Nat.reduceLT, Nat.reduceLeDiff, Nat.reduceEqDiff, Nat.reduceBEq, reduceCtorEq, reduceIte, Int.reduceLE, Int.reduceLT, Int.reduceNeg, Int.reduceToNat]
    refine callq (hf _ (List.getElem_mem hi)) ?_
    simp -implicitDefEqProofs only [push_cast, Nat.reduceAdd, Nat.reduceSub, Nat.reduceMul, Nat.reduceLT, Nat.reduceLeDiff, Nat.reduceEqDiff, Nat.reduceBEq, reduceCtorEq, reduceIte, Int.reduceLE, Int.reduceLT, Int.reduceNeg, Int.reduceToNat]
    refine ⟨fun h => ⟨by omega, ?_⟩, fun h => ?_⟩
    · rw [wrap64 (n := (i : Int) + 1) (by omega) (by omega)]
      refine next_at [some 3] (i + 1) (by omega) (by omega) rfl ?_ ?_
      · (try simp -implicitDefEqProofs only [push_cast, Nat.reduceAdd, Nat.reduceSub, Nat.reduceMul, Nat.reduceLT, Nat.reduceLeDiff, Nat.reduceEqDiff, Nat.reduceBEq, reduceCtorEq, reduceIte, Int.reduceLE, Int.reduceLT, Int.reduceNeg, Int.reduceToNat, idxF_yes p q.p i hi h, encEs_pure, hb, hc])
      · (try simp -implicitDefEqProofs only [push_cast, Nat.reduceAdd, Nat.reduceSub, Nat.reduceMul, Nat.reduceLT, Nat.reduceLeDiff, Nat.reduceEqDiff, Nat.reduceBEq, reduceCtorEq, reduceIte, Int.reduceLE, Int.reduceLT, Int.reduceNeg, Int.reduceToNat, idxF_yes p q.p i hi h, take_rowI _ _ (Nat.le_refl _), snocI, rowI_pure, rowI_one])
    · rw [wrap64 (n := (i : Int) + 1) (by omega) (by omega)]
      refine next_at [some 0] (i + 1) (by omega) (by omega) rfl ?_ ?_
      · (try simp -implicitDefEqProofs only [push_cast, Nat.reduceAdd, Nat.reduceSub, Nat.reduceMul, Nat.reduceLT, Nat.reduceLeDiff, Nat.reduceEqDiff, Nat.reduceBEq, reduceCtorEq, reduceIte, Int.reduceLE, Int.reduceLT, Int.reduceNeg, Int.reduceToNat, idxF_no p q.p i hi h, encEs_pure, hb, hc])
      · (try simp -implicitDefEqProofs only [push_cast, Nat.reduceAdd, Nat.reduceSub, Nat.reduceMul, Nat.reduceLT, Nat.reduceLeDiff, Nat.reduceEqDiff, Nat.reduceBEq, reduceCtorEq, reduceIte, Int.reduceLE, Int.reduceLT, Int.reduceNeg, Int.reduceToNat, idxF_no p q.p i hi h, rowI_pure, rowI_one])
  · have hi' : ((i : Int) < (q.p.length : Int)) = False := by simp; omega
    simp -implicitDefEqProofs only [push_cast, Nat.reduceAdd, Nat.reduceSub, Nat.reduceMul, Nat.reduceLT, Nat.reduceLeDiff, Nat.reduceEqDiff, Nat.reduceBEq, reduceCtorEq, reduceIte, Int.reduceLE, Int.reduceLT, Int.reduceNeg, Int.reduceToNat, hi']
    (try simp -implicitDefEqProofs only [push_cast, Nat.reduceAdd, Nat.reduceSub, Nat.reduceMul, Nat.reduceLT, Nat.reduceLeDiff, Nat.reduceEqDiff, Nat.reduceBEq, reduceCtorEq, reduceIte, Int.reduceLE, Int.reduceLT, Int.reduceNeg, Int.reduceToNat])
    obtain rfl : i = q.p.length := by omega
    rw [List.take_length, take_rowI _ _ (Nat.le_refl _)]
    exact sealLL_pure _ _ _ (encIs_pure _)
/-- What may be walked. -/
def Qy.Ok (q : Qy) : Prop := q.p.length ≤ 1000000 ∧ (∀ e ∈ q.p, e.Ok ∧ cnt e ≤ 1000000) ∧ q.occ.length ≤ 1000000 ∧ q.sums.length ≤ 1000000 ∧ q.out.length ≤ 1000000
theorem Own_ok (q : Qy) (hq : q.Ok) (s : Int) : Quiet Go.Proofs.Try.prog 22 [.agg (encQ q), .int s] (.sl ((q.own s).map encI)) := by
  have hsm := some_Q q 40 [.int s] [] (by simp [PureL, Pure]) trivial (ownT s) hq.1 hq.2.1 fun e _ => setHolds_ok s _ (setE_range e).1 (setE_range e).2
  refine quiet_of (rs := #[.tmp 4]) Go.Proofs.Try.func22 rfl rfl rfl mixed rfl rfl fun H hs => ?_
  simp only [encQ] at hsm
  simp -implicitDefEqProofs only [push_cast, Nat.reduceAdd, Nat.reduceSub, Nat.reduceMul, Nat.reduceLT, Nat.reduceLeDiff, Nat.reduceEqDiff, Nat.reduceBEq, reduceCtorEq, reduceIte, Int.reduceLE, Int.reduceLT, Int.reduceNeg, Int.reduceToNat, encQ]
  refine callq hsm ?_
  simp -implicitDefEqProofs only [push_cast, Nat.reduceAdd, Nat.reduceSub, Nat.reduceMul, Nat.reduceLT, Nat.reduceLeDiff, Nat.reduceEqDiff, Nat.reduceBEq, reduceCtorEq, reduceIte, Int.reduceLE, Int.reduceLT, Int.reduceNeg, Int.reduceToNat]
  (try simp -implicitDefEqProofs only [push_cast, Nat.reduceAdd, Nat.reduceSub, Nat.reduceMul, Nat.reduceLT, Nat.reduceLeDiff, Nat.reduceEqDiff, Nat.reduceBEq, reduceCtorEq, reduceIte, Int.reduceLE, Int.reduceLT, Int.reduceNeg, Int.reduceToNat])
  exact sealLL_pure _ _ _ (encIs_pure _)
end Go.Sim.Try
set_option linter.unusedSimpArgs false
set_option linter.unusedVariables false
set_option maxRecDepth 100000
namespace Go.Sim.Try
open Go Go.Sim
attribute [local push_cast] aops_cons aops_nil aopG_none aopG_some aopP_eq aopE_eq aopC_eq aopE?_eq aopC?_eq aopB_eq aopB?_eq abr anilq gopP_eq gopL_eq ahead_cons ahead_nil ahdG_none ahdG_some ahdP_eq ahdN_eq ahdC_eq ahdN?_eq ahdS_eq ahdS?_eq astoreN ahdC?_eq ghdP_eq ghdC_eq ghdC?_eq ghdZ_f ghdZ_t ahdI_eq ahdI?_eq ghdN?_eq aim_nil aim_cons isIn_nil isIn_none isIn_cons aimm aheP_eq aheA_eq aheC_eq aheC?_eq aheI?_eq aheA?_eq gheP_eq gheC_eq gheC?_eq gheZ_eq aheG_none aheG_some aheff_cons aheff_nil aapp gro_rsl gro_lit gro_esl opt_some opt_none no_eq acondT_true acondT_false acondT_lit aw_skip aw_region aw_regionD aw_seq aw_cond aw_block aw_loop aw_exit aw_label aw_ret thn_normal thn_exit thn_ret inb_normal inb_exit inb_ret qret_ret qret_normal gcond apure aeff anew acallee ares aresT aresL aresC ares1 qfin_eq ev ofV evL gokL tget tput_some tput_none initT abin aint aun aload afaddr aiaddr afield aindex aextract apick pickv_lit Bool.or_false Bool.false_or Bool.or_true Bool.true_or imp_self aslice chunk roomB abound aconv abuild afill splice alen aminmax abuiltin anil apart Value.oneCell' astore aappend srcEs abuildSlice asets isEq plus_obj plus_nxt plus_add plus_set plus_del IntKind.bits Option.map_some Option.map_none Option.bind_some Option.bind_none Option.join_some Option.getD_some Option.getD_none Option.toList Option.isSome_some List.getElem?_toArray List.getElem?_cons_zero List.getElem?_cons_succ List.getElem?_nil List.length_cons List.length_nil List.length_map List.head?_cons List.cons_append List.nil_append List.append_nil List.map_cons List.map_nil List.getD_cons_zero List.getD_cons_succ List.replicate_succ List.replicate_zero List.set_cons_zero List.set_cons_succ List.take_succ_cons List.take_zero List.drop_succ_cons List.drop_zero List.all_cons List.all_nil Nat.zero_add if_true if_false true_and and_true false_and and_false true_implies implies_true forall_const Bool.and_true Bool.true_and Bool.false_and Bool.and_false Bool.true_beq Bool.false_beq Bool.not_not beq_tt beq_ff Int.toNat_natCast decide_true decide_false Bool.not_true Bool.not_false Bool.true_eq_false Bool.false_eq_true false_implies exists_prop eq_self bne_self_eq_false beq_self_eq_true decide_eq_true_eq decide_eq_false_iff_not Bool.not_eq_true' Bool.not_eq_false' AV.int AV.bool AV.nilS ne_eq not_false_eq_true not_true_eq_false exists_eq_left exists_eq_left' Nat.lt_irrefl core_lit grd_lit acells_lit one_lit core_agg grd_agg acells_agg one_agg core_tup grd_tup acells_tup one_tup core_sl grd_sl acells_sl one_sl core_esl grd_esl acells_esl one_esl core_rsl grd_rsl acells_rsl one_rsl core_ptr grd_ptr acells_ptr one_ptr core_iptr grd_iptr acells_iptr one_iptr core_clo grd_clo acells_clo one_clo core_mp grd_mp acells_mp one_mp core_any grd_any acells_any one_any core_gv grd_gv fit_agg fit_lit fit_sl fit_esl fit_rsl fit_ptr fit_iptr fit_clo fit_mp retq_ret retq_normal set_nxt set_set plus_obj_set plus_set_set app_get0 app_get app_set0 app_set List.append_assoc List.length_append List.length_set Nat.lt_add_one Nat.add_lt_add_iff_right Nat.lt_add_right_iff_pos Nat.add_lt_add_iff_left List.mem_cons List.not_mem_nil or_false forall_eq forall_eq_or_imp lt_s0 lt_s1 lt_s2 lt_s3 lt_s4 lt_s5 lt_s6 lt_s7 lt_s8 pickv_t pickv_f or_nand or_nand2 imp_and_l SealT SealOs sealO_cells sl_lit sl_any sl_agg sl_tup sl_sl sl_rsl slO sl_esl sl_nil sl_eslesl sl_eslnil sl_rslrsl sl_eslrsl sl_nilrsl sl_ptr sl_iptr sl_ptri slP sl_clo sl_mp sl_gv sll_nil sll_cons slll_nil slll_cons shut_eq shutO Option.join_none Fn.func.injEq and_self sealL_self sealLL_self seal_self PureL PureLL Pure Nat.le_refl Nat.zero_le AV.lit.injEq Value.int.injEq Value.bool.injEq false_or or_true true_or Int.natCast_zero Int.ofNat_zero Int.cast_ofNat_Int Int.natCast_add Int.natCast_one Option.some.injEq piL_is sop_nil sop_cons sop_none sop_some sopO_some sop_new shut_pi shutL_nil shutL_cons exQ_exit exQ_ret exQ_normal Go.Sim.Try.ty_load1 Go.Sim.Try.ty_zero1 Go.Sim.Try.ty_load2 Go.Sim.Try.ty_zero2 Go.Sim.Try.ty_und2 Go.Sim.Try.ty_load3 Go.Sim.Try.ty_zero3 Go.Sim.Try.ty_und3 Go.Sim.Try.ty_load4 Go.Sim.Try.ty_zero4 Go.Sim.Try.ty_und4 Go.Sim.Try.ty_load5 Go.Sim.Try.ty_zero5 Go.Sim.Try.ty_und5 Go.Sim.Try.ty_load9 Go.Sim.Try.ty_zero9 Go.Sim.Try.ty_und9 Go.Sim.Try.ty_load22 Go.Sim.Try.ty_zero22 Go.Sim.Try.ty_el22 Go.Sim.Try.ty_zeroE22 Go.Sim.Try.ty_load26 Go.Sim.Try.ty_zero26 Go.Sim.Try.ty_el26 Go.Sim.Try.ty_zeroE26 Go.Sim.Try.ty_load28 Go.Sim.Try.ty_zero28 Go.Sim.Try.ty_fld28_0 Go.Sim.Try.ty_part28_0 Go.Sim.Try.ty_struct28 Go.Sim.Try.ty_load29 Go.Sim.Try.ty_zero29 Go.Sim.Try.ty_el29 Go.Sim.Try.ty_zeroE29 Go.Sim.Try.ty_load31 Go.Sim.Try.ty_zero31 Go.Sim.Try.ty_fld31_0 Go.Sim.Try.ty_part31_0 Go.Sim.Try.ty_struct31 Go.Sim.Try.ty_load35 Go.Sim.Try.ty_zero35 Go.Sim.Try.ty_fld35_0 Go.Sim.Try.ty_part35_0 Go.Sim.Try.ty_fld35_1 Go.Sim.Try.ty_part35_1 Go.Sim.Try.ty_struct35 Go.Sim.Try.ty_load36 Go.Sim.Try.ty_zero36 Go.Sim.Try.ty_el36 Go.Sim.Try.ty_zeroE36 Go.Sim.Try.ty_load38 Go.Sim.Try.ty_zero38 Go.Sim.Try.ty_fld38_0 Go.Sim.Try.ty_part38_0 Go.Sim.Try.ty_fld38_1 Go.Sim.Try.ty_part38_1 Go.Sim.Try.ty_fld38_2 Go.Sim.Try.ty_part38_2 Go.Sim.Try.ty_fld38_3 Go.Sim.Try.ty_part38_3 Go.Sim.Try.ty_struct38 Go.Sim.Try.ty_load40 Go.Sim.Try.ty_zero40 Go.Sim.Try.ty_fld40_0 Go.Sim.Try.ty_part40_0 Go.Sim.Try.ty_fld40_1 Go.Sim.Try.ty_part40_1 Go.Sim.Try.ty_fld40_2 Go.Sim.Try.ty_part40_2 Go.Sim.Try.ty_fld40_3 Go.Sim.Try.ty_part40_3 Go.Sim.Try.ty_fld40_4 Go.Sim.Try.ty_part40_4 Go.Sim.Try.ty_fld40_5 Go.Sim.Try.ty_part40_5 Go.Sim.Try.ty_struct40 Go.Sim.Try.ty_load43 Go.Sim.Try.ty_zero43 Go.Sim.Try.ty_und43 Go.Sim.Try.ty_load47 Go.Sim.Try.ty_zero47 Go.Sim.Try.ty_fld47_0 Go.Sim.Try.ty_part47_0 Go.Sim.Try.ty_fld47_1 Go.Sim.Try.ty_part47_1 Go.Sim.Try.ty_struct47 Go.Sim.Try.ty_load48 Go.Sim.Try.ty_zero48 Go.Sim.Try.ty_el48 Go.Sim.Try.ty_zeroE48 Go.Sim.Try.ty_load49 Go.Sim.Try.ty_zero49 Go.Sim.Try.ty_el49 Go.Sim.Try.ty_zeroE49 Go.Sim.Try.ty_load52 Go.Sim.Try.ty_zero52 Go.Sim.Try.ty_und52 Go.Sim.Try.ty_load53 Go.Sim.Try.ty_zero53 Go.Sim.Try.ty_load63 Go.Sim.Try.ty_zero63 Go.Sim.Try.ty_arr63 Go.Sim.Try.ty_part63_0 Go.Sim.Try.ty_part63_1 Go.Sim.Try.ty_struct63 Go.Sim.Try.ty_load67 Go.Sim.Try.ty_zero67 Go.Sim.Try.ty_load72 Go.Sim.Try.ty_zero72 Go.Sim.Try.ty_load77 Go.Sim.Try.ty_zero77 Go.Sim.Try.ty_load78 Go.Sim.Try.ty_zero78 Go.Sim.Try.ty_und78 Go.Sim.Try.ty_load85 Go.Sim.Try.ty_zero85 Go.Sim.Try.ty_fld85_0 Go.Sim.Try.ty_part85_0 Go.Sim.Try.ty_fld85_1 Go.Sim.Try.ty_part85_1 Go.Sim.Try.ty_fld85_2 Go.Sim.Try.ty_part85_2 Go.Sim.Try.ty_struct85 Go.Sim.Try.ty_load87 Go.Sim.Try.ty_zero87 Go.Sim.Try.ty_load89 Go.Sim.Try.ty_zero89 Go.Sim.Try.ty_und89 Go.Sim.Try.ty_load98 Go.Sim.Try.ty_zero98 Go.Sim.Try.ty_und98 Go.Sim.Try.ty_load102 Go.Sim.Try.ty_zero102 Go.Sim.Try.ty_load105 Go.Sim.Try.ty_zero105 Go.Sim.Try.ty_und105 Go.Sim.Try.ty_load109 Go.Sim.Try.ty_zero109 Go.Sim.Try.ty_load113 Go.Sim.Try.ty_zero113 encE_mk encE_take encE_len encV encE_one encEs_pure encE_pure

theorem May2_ok (o : Int) : Quiet Go.Proofs.Try.prog 17 [.int o] (.bool true) := by
  refine quiet_of (rs := #[.tmp 2]) Go.Proofs.Try.func17 rfl rfl rfl mixed rfl rfl fun H hs => ?_
  simp -implicitDefEqProofs only [push_cast, Nat.reduceAdd, Nat.reduceSub, Nat.reduceMul, Nat.reduceLT, Nat.reduceLeDiff, Nat.reduceEqDiff, Nat.reduceBEq, reduceCtorEq, reduceIte, Int.reduceLE, Int.reduceLT, Int.reduceNeg, Int.reduceToNat]
  (try simp -implicitDefEqProofs only [push_cast, Nat.reduceAdd, Nat.reduceSub, Nat.reduceMul, Nat.reduceLT, Nat.reduceLeDiff, Nat.reduceEqDiff, Nat.reduceBEq, reduceCtorEq, reduceIte, Int.reduceLE, Int.reduceLT, Int.reduceNeg, Int.reduceToNat])
theorem colsTo_yes (c : List Df) (q : Qy) (is : Nat → Bool) (k : Nat) (h : is k = true) : colsTo c q is (k + 1) = colsTo c q is k ++ colsFrom k (tabOf c q k).toNat := by rw [colsTo, if_pos h]
theorem colsTo_no (c : List Df) (q : Qy) (is : Nat → Bool) (k : Nat) (h : is k = false) : colsTo c q is (k + 1) = colsTo c q is k := by rw [colsTo, if_neg (by simp [h]), List.append_nil]
theorem colsFrom_zero (o : Nat) : colsFrom o 0 = [] := rfl
theorem colsFrom_len (o n : Nat) : (colsFrom o n).length = n := by rw [colsFrom, List.length_map, upto_len]
theorem colsTo_len {c : List Df} (h : catMay c = true) (q : Qy) (is : Nat → Bool) : ∀ k, (colsTo c q is k).length ≤ 4 * k
  | 0 => by rw [colsTo]; simp
  | k + 1 => by
    have hr := tab_range h (q.occ.getD k (-1))
    change 0 ≤ tabOf c q k ∧ tabOf c q k ≤ 4 at hr
    have := colsTo_len h q is k
    rw [colsTo, List.length_append]
    split
    · rw [colsFrom_len]; omega
    · rw [List.length_nil]; omega
def colsPart (c : List Df) (q : Qy) (is : Nat → Bool) (k j : Nat) : List Int := colsTo c q is k ++ colsFrom k j
theorem colsPart_zero (c : List Df) (q : Qy) (is : Nat → Bool) (k : Nat) : colsPart c q is k 0 = colsTo c q is k := by rw [colsPart, colsFrom_zero, List.append_nil]
theorem colsPart_snoc (c : List Df) (q : Qy) (is : Nat → Bool) (k j : Nat) : colsPart c q is k (j + 1) = colsPart c q is k j ++ [4 * (k : Int) + j] := by rw [colsPart, colsPart, colsFrom_snoc, List.append_assoc]
set_option maxHeartbeats 1000000 in
theorem all_ok (c : List Df) (q : Qy) (hc : catMay c = true) (hl : q.occ.length ≤ 1000000) (fn : FuncId) (bnd caps : List AV) (hb : PureL bnd) (hcp : PureL caps) (is : Nat → Bool)
    (hf : ∀ o : Nat, o < 4 → Quiet Go.Proofs.Try.prog fn (bnd ++ .int o :: caps) (.bool (is o))) :
    Quiet Go.Proofs.Try.prog 16 [.agg [.sl (c.map encD)], .agg (encQ q), .clo (.func fn) bnd caps] (.sl ((colsIn c q is).map encI)) := by
  rw [← colsTo_eq hc]
  refine quiet_of (rs := #[.tmp 6]) Go.Proofs.Try.func16 rfl rfl rfl mixed rfl rfl fun H hs => ?_
  simp -implicitDefEqProofs only [push_cast, Nat.reduceAdd, Nat.reduceSub, Nat.reduceMul, Nat.reduceLT, Nat.reduceLeDiff, Nat.reduceEqDiff, Nat.reduceBEq, reduceCtorEq, reduceIte, Int.reduceLE, Int.reduceLT, Int.reduceNeg, Int.reduceToNat, encQ]
  have hmin : (min (q.occ.length : Int) 4) = ((min q.occ.length 4 : Nat) : Int) := by omega
  refine loop_at hs (σ := Nat) (fun k => k ≤ min q.occ.length 4) (fun k => min q.occ.length 4 - k)
    (fun k => [(15, .int k), (14, .int (min q.occ.length 4 : Nat)), (2, .clo (.func fn) bnd caps), (3, .ptr (H.nxt + 0) 1 0 0), (4, .ptr (H.nxt + 1) 6 0 0), (7, .rsl (H.nxt + 2) 1 0 (colsTo c q is k).length)])
    (fun k => [some (.cells 1 [[.sl (c.map encD)]] 0), some (.cells 6 [encQ q] 0), some (.cells 1 (rowI (colsTo c q is k)) 0)]) [some 0, some 1, none] 0 (by omega) rfl ?_ ?_ ?_
  · (try simp -implicitDefEqProofs only [push_cast, Nat.reduceAdd, Nat.reduceSub, Nat.reduceMul, Nat.reduceLT, Nat.reduceLeDiff, Nat.reduceEqDiff, Nat.reduceBEq, reduceCtorEq, reduceIte, Int.reduceLE, Int.reduceLT, Int.reduceNeg, Int.reduceToNat, colsTo, rowI_nil, encDs_pure, encIs_pure, encEs_pure, hb, hcp, encQ])
    split <;> omega
  · (try simp -implicitDefEqProofs only [push_cast, Nat.reduceAdd, Nat.reduceSub, Nat.reduceMul, Nat.reduceLT, Nat.reduceLeDiff, Nat.reduceEqDiff, Nat.reduceBEq, reduceCtorEq, reduceIte, Int.reduceLE, Int.reduceLT, Int.reduceNeg, Int.reduceToNat, colsTo, rowI_nil, encDs_pure, encIs_pure, encEs_pure, encQ])
  intro k hk2
  by_cases hk : k < min q.occ.length 4
  · have hk' : ((k : Int) < ((min q.occ.length 4 : Nat) : Int)) = True := by simp; omega
    have hk0 : (0 ≤ (k : Int)) = True := by simp
    have hkl : k < q.occ.length := by omega
    simp -implicitDefEqProofs only [push_cast, Nat.reduceAdd, Nat.reduceSub, Nat.reduceMul, Nat.reduceLT, Nat.reduceLeDiff, Nat.reduceEqDiff, Nat.reduceBEq, reduceCtorEq, reduceIte, Int.reduceLE, Int.reduceLT, Int.reduceNeg, Int.reduceToNat, hk', hk0, encQ, encIs_get q.occ k hkl, encI]
    refine ⟨by omega, callq (hf k (by omega)) ?_⟩
    simp -implicitDefEqProofs only [push_cast, Nat.reduceAdd, Nat.reduceSub, Nat.reduceMul, Nat.reduceLT, Nat.reduceLeDiff, Nat.reduceEqDiff, Nat.reduceBEq, reduceCtorEq, reduceIte, Int.reduceLE, Int.reduceLT, Int.reduceNeg, Int.reduceToNat]
    have hocc : q.occ.getD k (-1) = q.occ[k] := by rw [List.getD_eq_getElem?_getD, List.getElem?_eq_getElem hkl]; rfl
    refine ⟨fun h => ?_, fun h => ?_⟩
    · have hsk : colsTo c q is (k + 1) = colsTo c q is k := by
        simp only [Bool.or_eq_true, Bool.not_eq_true', decide_eq_true_eq] at h
        cases his : is k
        · exact colsTo_no c q is k his
        · rw [colsTo_yes c q is k his, tabOf, hocc, tabCols, if_neg (by rw [his] at h; simp at h; omega)]
          simp [colsFrom, upto]
      rw [wrap64 (n := (k : Int) + 1) (by omega) (by omega)]
      refine next_at [some 0, some 1, some 2] (k + 1) (by omega) (by omega) rfl ?_ ?_
      · (try simp -implicitDefEqProofs only [push_cast, Nat.reduceAdd, Nat.reduceSub, Nat.reduceMul, Nat.reduceLT, Nat.reduceLeDiff, Nat.reduceEqDiff, Nat.reduceBEq, reduceCtorEq, reduceIte, Int.reduceLE, Int.reduceLT, Int.reduceNeg, Int.reduceToNat, hsk, encDs_pure, encIs_pure, encEs_pure, hb, hcp, encQ])
      · (try simp -implicitDefEqProofs only [push_cast, Nat.reduceAdd, Nat.reduceSub, Nat.reduceMul, Nat.reduceLT, Nat.reduceLeDiff, Nat.reduceEqDiff, Nat.reduceBEq, reduceCtorEq, reduceIte, Int.reduceLE, Int.reduceLT, Int.reduceNeg, Int.reduceToNat, hsk, encDs_pure, encIs_pure, encEs_pure, hb, hcp, encQ, rowI_pure, rowI_one])
    · simp only [Bool.or_eq_false_iff, Bool.not_eq_false', decide_eq_false_iff_not] at h
      obtain ⟨⟨his, ht0⟩, ht1⟩ := h
      obtain ⟨t, ht⟩ : ∃ t : Nat, q.occ[k] = t := ⟨q.occ[k].toNat, by omega⟩
      have htl : t < c.length := by omega
      have ht0' : (0 ≤ (t : Int)) = True := by simp
      have ht1' : ((t : Int) < (c.length : Int)) = True := by simp; omega
      have htab : tabOf c q k = c[t].cols := by
        rw [tabOf, hocc, ht, tabCols, if_pos (by omega), Int.toNat_natCast, List.getD_eq_getElem?_getD, List.getElem?_eq_getElem htl]
        rfl
      have htr := tab_range hc (q.occ.getD k (-1))
      change 0 ≤ tabOf c q k ∧ tabOf c q k ≤ 4 at htr
      rw [htab] at htr
      obtain ⟨m, hm⟩ : ∃ m : Nat, c[t].cols = m := ⟨c[t].cols.toNat, by omega⟩
      simp only [ht]
      simp -implicitDefEqProofs only [push_cast, Nat.reduceAdd, Nat.reduceSub, Nat.reduceMul, Nat.reduceLT, Nat.reduceLeDiff, Nat.reduceEqDiff, Nat.reduceBEq, reduceCtorEq, reduceIte, Int.reduceLE, Int.reduceLT, Int.reduceNeg, Int.reduceToNat, ht0', ht1', encDs_get c t htl, encD, hm]
      have hm4 : m ≤ 4 := by omega
      have hcl := colsTo_len hc q is k
      refine loop_at hs (σ := Nat) (fun j => j ≤ m) (fun j => m - j)
        (fun j => [(44, .int j), (43, .int m), (8, .int k), (15, .int k), (14, .int (min q.occ.length 4 : Nat)), (2, .clo (.func fn) bnd caps), (3, .ptr (H.nxt + 0) 1 0 0), (4, .ptr (H.nxt + 1) 6 0 0), (7, .rsl (H.nxt + 2) 1 0 (colsPart c q is k j).length)])
        (fun j => [some (.cells 1 [[.sl (c.map encD)]] 0), some (.cells 6 [encQ q] 0), some (.cells 1 (rowI (colsPart c q is k j)) 0)]) [some 0, some 1, some 2] 0 (by omega) rfl ?_ ?_ ?_
      · (try simp -implicitDefEqProofs only [push_cast, Nat.reduceAdd, Nat.reduceSub, Nat.reduceMul, Nat.reduceLT, Nat.reduceLeDiff, Nat.reduceEqDiff, Nat.reduceBEq, reduceCtorEq, reduceIte, Int.reduceLE, Int.reduceLT, Int.reduceNeg, Int.reduceToNat, colsPart_zero, encDs_pure, encIs_pure, encEs_pure, hb, hcp, encQ])
      · (try simp -implicitDefEqProofs only [push_cast, Nat.reduceAdd, Nat.reduceSub, Nat.reduceMul, Nat.reduceLT, Nat.reduceLeDiff, Nat.reduceEqDiff, Nat.reduceBEq, reduceCtorEq, reduceIte, Int.reduceLE, Int.reduceLT, Int.reduceNeg, Int.reduceToNat, colsPart_zero, encDs_pure, encIs_pure, encEs_pure, encQ, rowI_pure, rowI_one])
      intro j hj2
      have hjl : (colsPart c q is k j).length ≤ 20 := by rw [colsPart, List.length_append, colsFrom_len]; omega
      by_cases hj : j < m
      · have hj' : ((j : Int) < (m : Int)) = True := by simp; omega
        simp -implicitDefEqProofs only [push_cast, Nat.reduceAdd, Nat.reduceSub, Nat.reduceMul, Nat.reduceLT, Nat.reduceLeDiff, Nat.reduceEqDiff, Nat.reduceBEq, reduceCtorEq, reduceIte, Int.reduceLE, Int.reduceLT, Int.reduceNeg, Int.reduceToNat, hj', encQ]
        refine callq (Col_ok k j (by omega) (by omega) (by omega) (by omega)) ?_
        simp -implicitDefEqProofs only [push_cast, Nat.reduceAdd, Nat.reduceSub, Nat.reduceMul, Nat.reduceLT, Nat.reduceLeDiff, Nat.reduceEqDiff, Nat.reduceBEq, reduceCtorEq, reduceIte, Int.reduceLE, Int.reduceLT, Int.reduceNeg, Int.reduceToNat]
        refine ⟨by omega, ?_⟩
        rw [wrap64 (n := (j : Int) + 1) (by omega) (by omega)]
        refine next_at [some 0, some 1, some 4] (j + 1) (by omega) (by omega) rfl ?_ ?_
        · (try simp -implicitDefEqProofs only [push_cast, Nat.reduceAdd, Nat.reduceSub, Nat.reduceMul, Nat.reduceLT, Nat.reduceLeDiff, Nat.reduceEqDiff, Nat.reduceBEq, reduceCtorEq, reduceIte, Int.reduceLE, Int.reduceLT, Int.reduceNeg, Int.reduceToNat, colsPart_snoc, encDs_pure, encIs_pure, encEs_pure, hb, hcp, encQ])
        · (try simp -implicitDefEqProofs only [push_cast, Nat.reduceAdd, Nat.reduceSub, Nat.reduceMul, Nat.reduceLT, Nat.reduceLeDiff, Nat.reduceEqDiff, Nat.reduceBEq, reduceCtorEq, reduceIte, Int.reduceLE, Int.reduceLT, Int.reduceNeg, Int.reduceToNat, colsPart_snoc, encDs_pure, encIs_pure, encEs_pure, encQ, take_rowI _ _ (Nat.le_refl _), snocI, rowI_pure, rowI_one])
      · have hj' : ((j : Int) < (m : Int)) = False := by simp; omega
        obtain rfl : j = m := by omega
        have hsk : colsTo c q is (k + 1) = colsPart c q is k j := by
          rw [colsPart, colsTo_yes c q is k his, htab, hm, Int.toNat_natCast]
        simp -implicitDefEqProofs only [push_cast, Nat.reduceAdd, Nat.reduceSub, Nat.reduceMul, Nat.reduceLT, Nat.reduceLeDiff, Nat.reduceEqDiff, Nat.reduceBEq, reduceCtorEq, reduceIte, Int.reduceLE, Int.reduceLT, Int.reduceNeg, Int.reduceToNat, hj', encQ]
        rw [wrap64 (n := (k : Int) + 1) (by omega) (by omega)]
        refine next_at [some 0, some 1, some 2] (k + 1) (by omega) (by omega) rfl ?_ ?_
        · (try simp -implicitDefEqProofs only [push_cast, Nat.reduceAdd, Nat.reduceSub, Nat.reduceMul, Nat.reduceLT, Nat.reduceLeDiff, Nat.reduceEqDiff, Nat.reduceBEq, reduceCtorEq, reduceIte, Int.reduceLE, Int.reduceLT, Int.reduceNeg, Int.reduceToNat, hsk, encDs_pure, encIs_pure, encEs_pure, hb, hcp, encQ])
        · (try simp -implicitDefEqProofs only [push_cast, Nat.reduceAdd, Nat.reduceSub, Nat.reduceMul, Nat.reduceLT, Nat.reduceLeDiff, Nat.reduceEqDiff, Nat.reduceBEq, reduceCtorEq, reduceIte, Int.reduceLE, Int.reduceLT, Int.reduceNeg, Int.reduceToNat, hsk, encDs_pure, encIs_pure, encEs_pure, encQ, rowI_pure, rowI_one])
  · have hk' : ((k : Int) < ((min q.occ.length 4 : Nat) : Int)) = False := by simp; omega
    obtain rfl : k = min q.occ.length 4 := by omega
    simp -implicitDefEqProofs only [push_cast, Nat.reduceAdd, Nat.reduceSub, Nat.reduceMul, Nat.reduceLT, Nat.reduceLeDiff, Nat.reduceEqDiff, Nat.reduceBEq, reduceCtorEq, reduceIte, Int.reduceLE, Int.reduceLT, Int.reduceNeg, Int.reduceToNat, hk', encQ]
    (try simp -implicitDefEqProofs only [push_cast, Nat.reduceAdd, Nat.reduceSub, Nat.reduceMul, Nat.reduceLT, Nat.reduceLeDiff, Nat.reduceEqDiff, Nat.reduceBEq, reduceCtorEq, reduceIte, Int.reduceLE, Int.reduceLT, Int.reduceNeg, Int.reduceToNat])
    rw [take_rowI _ _ (Nat.le_refl _)]
    exact sealLL_pure _ _ _ (encIs_pure _)
end Go.Sim.Try
set_option linter.unusedSimpArgs false
set_option linter.unusedVariables false
namespace Go.Sim.Try
open Go Go.Sim

theorem band_mask (x : Int) (h0 : 0 ≤ x) (h1 : x < 18446744073709551616) : band .u64 x 4294967295 = x % 4294967296 := by
  obtain ⟨n, rfl⟩ : ∃ n : Nat, x = n := ⟨x.toNat, by omega⟩
  have hn : n < 2 ^ 64 := by omega
  show IntKind.wrap .u64 ((BitVec.ofInt 64 (n : Int) &&& BitVec.ofInt 64 4294967295 : BitVec 64).toNat : Int) = _
  have e1 : (BitVec.ofInt 64 (n : Int)) = BitVec.ofNat 64 n := by
    apply BitVec.eq_of_toNat_eq
    simp
  have e2 : (BitVec.ofInt 64 4294967295) = BitVec.ofNat 64 4294967295 := by decide
  rw [e1, e2, BitVec.toNat_and, BitVec.toNat_ofNat, BitVec.toNat_ofNat, Nat.mod_eq_of_lt hn]
  have e3 : n &&& (4294967295 % 2 ^ 64) = n % 4294967296 := by
    have := Nat.and_two_pow_sub_one_eq_mod n 32
    simpa using this
  rw [e3, IntKind.wrap_u64]
  omega
theorem bshr_32 (x : Int) (h0 : 0 ≤ x) : bshr .u64 x 32 = x / 4294967296 := by
  unfold bshr
  have e : (2 : Int) ^ (min (32 : Int).toNat IntKind.u64.bits) = 4294967296 := by decide
  rw [e, Int.fdiv_eq_ediv_of_nonneg _ (by omega)]

theorem mulHi_eq (x y : Int) (hx0 : 0 ≤ x) (hx1 : x < 18446744073709551616) (hy0 : 0 ≤ y) (hy1 : y < 18446744073709551616) : mulHi x y = x * y / 18446744073709551616 := by
  have dx : 0 ≤ x / 4294967296 ∧ x / 4294967296 ≤ 4294967295 ∧ 0 ≤ x % 4294967296 ∧ x % 4294967296 ≤ 4294967295 ∧ x = 4294967296 * (x / 4294967296) + x % 4294967296 := by omega
  have dy : 0 ≤ y / 4294967296 ∧ y / 4294967296 ≤ 4294967295 ∧ 0 ≤ y % 4294967296 ∧ y % 4294967296 ≤ 4294967295 ∧ y = 4294967296 * (y / 4294967296) + y % 4294967296 := by omega
  unfold mulHi mulW
  rw [bshr_32 x hx0, bshr_32 y hy0, band_mask x hx0 hx1, band_mask y hy0 hy1]
  generalize x / 4294967296 = x1 at dx ⊢
  generalize x % 4294967296 = x0 at dx ⊢
  generalize y / 4294967296 = y1 at dy ⊢
  generalize y % 4294967296 = y0 at dy ⊢
  obtain ⟨a1, a2, a3, a4, rfl⟩ := dx
  obtain ⟨b1, b2, b3, b4, rfl⟩ := dy
  have prod : ∀ u v : Int, 0 ≤ u → u ≤ 4294967295 → 0 ≤ v → v ≤ 4294967295 → 0 ≤ u * v ∧ u * v ≤ 18446744065119617025 := fun u v h1 h2 h3 h4 => by
    refine ⟨Int.mul_nonneg h1 h3, ?_⟩
    have := Int.mul_le_mul h2 h4 h3 (by omega : (0 : Int) ≤ 4294967295)
    omega
  have p11 := prod x1 y1 a1 a2 b1 b2
  have p10 := prod x1 y0 a1 a2 b3 b4
  have p01 := prod x0 y1 a3 a4 b1 b2
  have p00 := prod x0 y0 a3 a4 b3 b4
  have expand : (4294967296 * x1 + x0) * (4294967296 * y1 + y0) = 18446744073709551616 * (x1 * y1) + 4294967296 * (x1 * y0 + x0 * y1) + x0 * y0 := by
    rw [Int.add_mul, Int.mul_add, Int.mul_add]
    have e1 : 4294967296 * x1 * (4294967296 * y1) = 18446744073709551616 * (x1 * y1) := by
      rw [Int.mul_assoc, Int.mul_left_comm x1, ← Int.mul_assoc]; rfl
    have e2 : 4294967296 * x1 * y0 = 4294967296 * (x1 * y0) := Int.mul_assoc _ _ _
    have e3 : x0 * (4294967296 * y1) = 4294967296 * (x0 * y1) := Int.mul_left_comm _ _ _
    rw [e1, e2, e3]
    omega
  rw [expand]
  generalize x1 * y1 = q11 at p11 ⊢
  generalize x1 * y0 = q10 at p10 ⊢
  generalize x0 * y1 = q01 at p01 ⊢
  generalize x0 * y0 = q00 at p00 ⊢
  simp only [IntKind.wrap_u64]
  have e00 : q00 % 18446744073709551616 = q00 := by omega
  have e10 : q10 % 18446744073709551616 = q10 := by omega
  have e01 : q01 % 18446744073709551616 = q01 := by omega
  have e11 : q11 % 18446744073709551616 = q11 := by omega
  rw [e00, e10, e01, e11, bshr_32 q00 p00.1]
  have eW : (q10 + q00 / 4294967296) % 18446744073709551616 = q10 + q00 / 4294967296 := by omega
  rw [eW, bshr_32 _ (by omega), band_mask _ (by omega) (by omega)]
  generalize hw : q10 + q00 / 4294967296 = W
  have eW2 : (W % 4294967296 + q01) % 18446744073709551616 = W % 4294967296 + q01 := by omega
  rw [eW2, bshr_32 _ (by omega)]
  omega

def In64 (n : Int) : Prop := -9223372036854775808 ≤ n ∧ n ≤ 9223372036854775807
end Go.Sim.Try
set_option linter.unusedSimpArgs false
set_option linter.unusedVariables false
set_option maxRecDepth 100000
namespace Go.Sim.Try
open Go Go.Sim
attribute [local push_cast] aops_cons aops_nil aopG_none aopG_some aopP_eq aopE_eq aopC_eq aopE?_eq aopC?_eq aopB_eq aopB?_eq abr anilq gopP_eq gopL_eq ahead_cons ahead_nil ahdG_none ahdG_some ahdP_eq ahdN_eq ahdC_eq ahdN?_eq ahdS_eq ahdS?_eq astoreN ahdC?_eq ghdP_eq ghdC_eq ghdC?_eq ghdZ_f ghdZ_t ahdI_eq ahdI?_eq ghdN?_eq aim_nil aim_cons isIn_nil isIn_none isIn_cons aimm aheP_eq aheA_eq aheC_eq aheC?_eq aheI?_eq aheA?_eq gheP_eq gheC_eq gheC?_eq gheZ_eq aheG_none aheG_some aheff_cons aheff_nil aapp gro_rsl gro_lit gro_esl opt_some opt_none no_eq acondT_true acondT_false acondT_lit aw_skip aw_region aw_regionD aw_seq aw_cond aw_block aw_loop aw_exit aw_label aw_ret thn_normal thn_exit thn_ret inb_normal inb_exit inb_ret qret_ret qret_normal gcond apure aeff anew acallee ares aresT aresL aresC ares1 qfin_eq ev ofV evL gokL tget tput_some tput_none initT abin aint aun aload afaddr aiaddr afield aindex aextract apick pickv_lit Bool.or_false Bool.false_or Bool.or_true Bool.true_or imp_self aslice chunk roomB abound aconv abuild afill splice alen aminmax abuiltin anil apart Value.oneCell' astore aappend srcEs abuildSlice asets isEq plus_obj plus_nxt plus_add plus_set plus_del IntKind.bits Option.map_some Option.map_none Option.bind_some Option.bind_none Option.join_some Option.getD_some Option.getD_none Option.toList Option.isSome_some List.getElem?_toArray List.getElem?_cons_zero List.getElem?_cons_succ List.getElem?_nil List.length_cons List.length_nil List.length_map List.head?_cons List.cons_append List.nil_append List.append_nil List.map_cons List.map_nil List.getD_cons_zero List.getD_cons_succ List.replicate_succ List.replicate_zero List.set_cons_zero List.set_cons_succ List.take_succ_cons List.take_zero List.drop_succ_cons List.drop_zero List.all_cons List.all_nil Nat.zero_add if_true if_false true_and and_true false_and and_false true_implies implies_true forall_const Bool.and_true Bool.true_and Bool.false_and Bool.and_false Bool.true_beq Bool.false_beq Bool.not_not beq_tt beq_ff Int.toNat_natCast decide_true decide_false Bool.not_true Bool.not_false Bool.true_eq_false Bool.false_eq_true false_implies exists_prop eq_self bne_self_eq_false beq_self_eq_true decide_eq_true_eq decide_eq_false_iff_not Bool.not_eq_true' Bool.not_eq_false' AV.int AV.bool AV.nilS ne_eq not_false_eq_true not_true_eq_false exists_eq_left exists_eq_left' Nat.lt_irrefl core_lit grd_lit acells_lit one_lit core_agg grd_agg acells_agg one_agg core_tup grd_tup acells_tup one_tup core_sl grd_sl acells_sl one_sl core_esl grd_esl acells_esl one_esl core_rsl grd_rsl acells_rsl one_rsl core_ptr grd_ptr acells_ptr one_ptr core_iptr grd_iptr acells_iptr one_iptr core_clo grd_clo acells_clo one_clo core_mp grd_mp acells_mp one_mp core_any grd_any acells_any one_any core_gv grd_gv fit_agg fit_lit fit_sl fit_esl fit_rsl fit_ptr fit_iptr fit_clo fit_mp retq_ret retq_normal set_nxt set_set plus_obj_set plus_set_set app_get0 app_get app_set0 app_set List.append_assoc List.length_append List.length_set Nat.lt_add_one Nat.add_lt_add_iff_right Nat.lt_add_right_iff_pos Nat.add_lt_add_iff_left List.mem_cons List.not_mem_nil or_false forall_eq forall_eq_or_imp lt_s0 lt_s1 lt_s2 lt_s3 lt_s4 lt_s5 lt_s6 lt_s7 lt_s8 pickv_t pickv_f or_nand or_nand2 imp_and_l SealT SealOs sealO_cells sl_lit sl_any sl_agg sl_tup sl_sl sl_rsl slO sl_esl sl_nil sl_eslesl sl_eslnil sl_rslrsl sl_eslrsl sl_nilrsl sl_ptr sl_iptr sl_ptri slP sl_clo sl_mp sl_gv sll_nil sll_cons slll_nil slll_cons shut_eq shutO Option.join_none Fn.func.injEq and_self sealL_self sealLL_self seal_self PureL PureLL Pure Nat.le_refl Nat.zero_le AV.lit.injEq Value.int.injEq Value.bool.injEq false_or or_true true_or Int.natCast_zero Int.ofNat_zero Int.cast_ofNat_Int Int.natCast_add Int.natCast_one Option.some.injEq piL_is sop_nil sop_cons sop_none sop_some sopO_some sop_new shut_pi shutL_nil shutL_cons exQ_exit exQ_ret exQ_normal Go.Sim.Try.ty_load1 Go.Sim.Try.ty_zero1 Go.Sim.Try.ty_load2 Go.Sim.Try.ty_zero2 Go.Sim.Try.ty_und2 Go.Sim.Try.ty_load3 Go.Sim.Try.ty_zero3 Go.Sim.Try.ty_und3 Go.Sim.Try.ty_load4 Go.Sim.Try.ty_zero4 Go.Sim.Try.ty_und4 Go.Sim.Try.ty_load5 Go.Sim.Try.ty_zero5 Go.Sim.Try.ty_und5 Go.Sim.Try.ty_load9 Go.Sim.Try.ty_zero9 Go.Sim.Try.ty_und9 Go.Sim.Try.ty_load22 Go.Sim.Try.ty_zero22 Go.Sim.Try.ty_el22 Go.Sim.Try.ty_zeroE22 Go.Sim.Try.ty_load26 Go.Sim.Try.ty_zero26 Go.Sim.Try.ty_el26 Go.Sim.Try.ty_zeroE26 Go.Sim.Try.ty_load28 Go.Sim.Try.ty_zero28 Go.Sim.Try.ty_fld28_0 Go.Sim.Try.ty_part28_0 Go.Sim.Try.ty_struct28 Go.Sim.Try.ty_load29 Go.Sim.Try.ty_zero29 Go.Sim.Try.ty_el29 Go.Sim.Try.ty_zeroE29 Go.Sim.Try.ty_load31 Go.Sim.Try.ty_zero31 Go.Sim.Try.ty_fld31_0 Go.Sim.Try.ty_part31_0 Go.Sim.Try.ty_struct31 Go.Sim.Try.ty_load35 Go.Sim.Try.ty_zero35 Go.Sim.Try.ty_fld35_0 Go.Sim.Try.ty_part35_0 Go.Sim.Try.ty_fld35_1 Go.Sim.Try.ty_part35_1 Go.Sim.Try.ty_struct35 Go.Sim.Try.ty_load36 Go.Sim.Try.ty_zero36 Go.Sim.Try.ty_el36 Go.Sim.Try.ty_zeroE36 Go.Sim.Try.ty_load38 Go.Sim.Try.ty_zero38 Go.Sim.Try.ty_fld38_0 Go.Sim.Try.ty_part38_0 Go.Sim.Try.ty_fld38_1 Go.Sim.Try.ty_part38_1 Go.Sim.Try.ty_fld38_2 Go.Sim.Try.ty_part38_2 Go.Sim.Try.ty_fld38_3 Go.Sim.Try.ty_part38_3 Go.Sim.Try.ty_struct38 Go.Sim.Try.ty_load40 Go.Sim.Try.ty_zero40 Go.Sim.Try.ty_fld40_0 Go.Sim.Try.ty_part40_0 Go.Sim.Try.ty_fld40_1 Go.Sim.Try.ty_part40_1 Go.Sim.Try.ty_fld40_2 Go.Sim.Try.ty_part40_2 Go.Sim.Try.ty_fld40_3 Go.Sim.Try.ty_part40_3 Go.Sim.Try.ty_fld40_4 Go.Sim.Try.ty_part40_4 Go.Sim.Try.ty_fld40_5 Go.Sim.Try.ty_part40_5 Go.Sim.Try.ty_struct40 Go.Sim.Try.ty_load43 Go.Sim.Try.ty_zero43 Go.Sim.Try.ty_und43 Go.Sim.Try.ty_load47 Go.Sim.Try.ty_zero47 Go.Sim.Try.ty_fld47_0 Go.Sim.Try.ty_part47_0 Go.Sim.Try.ty_fld47_1 Go.Sim.Try.ty_part47_1 Go.Sim.Try.ty_struct47 Go.Sim.Try.ty_load48 Go.Sim.Try.ty_zero48 Go.Sim.Try.ty_el48 Go.Sim.Try.ty_zeroE48 Go.Sim.Try.ty_load49 Go.Sim.Try.ty_zero49 Go.Sim.Try.ty_el49 Go.Sim.Try.ty_zeroE49 Go.Sim.Try.ty_load52 Go.Sim.Try.ty_zero52 Go.Sim.Try.ty_und52 Go.Sim.Try.ty_load53 Go.Sim.Try.ty_zero53 Go.Sim.Try.ty_load63 Go.Sim.Try.ty_zero63 Go.Sim.Try.ty_arr63 Go.Sim.Try.ty_part63_0 Go.Sim.Try.ty_part63_1 Go.Sim.Try.ty_struct63 Go.Sim.Try.ty_load67 Go.Sim.Try.ty_zero67 Go.Sim.Try.ty_load72 Go.Sim.Try.ty_zero72 Go.Sim.Try.ty_load77 Go.Sim.Try.ty_zero77 Go.Sim.Try.ty_load78 Go.Sim.Try.ty_zero78 Go.Sim.Try.ty_und78 Go.Sim.Try.ty_load85 Go.Sim.Try.ty_zero85 Go.Sim.Try.ty_fld85_0 Go.Sim.Try.ty_part85_0 Go.Sim.Try.ty_fld85_1 Go.Sim.Try.ty_part85_1 Go.Sim.Try.ty_fld85_2 Go.Sim.Try.ty_part85_2 Go.Sim.Try.ty_struct85 Go.Sim.Try.ty_load87 Go.Sim.Try.ty_zero87 Go.Sim.Try.ty_load89 Go.Sim.Try.ty_zero89 Go.Sim.Try.ty_und89 Go.Sim.Try.ty_load98 Go.Sim.Try.ty_zero98 Go.Sim.Try.ty_und98 Go.Sim.Try.ty_load102 Go.Sim.Try.ty_zero102 Go.Sim.Try.ty_load105 Go.Sim.Try.ty_zero105 Go.Sim.Try.ty_und105 Go.Sim.Try.ty_load109 Go.Sim.Try.ty_zero109 Go.Sim.Try.ty_load113 Go.Sim.Try.ty_zero113 encE_mk encE_take encE_len encV encE_one encEs_pure encE_pure

theorem plus_obj' (H : AH) (l : List (Option AObj)) (j : Nat) : (H.plus l).obj j = if j < H.nxt then H.obj j else (l[j - H.nxt]?).join := rfl
theorem plus_plus (H : AH) (l m : List (Option AObj)) : (H.plus l).plus m = H.plus (l ++ m) := by
  refine ah_ext (fun j => ?_) (by simp only [plus_nxt, List.length_append]; omega)
  rw [plus_obj' (H.plus l), plus_obj' H, plus_obj' H, plus_nxt]
  by_cases h1 : j < H.nxt
  · rw [if_pos (by omega), if_pos h1, if_pos h1]
  · rw [if_neg h1, if_neg h1]
    by_cases h2 : j < H.nxt + l.length
    · rw [if_pos h2, List.getElem?_append_left (by omega)]
    · rw [if_neg h2, List.getElem?_append_right (by omega)]
      congr 2
      omega
theorem clone_ok (zs : List Int) (hz : zs.length ≤ 1000000) (H : AH) : ACalls Go.Proofs.Try.prog 37 [.sl (rowI zs)] H
    (fun r H' => (r = .rsl (H.nxt + 1) 1 0 zs.length ∧ H' = H.plus [none, some (.cells 1 (rowI zs) 0)]) ∨ (zs = [] ∧ r = .nilS ∧ H' = H.plus [])) := by
  refine acalls_sc (rs := #[.tmp 2]) Go.Proofs.Try.func37 rfl rfl rfl mixed rfl (Nat.le_of_ble_eq_true rfl) fun hs _ => ?_
  simp -implicitDefEqProofs only [push_cast, Nat.reduceAdd, Nat.reduceSub, Nat.reduceMul, Nat.reduceLT, Nat.reduceLeDiff, Nat.reduceEqDiff, Nat.reduceBEq, reduceCtorEq, reduceIte, Int.reduceLE, Int.reduceLT, Int.reduceNeg, Int.reduceToNat]
  intro b hb
  simp -implicitDefEqProofs only [push_cast, Nat.reduceAdd, Nat.reduceSub, Nat.reduceMul, Nat.reduceLT, Nat.reduceLeDiff, Nat.reduceEqDiff, Nat.reduceBEq, reduceCtorEq, reduceIte, Int.reduceLE, Int.reduceLT, Int.reduceNeg, Int.reduceToNat]
  refine ⟨fun h => retk trivial (.inr ⟨?_, rfl, rfl⟩), fun h => ⟨⟨of_eq_true (rowI_one zs), fun e he => ?_, by omega⟩, retk trivial (.inl ⟨rfl, rfl⟩)⟩⟩
  · cases zs with
    | nil => rfl
    | cons z zs => rw [h] at hb; exact absurd (hb rfl) (by decide)
  · simp only [rowI, List.mem_map] at he
    obtain ⟨x, _, rfl⟩ := he
    rfl
theorem once_ok (zs : List Int) (hz : zs.length ≤ 1000000) : Quiet Go.Proofs.Try.prog 20 [.sl (rowI zs)] (.bool (decide ((uniq zs).length = zs.length))) := by
  refine quiet_of (rs := #[.tmp 2]) Go.Proofs.Try.func20 rfl rfl rfl mixed rfl rfl fun H hs => ?_
  simp -implicitDefEqProofs only [push_cast, Nat.reduceAdd, Nat.reduceSub, Nat.reduceMul, Nat.reduceLT, Nat.reduceLeDiff, Nat.reduceEqDiff, Nat.reduceBEq, reduceCtorEq, reduceIte, Int.reduceLE, Int.reduceLT, Int.reduceNeg, Int.reduceToNat]
  refine (clone_ok zs hz _).mono ?_
  rintro r H' (⟨rfl, rfl⟩ | ⟨rfl, rfl, rfl⟩)
  · simp -implicitDefEqProofs only [push_cast, Nat.reduceAdd, Nat.reduceSub, Nat.reduceMul, Nat.reduceLT, Nat.reduceLeDiff, Nat.reduceEqDiff, Nat.reduceBEq, reduceCtorEq, reduceIte, Int.reduceLE, Int.reduceLT, Int.reduceNeg, Int.reduceToNat, plus_plus, Nat.add_zero]
    have hrow : (H.plus [none, some (.cells 1 (rowI zs) 0)]).obj (H.nxt + 1) = some (.cells 1 (rowI zs) 0) := by rw [plus_obj]; rfl
    refine (sort_ok (i := H.nxt + 1) (zs := zs) (by omega) hrow).mono ?_
    rintro r H3 ⟨rfl, rfl⟩
    simp -implicitDefEqProofs only [push_cast, Nat.reduceAdd, Nat.reduceSub, Nat.reduceMul, Nat.reduceLT, Nat.reduceLeDiff, Nat.reduceEqDiff, Nat.reduceBEq, reduceCtorEq, reduceIte, Int.reduceLE, Int.reduceLT, Int.reduceNeg, Int.reduceToNat]
    have hcc := compact_ok (i := H.nxt + 1) (zs := zs.mergeSort fun x y => decide (x ≤ y)) (H := H.plus [none, some (.cells 1 (rowI (zs.mergeSort fun x y => decide (x ≤ y))) 0)]) (by rw [List.length_mergeSort]; omega) (by rw [plus_obj]; rfl)
    rw [List.length_mergeSort] at hcc
    refine hcc.mono ?_
    rintro r H3 ⟨rfl, rfl⟩
    simp -implicitDefEqProofs only [push_cast, Nat.reduceAdd, Nat.reduceSub, Nat.reduceMul, Nat.reduceLT, Nat.reduceLeDiff, Nat.reduceEqDiff, Nat.reduceBEq, reduceCtorEq, reduceIte, Int.reduceLE, Int.reduceLT, Int.reduceNeg, Int.reduceToNat]
    rw [decide_eq_decide, uniq]
    omega
  · simp -implicitDefEqProofs only [push_cast, Nat.reduceAdd, Nat.reduceSub, Nat.reduceMul, Nat.reduceLT, Nat.reduceLeDiff, Nat.reduceEqDiff, Nat.reduceBEq, reduceCtorEq, reduceIte, Int.reduceLE, Int.reduceLT, Int.reduceNeg, Int.reduceToNat, plus_plus, List.append_nil]
    refine (sortN_ok).mono ?_
    rintro r H3 ⟨rfl, rfl⟩
    simp -implicitDefEqProofs only [push_cast, Nat.reduceAdd, Nat.reduceSub, Nat.reduceMul, Nat.reduceLT, Nat.reduceLeDiff, Nat.reduceEqDiff, Nat.reduceBEq, reduceCtorEq, reduceIte, Int.reduceLE, Int.reduceLT, Int.reduceNeg, Int.reduceToNat]
    refine (compactN_ok).mono ?_
    rintro r H3 ⟨rfl, rfl⟩
    simp -implicitDefEqProofs only [push_cast, Nat.reduceAdd, Nat.reduceSub, Nat.reduceMul, Nat.reduceLT, Nat.reduceLeDiff, Nat.reduceEqDiff, Nat.reduceBEq, reduceCtorEq, reduceIte, Int.reduceLE, Int.reduceLT, Int.reduceNeg, Int.reduceToNat]
    simp [uniq, Lib.compact, Lib.compactUpTo]
end Go.Sim.Try
set_option linter.unusedSimpArgs false
set_option linter.unusedVariables false
set_option maxRecDepth 100000
namespace Go.Sim.Try
open Go Go.Sim
attribute [local push_cast] aops_cons aops_nil aopG_none aopG_some aopP_eq aopE_eq aopC_eq aopE?_eq aopC?_eq aopB_eq aopB?_eq abr anilq gopP_eq gopL_eq ahead_cons ahead_nil ahdG_none ahdG_some ahdP_eq ahdN_eq ahdC_eq ahdN?_eq ahdS_eq ahdS?_eq astoreN ahdC?_eq ghdP_eq ghdC_eq ghdC?_eq ghdZ_f ghdZ_t ahdI_eq ahdI?_eq ghdN?_eq aim_nil aim_cons isIn_nil isIn_none isIn_cons aimm aheP_eq aheA_eq aheC_eq aheC?_eq aheI?_eq aheA?_eq gheP_eq gheC_eq gheC?_eq gheZ_eq aheG_none aheG_some aheff_cons aheff_nil aapp gro_rsl gro_lit gro_esl opt_some opt_none no_eq acondT_true acondT_false acondT_lit aw_skip aw_region aw_regionD aw_seq aw_cond aw_block aw_loop aw_exit aw_label aw_ret thn_normal thn_exit thn_ret inb_normal inb_exit inb_ret qret_ret qret_normal gcond apure aeff anew acallee ares aresT aresL aresC ares1 qfin_eq ev ofV evL gokL tget tput_some tput_none initT abin aint aun aload afaddr aiaddr afield aindex aextract apick pickv_lit Bool.or_false Bool.false_or Bool.or_true Bool.true_or imp_self aslice chunk roomB abound aconv abuild afill splice alen aminmax abuiltin anil apart Value.oneCell' astore aappend srcEs abuildSlice asets isEq plus_obj plus_nxt plus_add plus_set plus_del IntKind.bits Option.map_some Option.map_none Option.bind_some Option.bind_none Option.join_some Option.getD_some Option.getD_none Option.toList Option.isSome_some List.getElem?_toArray List.getElem?_cons_zero List.getElem?_cons_succ List.getElem?_nil List.length_cons List.length_nil List.length_map List.head?_cons List.cons_append List.nil_append List.append_nil List.map_cons List.map_nil List.getD_cons_zero List.getD_cons_succ List.replicate_succ List.replicate_zero List.set_cons_zero List.set_cons_succ List.take_succ_cons List.take_zero List.drop_succ_cons List.drop_zero List.all_cons List.all_nil Nat.zero_add if_true if_false true_and and_true false_and and_false true_implies implies_true forall_const Bool.and_true Bool.true_and Bool.false_and Bool.and_false Bool.true_beq Bool.false_beq Bool.not_not beq_tt beq_ff Int.toNat_natCast decide_true decide_false Bool.not_true Bool.not_false Bool.true_eq_false Bool.false_eq_true false_implies exists_prop eq_self bne_self_eq_false beq_self_eq_true decide_eq_true_eq decide_eq_false_iff_not Bool.not_eq_true' Bool.not_eq_false' AV.int AV.bool AV.nilS ne_eq not_false_eq_true not_true_eq_false exists_eq_left exists_eq_left' Nat.lt_irrefl core_lit grd_lit acells_lit one_lit core_agg grd_agg acells_agg one_agg core_tup grd_tup acells_tup one_tup core_sl grd_sl acells_sl one_sl core_esl grd_esl acells_esl one_esl core_rsl grd_rsl acells_rsl one_rsl core_ptr grd_ptr acells_ptr one_ptr core_iptr grd_iptr acells_iptr one_iptr core_clo grd_clo acells_clo one_clo core_mp grd_mp acells_mp one_mp core_any grd_any acells_any one_any core_gv grd_gv fit_agg fit_lit fit_sl fit_esl fit_rsl fit_ptr fit_iptr fit_clo fit_mp retq_ret retq_normal set_nxt set_set plus_obj_set plus_set_set app_get0 app_get app_set0 app_set List.append_assoc List.length_append List.length_set Nat.lt_add_one Nat.add_lt_add_iff_right Nat.lt_add_right_iff_pos Nat.add_lt_add_iff_left List.mem_cons List.not_mem_nil or_false forall_eq forall_eq_or_imp lt_s0 lt_s1 lt_s2 lt_s3 lt_s4 lt_s5 lt_s6 lt_s7 lt_s8 pickv_t pickv_f or_nand or_nand2 imp_and_l SealT SealOs sealO_cells sl_lit sl_any sl_agg sl_tup sl_sl sl_rsl slO sl_esl sl_nil sl_eslesl sl_eslnil sl_rslrsl sl_eslrsl sl_nilrsl sl_ptr sl_iptr sl_ptri slP sl_clo sl_mp sl_gv sll_nil sll_cons slll_nil slll_cons shut_eq shutO Option.join_none Fn.func.injEq and_self sealL_self sealLL_self seal_self PureL PureLL Pure Nat.le_refl Nat.zero_le AV.lit.injEq Value.int.injEq Value.bool.injEq false_or or_true true_or Int.natCast_zero Int.ofNat_zero Int.cast_ofNat_Int Int.natCast_add Int.natCast_one Option.some.injEq piL_is sop_nil sop_cons sop_none sop_some sopO_some sop_new shut_pi shutL_nil shutL_cons exQ_exit exQ_ret exQ_normal Go.Sim.Try.ty_load1 Go.Sim.Try.ty_zero1 Go.Sim.Try.ty_load2 Go.Sim.Try.ty_zero2 Go.Sim.Try.ty_und2 Go.Sim.Try.ty_load3 Go.Sim.Try.ty_zero3 Go.Sim.Try.ty_und3 Go.Sim.Try.ty_load4 Go.Sim.Try.ty_zero4 Go.Sim.Try.ty_und4 Go.Sim.Try.ty_load5 Go.Sim.Try.ty_zero5 Go.Sim.Try.ty_und5 Go.Sim.Try.ty_load9 Go.Sim.Try.ty_zero9 Go.Sim.Try.ty_und9 Go.Sim.Try.ty_load22 Go.Sim.Try.ty_zero22 Go.Sim.Try.ty_el22 Go.Sim.Try.ty_zeroE22 Go.Sim.Try.ty_load26 Go.Sim.Try.ty_zero26 Go.Sim.Try.ty_el26 Go.Sim.Try.ty_zeroE26 Go.Sim.Try.ty_load28 Go.Sim.Try.ty_zero28 Go.Sim.Try.ty_fld28_0 Go.Sim.Try.ty_part28_0 Go.Sim.Try.ty_struct28 Go.Sim.Try.ty_load29 Go.Sim.Try.ty_zero29 Go.Sim.Try.ty_el29 Go.Sim.Try.ty_zeroE29 Go.Sim.Try.ty_load31 Go.Sim.Try.ty_zero31 Go.Sim.Try.ty_fld31_0 Go.Sim.Try.ty_part31_0 Go.Sim.Try.ty_struct31 Go.Sim.Try.ty_load35 Go.Sim.Try.ty_zero35 Go.Sim.Try.ty_fld35_0 Go.Sim.Try.ty_part35_0 Go.Sim.Try.ty_fld35_1 Go.Sim.Try.ty_part35_1 Go.Sim.Try.ty_struct35 Go.Sim.Try.ty_load36 Go.Sim.Try.ty_zero36 Go.Sim.Try.ty_el36 Go.Sim.Try.ty_zeroE36 Go.Sim.Try.ty_load38 Go.Sim.Try.ty_zero38 Go.Sim.Try.ty_fld38_0 Go.Sim.Try.ty_part38_0 Go.Sim.Try.ty_fld38_1 Go.Sim.Try.ty_part38_1 Go.Sim.Try.ty_fld38_2 Go.Sim.Try.ty_part38_2 Go.Sim.Try.ty_fld38_3 Go.Sim.Try.ty_part38_3 Go.Sim.Try.ty_struct38 Go.Sim.Try.ty_load40 Go.Sim.Try.ty_zero40 Go.Sim.Try.ty_fld40_0 Go.Sim.Try.ty_part40_0 Go.Sim.Try.ty_fld40_1 Go.Sim.Try.ty_part40_1 Go.Sim.Try.ty_fld40_2 Go.Sim.Try.ty_part40_2 Go.Sim.Try.ty_fld40_3 Go.Sim.Try.ty_part40_3 Go.Sim.Try.ty_fld40_4 Go.Sim.Try.ty_part40_4 Go.Sim.Try.ty_fld40_5 Go.Sim.Try.ty_part40_5 Go.Sim.Try.ty_struct40 Go.Sim.Try.ty_load43 Go.Sim.Try.ty_zero43 Go.Sim.Try.ty_und43 Go.Sim.Try.ty_load47 Go.Sim.Try.ty_zero47 Go.Sim.Try.ty_fld47_0 Go.Sim.Try.ty_part47_0 Go.Sim.Try.ty_fld47_1 Go.Sim.Try.ty_part47_1 Go.Sim.Try.ty_struct47 Go.Sim.Try.ty_load48 Go.Sim.Try.ty_zero48 Go.Sim.Try.ty_el48 Go.Sim.Try.ty_zeroE48 Go.Sim.Try.ty_load49 Go.Sim.Try.ty_zero49 Go.Sim.Try.ty_el49 Go.Sim.Try.ty_zeroE49 Go.Sim.Try.ty_load52 Go.Sim.Try.ty_zero52 Go.Sim.Try.ty_und52 Go.Sim.Try.ty_load53 Go.Sim.Try.ty_zero53 Go.Sim.Try.ty_load63 Go.Sim.Try.ty_zero63 Go.Sim.Try.ty_arr63 Go.Sim.Try.ty_part63_0 Go.Sim.Try.ty_part63_1 Go.Sim.Try.ty_struct63 Go.Sim.Try.ty_load67 Go.Sim.Try.ty_zero67 Go.Sim.Try.ty_load72 Go.Sim.Try.ty_zero72 Go.Sim.Try.ty_load77 Go.Sim.Try.ty_zero77 Go.Sim.Try.ty_load78 Go.Sim.Try.ty_zero78 Go.Sim.Try.ty_und78 Go.Sim.Try.ty_load85 Go.Sim.Try.ty_zero85 Go.Sim.Try.ty_fld85_0 Go.Sim.Try.ty_part85_0 Go.Sim.Try.ty_fld85_1 Go.Sim.Try.ty_part85_1 Go.Sim.Try.ty_fld85_2 Go.Sim.Try.ty_part85_2 Go.Sim.Try.ty_struct85 Go.Sim.Try.ty_load87 Go.Sim.Try.ty_zero87 Go.Sim.Try.ty_load89 Go.Sim.Try.ty_zero89 Go.Sim.Try.ty_und89 Go.Sim.Try.ty_load98 Go.Sim.Try.ty_zero98 Go.Sim.Try.ty_und98 Go.Sim.Try.ty_load102 Go.Sim.Try.ty_zero102 Go.Sim.Try.ty_load105 Go.Sim.Try.ty_zero105 Go.Sim.Try.ty_und105 Go.Sim.Try.ty_load109 Go.Sim.Try.ty_zero109 Go.Sim.Try.ty_load113 Go.Sim.Try.ty_zero113 encE_mk encE_take encE_len encV encE_one encEs_pure encE_pure

theorem MayQ1_ok (c : List Df) (t : Int) : Quiet Go.Proofs.Try.prog 13 [.int t, .iptr [.sl (c.map encD)]] (.bool (!tabOk c t)) := by
  refine quiet_of (rs := #[.tmp 3]) Go.Proofs.Try.func13 rfl rfl rfl mixed rfl rfl fun H hs => ?_
  simp -implicitDefEqProofs only [push_cast, Nat.reduceAdd, Nat.reduceSub, Nat.reduceMul, Nat.reduceLT, Nat.reduceLeDiff, Nat.reduceEqDiff, Nat.reduceBEq, reduceCtorEq, reduceIte, Int.reduceLE, Int.reduceLT, Int.reduceNeg, Int.reduceToNat]
  (try simp -implicitDefEqProofs only [push_cast, Nat.reduceAdd, Nat.reduceSub, Nat.reduceMul, Nat.reduceLT, Nat.reduceLeDiff, Nat.reduceEqDiff, Nat.reduceBEq, reduceCtorEq, reduceIte, Int.reduceLE, Int.reduceLT, Int.reduceNeg, Int.reduceToNat])
  unfold tabOk
  rw [Bool.not_and, ← decide_not, ← decide_not]
  congr 1 <;> rw [decide_eq_decide] <;> omega
theorem MayQ_ok (c : List Df) (hcl : c.length ≤ 1000000) (q : Qy) (hq : q.Ok) : Quiet Go.Proofs.Try.prog 11 [.agg [.sl (c.map encD)], .agg (encQ q)] (.bool (q.may c)) := by
  refine quiet_of (rs := #[.tmp 4]) Go.Proofs.Try.func11 rfl rfl rfl mixed rfl rfl fun H hs => ?_
  simp -implicitDefEqProofs only [push_cast, Nat.reduceAdd, Nat.reduceSub, Nat.reduceMul, Nat.reduceLT, Nat.reduceLeDiff, Nat.reduceEqDiff, Nat.reduceBEq, reduceCtorEq, reduceIte, Int.reduceLE, Int.reduceLT, Int.reduceNeg, Int.reduceToNat, encQ]
  refine fzk H 0 1 [.agg [.sl (c.map encD)]] (by rfl) (by omega) (by simp) ?_ ?_
  · (try simp -implicitDefEqProofs only [push_cast, Nat.reduceAdd, Nat.reduceSub, Nat.reduceMul, Nat.reduceLT, Nat.reduceLeDiff, Nat.reduceEqDiff, Nat.reduceBEq, reduceCtorEq, reduceIte, Int.reduceLE, Int.reduceLT, Int.reduceNeg, Int.reduceToNat, encDs_pure])
  refine callq (dataMay_ok c hcl) ?_
  simp -implicitDefEqProofs only [push_cast, Nat.reduceAdd, Nat.reduceSub, Nat.reduceMul, Nat.reduceLT, Nat.reduceLeDiff, Nat.reduceEqDiff, Nat.reduceBEq, reduceCtorEq, reduceIte, Int.reduceLE, Int.reduceLT, Int.reduceNeg, Int.reduceToNat, encQ]
  refine gcalla [.sl (q.occ.map encI), .clo (.func 13) [] [.iptr [.sl (c.map encD)]]] (.bool (q.occ.any fun t => !tabOk c t)) (fun h => by simpa using h) (fun h => containsFuncI_ok q.occ (by have := hq.2.2.1; omega) _ [.iptr [.sl (c.map encD)]] (by simp [PureL, Pure, encDs_pure]) (fun t => !tabOk c t) fun t _ => MayQ1_ok c t) ?_ ?_
  · (try simp -implicitDefEqProofs only [push_cast, Nat.reduceAdd, Nat.reduceSub, Nat.reduceMul, Nat.reduceLT, Nat.reduceLeDiff, Nat.reduceEqDiff, Nat.reduceBEq, reduceCtorEq, reduceIte, Int.reduceLE, Int.reduceLT, Int.reduceNeg, Int.reduceToNat, encDs_pure, encIs_pure])
  simp -implicitDefEqProofs only [push_cast, Nat.reduceAdd, Nat.reduceSub, Nat.reduceMul, Nat.reduceLT, Nat.reduceLeDiff, Nat.reduceEqDiff, Nat.reduceBEq, reduceCtorEq, reduceIte, Int.reduceLE, Int.reduceLT, Int.reduceNeg, Int.reduceToNat, encQ]
  refine ⟨fun h => ?_, fun h => ?_⟩
  · have : q.may c = false := by
      simp only [Bool.or_eq_true, Bool.not_eq_true', decide_eq_true_eq, List.any_eq_true] at h
      unfold Qy.may
      rcases h with (((h | h) | h) | ⟨x, hx, h⟩) | h
      · simp [h]
      · simp [decide_eq_false (show ¬ 1 ≤ q.occ.length by omega)]
      · simp [decide_eq_false (show ¬ q.occ.length ≤ 4 by omega)]
      · have : q.occ.all (tabOk c) = false := by
          rw [List.all_eq_false]; exact ⟨x, hx, by simp [h]⟩
        simp [this]
      · simp [decide_eq_false (show ¬ q.p.length ≤ 6 by omega)]
    exact this.symm
  have hh : catMay c = true ∧ 1 ≤ q.occ.length ∧ q.occ.length ≤ 4 ∧ q.occ.all (tabOk c) = true ∧ q.p.length ≤ 6 := by
    simp only [Bool.or_eq_false_iff, Bool.not_eq_false', decide_eq_false_iff_not] at h
    obtain ⟨⟨⟨⟨h1, h2⟩, h3⟩, h4⟩, h5⟩ := h
    refine ⟨h1, by omega, by omega, ?_, by omega⟩
    rw [List.all_eq_true]
    intro x hx
    have := List.any_eq_false.1 h4 x hx
    simpa using this
  obtain ⟨hc, ho1, ho4, hot, hp6⟩ := hh
  have hall := all_ok c q hc hq.2.2.1 17 [] [] trivial trivial (fun _ => true) fun o _ => May2_ok o
  have hcols : (colsIn c q fun _ => true).length ≤ 16 := Nat.le_trans (List.length_filter_le _ _) (by rw [upto_len]; omega)
  have hmay : q.may c = (q.p.all (exIn (colsIn c q fun _ => true)) && endMay q (colsIn c q fun _ => true)) := by
    simp only [Qy.may, hc, hot, decide_eq_true ho1, decide_eq_true ho4, decide_eq_true hp6, Bool.true_and]
  rw [hmay]
  generalize (colsIn c q fun _ => true) = cols at hall hcols ⊢
  simp only [encQ] at hall
  refine callq hall ?_
  simp -implicitDefEqProofs only [push_cast, Nat.reduceAdd, Nat.reduceSub, Nat.reduceMul, Nat.reduceLT, Nat.reduceLeDiff, Nat.reduceEqDiff, Nat.reduceBEq, reduceCtorEq, reduceIte, Int.reduceLE, Int.reduceLT, Int.reduceNeg, Int.reduceToNat, encQ]
  refine loop_at hs (σ := Nat) (fun i => i ≤ q.p.length ∧ (q.p.take i).all (exIn cols) = true) (fun i => q.p.length - i)
    (fun i => [(45, .int i), (44, .int q.p.length), (43, .sl (q.p.map encE)), (6, .sl (cols.map encI)), (3, .ptr (H.nxt + 1) 6 0 0)]) (fun i => [none, some (.cells 6 [encQ q] 0)]) [some 0, some 1] 0 ⟨by omega, by simp⟩ rfl ?_ ?_ ?_
  · (try simp -implicitDefEqProofs only [push_cast, Nat.reduceAdd, Nat.reduceSub, Nat.reduceMul, Nat.reduceLT, Nat.reduceLeDiff, Nat.reduceEqDiff, Nat.reduceBEq, reduceCtorEq, reduceIte, Int.reduceLE, Int.reduceLT, Int.reduceNeg, Int.reduceToNat, encEs_pure, encIs_pure])
  · (try simp -implicitDefEqProofs only [push_cast, Nat.reduceAdd, Nat.reduceSub, Nat.reduceMul, Nat.reduceLT, Nat.reduceLeDiff, Nat.reduceEqDiff, Nat.reduceBEq, reduceCtorEq, reduceIte, Int.reduceLE, Int.reduceLT, Int.reduceNeg, Int.reduceToNat, encEs_pure, encIs_pure, encQ])
  rintro i ⟨hi2, hai⟩
  by_cases hi : i < q.p.length
  · have hi' : ((i : Int) < (q.p.length : Int)) = True := by simp; omega
    have hi0 : (0 ≤ (i : Int)) = True := by simp
    have hok := hq.2.1 _ (List.getElem_mem hi)
    simp -implicitDefEqProofs only [push_cast, Nat.reduceAdd, Nat.reduceSub, Nat.reduceMul, Nat.reduceLT, Nat.reduceLeDiff, Nat.reduceEqDiff, Nat.reduceBEq, reduceCtorEq, reduceIte, Int.reduceLE, Int.reduceLT, Int.reduceNeg, Int.reduceToNat, hi', hi0, encEs_get q.p i hi, encQ]
    refine callq (Cols_ok _ hok.1 hok.2) ?_
    simp -implicitDefEqProofs only [push_cast, Nat.reduceAdd, Nat.reduceSub, Nat.reduceMul, Nat.reduceLT, Nat.reduceLeDiff, Nat.reduceEqDiff, Nat.reduceBEq, reduceCtorEq, reduceIte, Int.reduceLE, Int.reduceLT, Int.reduceNeg, Int.reduceToNat, encQ]
    have hcl2 : (q.p[i].cols).length ≤ 1000000 := Nat.le_trans (cols_len _) hok.2
    refine gcallq' (.bool (within q.p[i].cols cols)) (fun h => by simpa using h) (fun _ => within_ok _ _ hcl2 (by omega)) ?_
    simp -implicitDefEqProofs only [push_cast, Nat.reduceAdd, Nat.reduceSub, Nat.reduceMul, Nat.reduceLT, Nat.reduceLeDiff, Nat.reduceEqDiff, Nat.reduceBEq, reduceCtorEq, reduceIte, Int.reduceLE, Int.reduceLT, Int.reduceNeg, Int.reduceToNat, encQ]
    have hex : exIn cols q.p[i] = !(decide ((q.p[i].cols.length : Int) = 0) || !within q.p[i].cols cols) := by
      unfold exIn
      rw [Bool.not_or, Bool.not_not]
      congr 2
      rw [decide_eq_decide]; omega
    refine ⟨fun h => ?_, fun h => ?_⟩
    · have : q.p.all (exIn cols) = false := by
        rw [List.all_eq_false]
        exact ⟨_, List.getElem_mem hi, by rw [hex, h]; simp⟩
      rw [this]
      rfl
    · rw [wrap64 (n := (i : Int) + 1) (by omega) (by omega)]
      refine next_at [some 0, some 1] (i + 1) ⟨by omega, ?_⟩ (by omega) rfl ?_ ?_
      · rw [List.take_succ_eq_append_getElem hi, List.all_append, hai, List.all_cons, hex, h]
        rfl
      · (try simp -implicitDefEqProofs only [push_cast, Nat.reduceAdd, Nat.reduceSub, Nat.reduceMul, Nat.reduceLT, Nat.reduceLeDiff, Nat.reduceEqDiff, Nat.reduceBEq, reduceCtorEq, reduceIte, Int.reduceLE, Int.reduceLT, Int.reduceNeg, Int.reduceToNat, encEs_pure, encIs_pure])
      · (try simp -implicitDefEqProofs only [push_cast, Nat.reduceAdd, Nat.reduceSub, Nat.reduceMul, Nat.reduceLT, Nat.reduceLeDiff, Nat.reduceEqDiff, Nat.reduceBEq, reduceCtorEq, reduceIte, Int.reduceLE, Int.reduceLT, Int.reduceNeg, Int.reduceToNat, encEs_pure, encIs_pure, encQ])
  · have hi' : ((i : Int) < (q.p.length : Int)) = False := by simp; omega
    obtain rfl : i = q.p.length := by omega
    rw [List.take_length] at hai
    rw [hai, Bool.true_and]
    by_cases hby : q.by_ = -1
    · simp -implicitDefEqProofs only [push_cast, Nat.reduceAdd, Nat.reduceSub, Nat.reduceMul, Nat.reduceLT, Nat.reduceLeDiff, Nat.reduceEqDiff, Nat.reduceBEq, reduceCtorEq, reduceIte, Int.reduceLE, Int.reduceLT, Int.reduceNeg, Int.reduceToNat, hi', encQ, hby]
      refine gcallq' (.bool (decide ((uniq q.out).length = q.out.length))) (fun h => by simpa using h) (fun _ => once_ok _ hq.2.2.2.2) ?_
      simp -implicitDefEqProofs only [push_cast, Nat.reduceAdd, Nat.reduceSub, Nat.reduceMul, Nat.reduceLT, Nat.reduceLeDiff, Nat.reduceEqDiff, Nat.reduceBEq, reduceCtorEq, reduceIte, Int.reduceLE, Int.reduceLT, Int.reduceNeg, Int.reduceToNat, encQ]
      refine gcallq' (.bool (within q.out cols)) (fun h => by simpa using h) (fun _ => within_ok _ _ hq.2.2.2.2 (by omega)) ?_
      simp -implicitDefEqProofs only [push_cast, Nat.reduceAdd, Nat.reduceSub, Nat.reduceMul, Nat.reduceLT, Nat.reduceLeDiff, Nat.reduceEqDiff, Nat.reduceBEq, reduceCtorEq, reduceIte, Int.reduceLE, Int.reduceLT, Int.reduceNeg, Int.reduceToNat, encQ]
      refine gcallq' (.bool (q.out.contains q.ord)) (fun h => by simpa using h) (fun _ => containsI_ok _ hq.2.2.2.2 _) ?_
      simp -implicitDefEqProofs only [push_cast, Nat.reduceAdd, Nat.reduceSub, Nat.reduceMul, Nat.reduceLT, Nat.reduceLeDiff, Nat.reduceEqDiff, Nat.reduceBEq, reduceCtorEq, reduceIte, Int.reduceLE, Int.reduceLT, Int.reduceNeg, Int.reduceToNat, encQ]
      refine ⟨fun h1 h2 => by rw [h1]; simpa using h2, ?_⟩
      have a1 : decide ((1 : Int) ≤ (q.out.length : Int)) = decide (1 ≤ q.out.length) := by rw [decide_eq_decide]; omega
      have a2 : decide ((q.out.length : Int) ≤ 8) = decide (q.out.length ≤ 8) := by rw [decide_eq_decide]; omega
      have a3 : decide ((q.sums.length : Int) = 0) = decide (q.sums.length = 0) := by rw [decide_eq_decide]; omega
      rw [a1, a2, a3, once_iff, endMay, if_pos hby]
    · have hby' : decide (q.by_ = -1) = false := by simpa using hby
      simp -implicitDefEqProofs only [push_cast, Nat.reduceAdd, Nat.reduceSub, Nat.reduceMul, Nat.reduceLT, Nat.reduceLeDiff, Nat.reduceEqDiff, Nat.reduceBEq, reduceCtorEq, reduceIte, Int.reduceLE, Int.reduceLT, Int.reduceNeg, Int.reduceToNat, hi', encQ, hby']
      refine fzk H 2 1 [.sl ([q.by_].map encI), .sl (cols.map encI)] (by rfl) (by omega) (by simp) ?_ ?_
      · (try simp -implicitDefEqProofs only [push_cast, Nat.reduceAdd, Nat.reduceSub, Nat.reduceMul, Nat.reduceLT, Nat.reduceLeDiff, Nat.reduceEqDiff, Nat.reduceBEq, reduceCtorEq, reduceIte, Int.reduceLE, Int.reduceLT, Int.reduceNeg, Int.reduceToNat, encIs_pure, encI])
      refine callq (within_ok [q.by_] cols (by simp) (by omega)) ?_
      simp -implicitDefEqProofs only [push_cast, Nat.reduceAdd, Nat.reduceSub, Nat.reduceMul, Nat.reduceLT, Nat.reduceLeDiff, Nat.reduceEqDiff, Nat.reduceBEq, reduceCtorEq, reduceIte, Int.reduceLE, Int.reduceLT, Int.reduceNeg, Int.reduceToNat, encQ]
      refine gcallq' (.bool (within q.sums cols)) (fun h => by simpa using h) (fun _ => within_ok _ _ hq.2.2.2.1 (by omega)) ?_
      simp -implicitDefEqProofs only [push_cast, Nat.reduceAdd, Nat.reduceSub, Nat.reduceMul, Nat.reduceLT, Nat.reduceLeDiff, Nat.reduceEqDiff, Nat.reduceBEq, reduceCtorEq, reduceIte, Int.reduceLE, Int.reduceLT, Int.reduceNeg, Int.reduceToNat, encQ]
      refine ⟨fun h1 h2 => by rw [h1]; simpa using h2, ?_⟩
      have a2 : decide ((q.sums.length : Int) ≤ 4) = decide (q.sums.length ≤ 4) := by rw [decide_eq_decide]; omega
      have a3 : decide ((q.out.length : Int) = 0) = decide (q.out.length = 0) := by rw [decide_eq_decide]; omega
      rw [a2, a3, endMay, if_neg hby]
/-- A set's columns. -/
def Qy.cols (q : Qy) (c : List Df) (s : Int) : List Int := if q.may c then colsIn c q (bitI s) else []
end Go.Sim.Try
set_option linter.unusedSimpArgs false
set_option linter.unusedVariables false
set_option maxRecDepth 100000
namespace Go.Sim.Try
open Go Go.Sim
attribute [local push_cast] aops_cons aops_nil aopG_none aopG_some aopP_eq aopE_eq aopC_eq aopE?_eq aopC?_eq aopB_eq aopB?_eq abr anilq gopP_eq gopL_eq ahead_cons ahead_nil ahdG_none ahdG_some ahdP_eq ahdN_eq ahdC_eq ahdN?_eq ahdS_eq ahdS?_eq astoreN ahdC?_eq ghdP_eq ghdC_eq ghdC?_eq ghdZ_f ghdZ_t ahdI_eq ahdI?_eq ghdN?_eq aim_nil aim_cons isIn_nil isIn_none isIn_cons aimm aheP_eq aheA_eq aheC_eq aheC?_eq aheI?_eq aheA?_eq gheP_eq gheC_eq gheC?_eq gheZ_eq aheG_none aheG_some aheff_cons aheff_nil aapp gro_rsl gro_lit gro_esl opt_some opt_none no_eq acondT_true acondT_false acondT_lit aw_skip aw_region aw_regionD aw_seq aw_cond aw_block aw_loop aw_exit aw_label aw_ret thn_normal thn_exit thn_ret inb_normal inb_exit inb_ret qret_ret qret_normal gcond apure aeff anew acallee ares aresT aresL aresC ares1 qfin_eq ev ofV evL gokL tget tput_some tput_none initT abin aint aun aload afaddr aiaddr afield aindex aextract apick pickv_lit Bool.or_false Bool.false_or Bool.or_true Bool.true_or imp_self aslice chunk roomB abound aconv abuild afill splice alen aminmax abuiltin anil apart Value.oneCell' astore aappend srcEs abuildSlice asets isEq plus_obj plus_nxt plus_add plus_set plus_del IntKind.bits Option.map_some Option.map_none Option.bind_some Option.bind_none Option.join_some Option.getD_some Option.getD_none Option.toList Option.isSome_some List.getElem?_toArray List.getElem?_cons_zero List.getElem?_cons_succ List.getElem?_nil List.length_cons List.length_nil List.length_map List.head?_cons List.cons_append List.nil_append List.append_nil List.map_cons List.map_nil List.getD_cons_zero List.getD_cons_succ List.replicate_succ List.replicate_zero List.set_cons_zero List.set_cons_succ List.take_succ_cons List.take_zero List.drop_succ_cons List.drop_zero List.all_cons List.all_nil Nat.zero_add if_true if_false true_and and_true false_and and_false true_implies implies_true forall_const Bool.and_true Bool.true_and Bool.false_and Bool.and_false Bool.true_beq Bool.false_beq Bool.not_not beq_tt beq_ff Int.toNat_natCast decide_true decide_false Bool.not_true Bool.not_false Bool.true_eq_false Bool.false_eq_true false_implies exists_prop eq_self bne_self_eq_false beq_self_eq_true decide_eq_true_eq decide_eq_false_iff_not Bool.not_eq_true' Bool.not_eq_false' AV.int AV.bool AV.nilS ne_eq not_false_eq_true not_true_eq_false exists_eq_left exists_eq_left' Nat.lt_irrefl core_lit grd_lit acells_lit one_lit core_agg grd_agg acells_agg one_agg core_tup grd_tup acells_tup one_tup core_sl grd_sl acells_sl one_sl core_esl grd_esl acells_esl one_esl core_rsl grd_rsl acells_rsl one_rsl core_ptr grd_ptr acells_ptr one_ptr core_iptr grd_iptr acells_iptr one_iptr core_clo grd_clo acells_clo one_clo core_mp grd_mp acells_mp one_mp core_any grd_any acells_any one_any core_gv grd_gv fit_agg fit_lit fit_sl fit_esl fit_rsl fit_ptr fit_iptr fit_clo fit_mp retq_ret retq_normal set_nxt set_set plus_obj_set plus_set_set app_get0 app_get app_set0 app_set List.append_assoc List.length_append List.length_set Nat.lt_add_one Nat.add_lt_add_iff_right Nat.lt_add_right_iff_pos Nat.add_lt_add_iff_left List.mem_cons List.not_mem_nil or_false forall_eq forall_eq_or_imp lt_s0 lt_s1 lt_s2 lt_s3 lt_s4 lt_s5 lt_s6 lt_s7 lt_s8 pickv_t pickv_f or_nand or_nand2 imp_and_l SealT SealOs sealO_cells sl_lit sl_any sl_agg sl_tup sl_sl sl_rsl slO sl_esl sl_nil sl_eslesl sl_eslnil sl_rslrsl sl_eslrsl sl_nilrsl sl_ptr sl_iptr sl_ptri slP sl_clo sl_mp sl_gv sll_nil sll_cons slll_nil slll_cons shut_eq shutO Option.join_none Fn.func.injEq and_self sealL_self sealLL_self seal_self PureL PureLL Pure Nat.le_refl Nat.zero_le AV.lit.injEq Value.int.injEq Value.bool.injEq false_or or_true true_or Int.natCast_zero Int.ofNat_zero Int.cast_ofNat_Int Int.natCast_add Int.natCast_one Option.some.injEq piL_is sop_nil sop_cons sop_none sop_some sopO_some sop_new shut_pi shutL_nil shutL_cons exQ_exit exQ_ret exQ_normal Go.Sim.Try.ty_load1 Go.Sim.Try.ty_zero1 Go.Sim.Try.ty_load2 Go.Sim.Try.ty_zero2 Go.Sim.Try.ty_und2 Go.Sim.Try.ty_load3 Go.Sim.Try.ty_zero3 Go.Sim.Try.ty_und3 Go.Sim.Try.ty_load4 Go.Sim.Try.ty_zero4 Go.Sim.Try.ty_und4 Go.Sim.Try.ty_load5 Go.Sim.Try.ty_zero5 Go.Sim.Try.ty_und5 Go.Sim.Try.ty_load9 Go.Sim.Try.ty_zero9 Go.Sim.Try.ty_und9 Go.Sim.Try.ty_load22 Go.Sim.Try.ty_zero22 Go.Sim.Try.ty_el22 Go.Sim.Try.ty_zeroE22 Go.Sim.Try.ty_load26 Go.Sim.Try.ty_zero26 Go.Sim.Try.ty_el26 Go.Sim.Try.ty_zeroE26 Go.Sim.Try.ty_load28 Go.Sim.Try.ty_zero28 Go.Sim.Try.ty_fld28_0 Go.Sim.Try.ty_part28_0 Go.Sim.Try.ty_struct28 Go.Sim.Try.ty_load29 Go.Sim.Try.ty_zero29 Go.Sim.Try.ty_el29 Go.Sim.Try.ty_zeroE29 Go.Sim.Try.ty_load31 Go.Sim.Try.ty_zero31 Go.Sim.Try.ty_fld31_0 Go.Sim.Try.ty_part31_0 Go.Sim.Try.ty_struct31 Go.Sim.Try.ty_load35 Go.Sim.Try.ty_zero35 Go.Sim.Try.ty_fld35_0 Go.Sim.Try.ty_part35_0 Go.Sim.Try.ty_fld35_1 Go.Sim.Try.ty_part35_1 Go.Sim.Try.ty_struct35 Go.Sim.Try.ty_load36 Go.Sim.Try.ty_zero36 Go.Sim.Try.ty_el36 Go.Sim.Try.ty_zeroE36 Go.Sim.Try.ty_load38 Go.Sim.Try.ty_zero38 Go.Sim.Try.ty_fld38_0 Go.Sim.Try.ty_part38_0 Go.Sim.Try.ty_fld38_1 Go.Sim.Try.ty_part38_1 Go.Sim.Try.ty_fld38_2 Go.Sim.Try.ty_part38_2 Go.Sim.Try.ty_fld38_3 Go.Sim.Try.ty_part38_3 Go.Sim.Try.ty_struct38 Go.Sim.Try.ty_load40 Go.Sim.Try.ty_zero40 Go.Sim.Try.ty_fld40_0 Go.Sim.Try.ty_part40_0 Go.Sim.Try.ty_fld40_1 Go.Sim.Try.ty_part40_1 Go.Sim.Try.ty_fld40_2 Go.Sim.Try.ty_part40_2 Go.Sim.Try.ty_fld40_3 Go.Sim.Try.ty_part40_3 Go.Sim.Try.ty_fld40_4 Go.Sim.Try.ty_part40_4 Go.Sim.Try.ty_fld40_5 Go.Sim.Try.ty_part40_5 Go.Sim.Try.ty_struct40 Go.Sim.Try.ty_load43 Go.Sim.Try.ty_zero43 Go.Sim.Try.ty_und43 Go.Sim.Try.ty_load47 Go.Sim.Try.ty_zero47 Go.Sim.Try.ty_fld47_0 Go.Sim.Try.ty_part47_0 Go.Sim.Try.ty_fld47_1 Go.Sim.Try.ty_part47_1 Go.Sim.Try.ty_struct47 Go.Sim.Try.ty_load48 Go.Sim.Try.ty_zero48 Go.Sim.Try.ty_el48 Go.Sim.Try.ty_zeroE48 Go.Sim.Try.ty_load49 Go.Sim.Try.ty_zero49 Go.Sim.Try.ty_el49 Go.Sim.Try.ty_zeroE49 Go.Sim.Try.ty_load52 Go.Sim.Try.ty_zero52 Go.Sim.Try.ty_und52 Go.Sim.Try.ty_load53 Go.Sim.Try.ty_zero53 Go.Sim.Try.ty_load63 Go.Sim.Try.ty_zero63 Go.Sim.Try.ty_arr63 Go.Sim.Try.ty_part63_0 Go.Sim.Try.ty_part63_1 Go.Sim.Try.ty_struct63 Go.Sim.Try.ty_load67 Go.Sim.Try.ty_zero67 Go.Sim.Try.ty_load72 Go.Sim.Try.ty_zero72 Go.Sim.Try.ty_load77 Go.Sim.Try.ty_zero77 Go.Sim.Try.ty_load78 Go.Sim.Try.ty_zero78 Go.Sim.Try.ty_und78 Go.Sim.Try.ty_load85 Go.Sim.Try.ty_zero85 Go.Sim.Try.ty_fld85_0 Go.Sim.Try.ty_part85_0 Go.Sim.Try.ty_fld85_1 Go.Sim.Try.ty_part85_1 Go.Sim.Try.ty_fld85_2 Go.Sim.Try.ty_part85_2 Go.Sim.Try.ty_struct85 Go.Sim.Try.ty_load87 Go.Sim.Try.ty_zero87 Go.Sim.Try.ty_load89 Go.Sim.Try.ty_zero89 Go.Sim.Try.ty_und89 Go.Sim.Try.ty_load98 Go.Sim.Try.ty_zero98 Go.Sim.Try.ty_und98 Go.Sim.Try.ty_load102 Go.Sim.Try.ty_zero102 Go.Sim.Try.ty_load105 Go.Sim.Try.ty_zero105 Go.Sim.Try.ty_und105 Go.Sim.Try.ty_load109 Go.Sim.Try.ty_zero109 Go.Sim.Try.ty_load113 Go.Sim.Try.ty_zero113 encE_mk encE_take encE_len encV encE_one encEs_pure encE_pure

def catTwo : List Df := [⟨2, 100⟩, ⟨1, 10⟩]
def rowsTwo : AV := .sl [[.sl [[.sl [[.int 0, .int 1], [.int 0, .int 2]]], [.sl [[.int 0, .int 3], [.int 0, .int 4]]]]], [.sl [[.sl [[.int 0, .int 4]]]]]]
theorem Two_ok : Quiet Go.Proofs.Try.prog 6 [] (.tup [.agg [.sl (catTwo.map encD)], .agg [rowsTwo]]) := by
  refine quiet_of (rs := #[.cell 0 28, .cell 1 31]) Go.Proofs.Try.func6 rfl rfl rfl mixed rfl rfl fun H hs => ?_
  simp -implicitDefEqProofs only [push_cast, Nat.reduceAdd, Nat.reduceSub, Nat.reduceMul, Nat.reduceLT, Nat.reduceLeDiff, Nat.reduceEqDiff, Nat.reduceBEq, reduceCtorEq, reduceIte, Int.reduceLE, Int.reduceLT, Int.reduceNeg, Int.reduceToNat]
  (try simp -implicitDefEqProofs only [push_cast, Nat.reduceAdd, Nat.reduceSub, Nat.reduceMul, Nat.reduceLT, Nat.reduceLeDiff, Nat.reduceEqDiff, Nat.reduceBEq, reduceCtorEq, reduceIte, Int.reduceLE, Int.reduceLT, Int.reduceNeg, Int.reduceToNat, catTwo, rowsTwo, List.map_cons, List.map_nil, encD])
def fewQ (c : List Df) (q : Qy) : Bool := decide (c.length ≤ 10) && decide (q.occ.length ≤ 20) && decide (q.p.length ≤ 8) && decide (q.sums.length ≤ 20) && decide (q.out.length ≤ 20) && q.p.all fun e => decide (sz e 60 ≤ 60)
/-- What comes in. -/
def Qy.Raw (q : Qy) (c : List Df) : Prop := c.length ≤ 140737488355328 ∧ q.occ.length ≤ 140737488355328 ∧ q.p.length ≤ 140737488355328 ∧ q.sums.length ≤ 140737488355328 ∧ q.out.length ≤ 140737488355328 ∧ ∀ e ∈ q.p, e.Ok
theorem szL_ge : ∀ (l : List Ex) (m n : Int), 0 ≤ m → n ≤ szL l m n
  | [], _, n, _ => by rw [szL]; exact Int.le_refl _
  | x :: l, m, n, h0 => by
    rw [szL]
    split
    · have := sz_bound x (m - n) (by omega)
      have := szL_ge l m (n + sz x (m - n)) h0
      omega
    · exact Int.le_refl _
mutual
theorem sz_cnt : ∀ (e : Ex) (m : Int), 0 ≤ m → sz e m ≤ m → sz e m = cnt e
  | .mk _ _ _ _ l, m, h0, h => by
    have h1 := szL_ge l m 1 h0
    rw [sz] at h ⊢
    rw [cnt, szL_cnt l m 1 h0 (by omega) h]
    omega
theorem szL_cnt : ∀ (l : List Ex) (m n : Int), 0 ≤ m → n ≤ m → szL l m n ≤ m → szL l m n = n + cntL l
  | [], m, n, _, h0, h => by rw [szL, cntL]; omega
  | x :: l, m, n, h1, h0, h => by
    rw [szL, if_pos h0] at h ⊢
    have h2 := szL_ge l m (n + sz x (m - n)) h1
    have h3 := sz_cnt x (m - n) (by omega) (by omega)
    rw [szL_cnt l m _ h1 (by omega) h, cntL]
    omega
end
theorem fewQ_split {c : List Df} {q : Qy} (h : fewQ c q = true) : c.length ≤ 10 ∧ q.occ.length ≤ 20 ∧ q.p.length ≤ 8 ∧ q.sums.length ≤ 20 ∧ q.out.length ≤ 20 ∧ ∀ e ∈ q.p, cnt e ≤ 60 := by
  unfold fewQ at h
  simp only [Bool.and_eq_true, decide_eq_true_eq, List.all_eq_true] at h
  obtain ⟨⟨⟨⟨⟨h1, h2⟩, h3⟩, h4⟩, h5⟩, h6⟩ := h
  refine ⟨h1, h2, h3, h4, h5, fun e he => ?_⟩
  have := sz_cnt e 60 (by omega) (h6 e he)
  have := h6 e he
  omega
theorem ok_of_few {c : List Df} {q : Qy} (hr : q.Raw c) (h : fewQ c q = true) : q.Ok := by
  obtain ⟨h1, h2, h3, h4, h5, h6⟩ := fewQ_split h
  exact ⟨by omega, fun e he => ⟨hr.2.2.2.2.2 e he, Nat.le_trans (h6 e he) (by omega)⟩, by omega, by omega, by omega⟩
theorem cols_of {e : Ex} {l : List Int} (hm : e.may = true) (hl : l.Pairwise (· < ·)) (h : e.colsAll = l) : e.cols = l := by
  rw [Ex.cols, if_pos hm, h]
  exact pw_ext (uniq_pw l) hl fun x => uniq_mem l x
theorem exOk2 {op col k n : Int} {a b : Ex} (ha : a.Ok) (hb : b.Ok) : Ex.Ok (.mk op col k n [a, b]) := .mk (by simp) (by
  intro x hx
  simp only [List.mem_cons, List.not_mem_nil, or_false] at hx
  rcases hx with rfl | rfl
  · exact ha
  · exact hb)
theorem exOk0 {op col k n : Int} : Ex.Ok (.mk op col k n []) := .mk (by decide) (by simp)
end Go.Sim.Try
set_option linter.unusedSimpArgs false
set_option linter.unusedVariables false
set_option maxRecDepth 100000
namespace Go.Sim.Try
open Go Go.Sim
theorem shp_Is2 {n : Nat} {vs : List AV} (h : Shp Go.Proofs.Try.prog n 22 vs) : ∃ l : List Int, vs = [.sl (l.map encI)] ∧ l.length ≤ 140737488355328 ∧ ∀ x ∈ l, In64 x := by
  obtain ⟨m, es, _, rfl, hl, hp⟩ := shp_slice Go.Proofs.Try.underlying22 h
  rw [bytesI] at hl
  obtain ⟨l, rfl, hq⟩ := map_of (f := encI) (q := fun x => In64 x) fun x hx => let ⟨v, hv, hw⟩ := shp_int Go.Proofs.Try.underlying3 (hp x hx).2; ⟨v, hv, wf64 hw⟩
  exact ⟨l, rfl, by simp [reachBytes] at hl; omega, hq⟩
theorem told_nil {us : List AV} (h : ToldAll Go.Proofs.Try.prog [] us) : us = [] := by simpa only [ToldAll] using h
end Go.Sim.Try
set_option linter.unusedSimpArgs false
set_option linter.unusedVariables false
namespace Go.Sim.Try
open Go Go.Sim

def capN : Int := 1099511627776
def cap (n : Int) : Int := min n capN
def prodI : List Int → Int
  | [] => 1
  | x :: l => x * prodI l
def posL (l : List Int) : Bool := l.all fun x => decide (0 < x)
/-- As the program does. -/
def timesG (n : Int) : List Int → Int
  | [] => n
  | x :: l => if x ≤ 0 then 0 else timesG (cap (n * x)) l
def times (l : List Int) : Int := timesG 1 l

theorem mul_ge {a b : Int} (ha : 0 ≤ a) (hb : 1 ≤ b) : a ≤ a * b := by
  have := Int.mul_le_mul_of_nonneg_left hb ha
  omega
theorem prodI_pos {l : List Int} (h : posL l = true) : 1 ≤ prodI l := by
  induction l with
  | nil => simp [prodI]
  | cons x l ih =>
    simp only [posL, List.all_cons, Bool.and_eq_true, decide_eq_true_eq] at h
    have h1 := ih h.2
    have := mul_ge (a := x) (b := prodI l) (by omega) h1
    rw [prodI]
    omega
theorem cap_mul {a b : Int} (ha : 0 ≤ a) (hb : 1 ≤ b) : cap (cap a * b) = cap (a * b) := by
  unfold cap
  by_cases h : a ≤ capN
  · rw [Int.min_eq_left h]
  · have h1 := mul_ge (a := capN) (b := b) (by decide) hb
    have h2 := mul_ge ha hb
    rw [Int.min_eq_right (a := a) (by omega), Int.min_eq_right h1, Int.min_eq_right (by omega)]
theorem cap_le (n : Int) : cap n ≤ capN := Int.min_le_right _ _
theorem cap_pos {n : Int} (h : 1 ≤ n) : 1 ≤ cap n := by
  unfold cap capN
  omega
theorem cap_mono {a b : Int} (h : a ≤ b) : cap a ≤ cap b := by
  unfold cap
  omega
theorem timesG_eq : ∀ (l : List Int) (n : Int), 0 ≤ n → n ≤ capN → timesG n l = if posL l then cap (n * prodI l) else 0
  | [], n, h0, h1 => by
    rw [timesG, prodI, Int.mul_one, cap, Int.min_eq_left h1]
    rfl
  | x :: l, n, h0, h1 => by
    rw [timesG]
    by_cases hx : x ≤ 0
    · rw [if_pos hx, if_neg]
      simp only [posL, List.all_cons, Bool.and_eq_true, decide_eq_true_eq]
      omega
    · rw [if_neg hx]
      have hn : 0 ≤ n * x := Int.mul_nonneg h0 (by omega)
      have hc : 0 ≤ cap (n * x) := by unfold cap capN; omega
      rw [timesG_eq l _ hc (cap_le _)]
      have hp : posL (x :: l) = posL l := by
        simp only [posL, List.all_cons, decide_eq_true (show 0 < x by omega), Bool.true_and]
      rw [hp]
      by_cases hl : posL l = true
      · rw [if_pos hl, if_pos hl, cap_mul hn (prodI_pos hl), prodI, Int.mul_assoc]
      · rw [if_neg hl, if_neg hl]
theorem times_eq (l : List Int) : times l = if posL l then cap (prodI l) else 0 := by
  rw [times, timesG_eq l 1 (by omega) (by decide), Int.one_mul]
theorem times_range (l : List Int) : 0 ≤ times l ∧ times l ≤ capN := by
  rw [times_eq]
  split
  · rename_i h
    exact ⟨Int.le_trans (by omega) (cap_pos (prodI_pos h)), cap_le _⟩
  · decide
theorem prodI_append (l k : List Int) : prodI (l ++ k) = prodI l * prodI k := by
  induction l with
  | nil => rw [List.nil_append, prodI, Int.one_mul]
  | cons x l ih => rw [List.cons_append, prodI, prodI, ih, Int.mul_assoc]
theorem posL_append (l k : List Int) : posL (l ++ k) = (posL l && posL k) := List.all_append
theorem prodI_reverse (l : List Int) : prodI l.reverse = prodI l := by
  induction l with
  | nil => rfl
  | cons x l ih => rw [List.reverse_cons, prodI_append, ih, prodI, prodI, prodI, Int.mul_one, Int.mul_comm]
theorem times_reverse (l : List Int) : times l.reverse = times l := by
  rw [times_eq, times_eq, prodI_reverse]
  have : posL l.reverse = posL l := List.all_reverse
  rw [this]
theorem times_pos {l : List Int} (h : posL l = true) : 1 ≤ times l := by
  rw [times_eq, if_pos h]
  exact cap_pos (prodI_pos h)
theorem times_zero {l : List Int} (h : ¬ posL l = true) : times l = 0 := by rw [times_eq, if_neg h]
theorem cap_cap_mul {a b : Int} (ha : 1 ≤ a) (hb : 1 ≤ b) : cap (cap a * cap b) = cap (a * b) := by
  rw [cap_mul (by omega) (cap_pos hb), Int.mul_comm a, cap_mul (by omega) ha, Int.mul_comm]
theorem times_two {a b : Int} (ha : 1 ≤ a) (hb : 1 ≤ b) : times [a, b] = cap (a * b) := by
  rw [times_eq, if_pos]
  · rw [prodI, prodI, prodI, Int.mul_one]
  · simp only [posL, List.all_cons, List.all_nil, Bool.and_eq_true, decide_eq_true_eq, Bool.and_true]
    omega
theorem times_append (l k : List Int) : times (l ++ k) = times [times l, times k] := by
  by_cases hl : posL l = true
  · by_cases hk : posL k = true
    · rw [times_two (times_pos hl) (times_pos hk), times_eq (l ++ k), posL_append, hl, hk, times_eq l, times_eq k, if_pos hl, if_pos hk, cap_cap_mul (prodI_pos hl) (prodI_pos hk), prodI_append]
      rfl
    · rw [times_zero hk, times_zero, times_zero]
      · simp [posL]
      · rw [posL_append, Bool.and_eq_true]; exact fun h => hk h.2
  · rw [times_zero hl, times_zero, times_zero]
    · simp [posL]
    · rw [posL_append, Bool.and_eq_true]; exact fun h => hl h.1
theorem times_more (l k : List Int) : times k < 1 ∨ times l ≤ times (l ++ k) := by
  by_cases hk : posL k = true
  · right
    by_cases hl : posL l = true
    · rw [times_eq, times_eq (l ++ k), posL_append, hl, hk, if_pos rfl, if_pos (show (true && true) = true from rfl), prodI_append]
      have := prodI_pos hl
      exact cap_mono (mul_ge (by omega) (prodI_pos hk))
    · rw [times_zero hl]
      exact (times_range _).1
  · left
    rw [times_zero hk]
    omega

end Go.Sim.Try
set_option linter.unusedSimpArgs false
set_option linter.unusedVariables false
namespace Go.Sim.Try
open Go Go.Sim

def baseQ (c : List Df) (q : Qy) (o : Int) : Int := (c.getD (q.occ.getD o.toNat (-1)).toNat dfO).rows
def rowsL (c : List Df) (q : Qy) (s : Int) : List Int := ((upto q.occ.length).filter fun o => bitI s o.toNat).map (baseQ c q)
def wE (e : Ex) : Int := if e.pair.2.2 then 10 else 3
def Qy.fewer (q : Qy) (s : Int) : Int := prodI ((q.own s).map fun i => wE (q.p.getD i.toNat exO))
def rowsQ (c : List Df) (q : Qy) (s : Int) : Int := if q.may c then max 1 (times (rowsL c q s) / q.fewer s) else 0
def groupsQ (c : List Df) (q : Qy) : Int := if q.may c then max 1 (rowsQ c q (2 ^ q.occ.length - 1) / 5) else 0

theorem wE_range (e : Ex) : 1 ≤ wE e ∧ wE e ≤ 10 := by unfold wE; split <;> omega
theorem prodI_filter {α : Type} (p : α → Bool) (f : α → Int) : ∀ l : List α, prodI ((l.filter p).map f) = prodI (l.map fun x => if p x then f x else 1)
  | [] => rfl
  | x :: l => by
    rw [List.filter_cons, List.map_cons, prodI, ← prodI_filter p f l]
    split
    · rw [List.map_cons, prodI]
    · rw [Int.one_mul]
theorem prodI_one {α : Type} (f : α → Int) : ∀ l : List α, (∀ x ∈ l, 1 ≤ f x) → 1 ≤ prodI (l.map f)
  | [], _ => by rw [List.map_nil, prodI]; omega
  | x :: l, h => by
    rw [List.map_cons, prodI]
    have h1 := h x (by simp)
    have := mul_ge (a := f x) (by omega) (prodI_one f l fun y hy => h y (by simp [hy]))
    omega
theorem prodI_idx (p : Ex → Bool) (w : Ex → Int) (P : List Ex) : prodI ((idxF p P).map fun i => w (P.getD i.toNat exO)) = prodI (P.map fun e => if p e then w e else 1) := by
  induction P using snoc_ind with
  | h0 => rfl
  | h1 P e ih =>
    rw [idxF_snoc, List.map_append, prodI_append, List.map_append, prodI_append, ← ih]
    congr 1
    · congr 1
      refine List.map_congr_left fun i hi => ?_
      rw [idxF_mem] at hi
      rw [getD_left _ _ _ _ (by omega)]
    · have h2 : (P ++ [e]).getD ((P.length : Int)).toNat exO = e := by simp
      split
      · rename_i h
        simp only [List.map_cons, List.map_nil, prodI, h, if_true, h2]
      · rename_i h
        simp only [List.map_cons, List.map_nil, prodI, h]
        rfl
def wT (s : Int) (e : Ex) : Int := if ownT s e then wE e else 1
theorem wT_range (s : Int) (e : Ex) : 1 ≤ wT s e ∧ wT s e ≤ 10 := by
  unfold wT
  have := wE_range e
  split <;> omega
theorem fewer_eq (q : Qy) (s : Int) : q.fewer s = prodI (q.p.map (wT s)) := prodI_idx _ _ _
theorem fewer_pos (q : Qy) (s : Int) : 1 ≤ q.fewer s := by
  rw [fewer_eq]
  exact prodI_one _ _ fun x _ => (wT_range s x).1
def bT (c : List Df) (q : Qy) (s : Int) (o : Int) : Int := if bitI s o.toNat then baseQ c q o else 1
theorem rowsL_eq (c : List Df) (q : Qy) (s : Int) : prodI (rowsL c q s) = prodI ((upto q.occ.length).map (bT c q s)) := prodI_filter _ _ _
theorem base_range {c : List Df} {q : Qy} (h : q.may c = true) {o : Int} (h0 : 0 ≤ o) (h1 : o < q.occ.length) : 1 ≤ baseQ c q o ∧ baseQ c q o ≤ 1000000 := by
  obtain ⟨hc, _, _, ht, _⟩ := may_split h
  unfold baseQ
  have hlt : o.toNat < q.occ.length := by omega
  rw [List.getD_eq_getElem?_getD (l := q.occ), List.getElem?_eq_getElem hlt, Option.getD_some]
  have h2 := ht _ (List.getElem_mem hlt)
  have hlt2 : q.occ[o.toNat].toNat < c.length := by omega
  rw [List.getD_eq_getElem?_getD, List.getElem?_eq_getElem hlt2, Option.getD_some]
  simp only [catMay, Bool.and_eq_true, List.all_eq_true] at hc
  have h3 := hc.2 _ (List.getElem_mem hlt2)
  simp only [Df.may, Bool.and_eq_true, decide_eq_true_eq] at h3
  omega
theorem bT_pos {c : List Df} {q : Qy} (h : q.may c = true) (s : Int) : ∀ o ∈ upto q.occ.length, 1 ≤ bT c q s o := by
  intro o ho
  rw [upto_mem] at ho
  have := base_range h ho.1 ho.2
  unfold bT
  split <;> omega
theorem rowsL_pos {c : List Df} {q : Qy} (h : q.may c = true) (s : Int) : posL (rowsL c q s) = true := by
  rw [posL, List.all_eq_true]
  intro x hx
  rw [rowsL, List.mem_map] at hx
  obtain ⟨o, ho, rfl⟩ := hx
  have ho := (upto_mem _ _).1 (List.mem_filter.1 ho).1
  have := base_range h ho.1 ho.2
  rw [decide_eq_true_eq]
  omega
def prB (c : List Df) (q : Qy) (s : Int) : Int := prodI ((upto q.occ.length).map (bT c q s))
theorem prB_pos {c : List Df} {q : Qy} (h : q.may c = true) (s : Int) : 1 ≤ prB c q s := prodI_one _ _ (bT_pos h s)
theorem times_rows {c : List Df} {q : Qy} (h : q.may c = true) (s : Int) : times (rowsL c q s) = cap (prB c q s) := by
  rw [times_eq, if_pos (rowsL_pos h s), rowsL_eq]
  rfl
theorem rowsQ_eq {c : List Df} {q : Qy} (h : q.may c = true) (s : Int) : rowsQ c q s = max 1 (cap (prB c q s) / q.fewer s) := by
  rw [rowsQ, if_pos h, times_rows h]
theorem div_le_self' {a b : Int} (ha : 0 ≤ a) (hb : 1 ≤ b) : a / b ≤ a := Int.ediv_le_self _ ha
theorem div_nonneg' {a b : Int} (ha : 0 ≤ a) (hb : 1 ≤ b) : 0 ≤ a / b := Int.ediv_nonneg ha (by omega)
theorem rowsQ_range {c : List Df} {q : Qy} (h : q.may c = true) (s : Int) : 1 ≤ rowsQ c q s ∧ rowsQ c q s ≤ capN := by
  rw [rowsQ_eq h]
  have h1 := cap_le (prB c q s)
  have h2 := cap_pos (prB_pos h s)
  have h3 := div_le_self' (a := cap (prB c q s)) (by omega) (fewer_pos q s)
  have h4 : (1 : Int) ≤ capN := by decide
  omega
end Go.Sim.Try
set_option linter.unusedSimpArgs false
set_option linter.unusedVariables false
set_option maxRecDepth 100000
namespace Go.Sim.Try
open Go Go.Sim
attribute [local push_cast] aops_cons aops_nil aopG_none aopG_some aopP_eq aopE_eq aopC_eq aopE?_eq aopC?_eq aopB_eq aopB?_eq abr anilq gopP_eq gopL_eq ahead_cons ahead_nil ahdG_none ahdG_some ahdP_eq ahdN_eq ahdC_eq ahdN?_eq ahdS_eq ahdS?_eq astoreN ahdC?_eq ghdP_eq ghdC_eq ghdC?_eq ghdZ_f ghdZ_t ahdI_eq ahdI?_eq ghdN?_eq aim_nil aim_cons isIn_nil isIn_none isIn_cons aimm aheP_eq aheA_eq aheC_eq aheC?_eq aheI?_eq aheA?_eq gheP_eq gheC_eq gheC?_eq gheZ_eq aheG_none aheG_some aheff_cons aheff_nil aapp gro_rsl gro_lit gro_esl opt_some opt_none no_eq acondT_true acondT_false acondT_lit aw_skip aw_region aw_regionD aw_seq aw_cond aw_block aw_loop aw_exit aw_label aw_ret thn_normal thn_exit thn_ret inb_normal inb_exit inb_ret qret_ret qret_normal gcond apure aeff anew acallee ares aresT aresL aresC ares1 qfin_eq ev ofV evL gokL tget tput_some tput_none initT abin aint aun aload afaddr aiaddr afield aindex aextract apick pickv_lit Bool.or_false Bool.false_or Bool.or_true Bool.true_or imp_self aslice chunk roomB abound aconv abuild afill splice alen aminmax abuiltin anil apart Value.oneCell' astore aappend srcEs abuildSlice asets isEq plus_obj plus_nxt plus_add plus_set plus_del IntKind.bits Option.map_some Option.map_none Option.bind_some Option.bind_none Option.join_some Option.getD_some Option.getD_none Option.toList Option.isSome_some List.getElem?_toArray List.getElem?_cons_zero List.getElem?_cons_succ List.getElem?_nil List.length_cons List.length_nil List.length_map List.head?_cons List.cons_append List.nil_append List.append_nil List.map_cons List.map_nil List.getD_cons_zero List.getD_cons_succ List.replicate_succ List.replicate_zero List.set_cons_zero List.set_cons_succ List.take_succ_cons List.take_zero List.drop_succ_cons List.drop_zero List.all_cons List.all_nil Nat.zero_add if_true if_false true_and and_true false_and and_false true_implies implies_true forall_const Bool.and_true Bool.true_and Bool.false_and Bool.and_false Bool.true_beq Bool.false_beq Bool.not_not beq_tt beq_ff Int.toNat_natCast decide_true decide_false Bool.not_true Bool.not_false Bool.true_eq_false Bool.false_eq_true false_implies exists_prop eq_self bne_self_eq_false beq_self_eq_true decide_eq_true_eq decide_eq_false_iff_not Bool.not_eq_true' Bool.not_eq_false' AV.int AV.bool AV.nilS ne_eq not_false_eq_true not_true_eq_false exists_eq_left exists_eq_left' Nat.lt_irrefl core_lit grd_lit acells_lit one_lit core_agg grd_agg acells_agg one_agg core_tup grd_tup acells_tup one_tup core_sl grd_sl acells_sl one_sl core_esl grd_esl acells_esl one_esl core_rsl grd_rsl acells_rsl one_rsl core_ptr grd_ptr acells_ptr one_ptr core_iptr grd_iptr acells_iptr one_iptr core_clo grd_clo acells_clo one_clo core_mp grd_mp acells_mp one_mp core_any grd_any acells_any one_any core_gv grd_gv fit_agg fit_lit fit_sl fit_esl fit_rsl fit_ptr fit_iptr fit_clo fit_mp retq_ret retq_normal set_nxt set_set plus_obj_set plus_set_set app_get0 app_get app_set0 app_set List.append_assoc List.length_append List.length_set Nat.lt_add_one Nat.add_lt_add_iff_right Nat.lt_add_right_iff_pos Nat.add_lt_add_iff_left List.mem_cons List.not_mem_nil or_false forall_eq forall_eq_or_imp lt_s0 lt_s1 lt_s2 lt_s3 lt_s4 lt_s5 lt_s6 lt_s7 lt_s8 pickv_t pickv_f or_nand or_nand2 imp_and_l SealT SealOs sealO_cells sl_lit sl_any sl_agg sl_tup sl_sl sl_rsl slO sl_esl sl_nil sl_eslesl sl_eslnil sl_rslrsl sl_eslrsl sl_nilrsl sl_ptr sl_iptr sl_ptri slP sl_clo sl_mp sl_gv sll_nil sll_cons slll_nil slll_cons shut_eq shutO Option.join_none Fn.func.injEq and_self sealL_self sealLL_self seal_self PureL PureLL Pure Nat.le_refl Nat.zero_le AV.lit.injEq Value.int.injEq Value.bool.injEq false_or or_true true_or Int.natCast_zero Int.ofNat_zero Int.cast_ofNat_Int Int.natCast_add Int.natCast_one Option.some.injEq piL_is sop_nil sop_cons sop_none sop_some sopO_some sop_new shut_pi shutL_nil shutL_cons exQ_exit exQ_ret exQ_normal Go.Sim.Try.ty_load1 Go.Sim.Try.ty_zero1 Go.Sim.Try.ty_load2 Go.Sim.Try.ty_zero2 Go.Sim.Try.ty_und2 Go.Sim.Try.ty_load3 Go.Sim.Try.ty_zero3 Go.Sim.Try.ty_und3 Go.Sim.Try.ty_load4 Go.Sim.Try.ty_zero4 Go.Sim.Try.ty_und4 Go.Sim.Try.ty_load5 Go.Sim.Try.ty_zero5 Go.Sim.Try.ty_und5 Go.Sim.Try.ty_load9 Go.Sim.Try.ty_zero9 Go.Sim.Try.ty_und9 Go.Sim.Try.ty_load22 Go.Sim.Try.ty_zero22 Go.Sim.Try.ty_el22 Go.Sim.Try.ty_zeroE22 Go.Sim.Try.ty_load26 Go.Sim.Try.ty_zero26 Go.Sim.Try.ty_el26 Go.Sim.Try.ty_zeroE26 Go.Sim.Try.ty_load28 Go.Sim.Try.ty_zero28 Go.Sim.Try.ty_fld28_0 Go.Sim.Try.ty_part28_0 Go.Sim.Try.ty_struct28 Go.Sim.Try.ty_load29 Go.Sim.Try.ty_zero29 Go.Sim.Try.ty_el29 Go.Sim.Try.ty_zeroE29 Go.Sim.Try.ty_load31 Go.Sim.Try.ty_zero31 Go.Sim.Try.ty_fld31_0 Go.Sim.Try.ty_part31_0 Go.Sim.Try.ty_struct31 Go.Sim.Try.ty_load35 Go.Sim.Try.ty_zero35 Go.Sim.Try.ty_fld35_0 Go.Sim.Try.ty_part35_0 Go.Sim.Try.ty_fld35_1 Go.Sim.Try.ty_part35_1 Go.Sim.Try.ty_struct35 Go.Sim.Try.ty_load36 Go.Sim.Try.ty_zero36 Go.Sim.Try.ty_el36 Go.Sim.Try.ty_zeroE36 Go.Sim.Try.ty_load38 Go.Sim.Try.ty_zero38 Go.Sim.Try.ty_fld38_0 Go.Sim.Try.ty_part38_0 Go.Sim.Try.ty_fld38_1 Go.Sim.Try.ty_part38_1 Go.Sim.Try.ty_fld38_2 Go.Sim.Try.ty_part38_2 Go.Sim.Try.ty_fld38_3 Go.Sim.Try.ty_part38_3 Go.Sim.Try.ty_struct38 Go.Sim.Try.ty_load40 Go.Sim.Try.ty_zero40 Go.Sim.Try.ty_fld40_0 Go.Sim.Try.ty_part40_0 Go.Sim.Try.ty_fld40_1 Go.Sim.Try.ty_part40_1 Go.Sim.Try.ty_fld40_2 Go.Sim.Try.ty_part40_2 Go.Sim.Try.ty_fld40_3 Go.Sim.Try.ty_part40_3 Go.Sim.Try.ty_fld40_4 Go.Sim.Try.ty_part40_4 Go.Sim.Try.ty_fld40_5 Go.Sim.Try.ty_part40_5 Go.Sim.Try.ty_struct40 Go.Sim.Try.ty_load43 Go.Sim.Try.ty_zero43 Go.Sim.Try.ty_und43 Go.Sim.Try.ty_load47 Go.Sim.Try.ty_zero47 Go.Sim.Try.ty_fld47_0 Go.Sim.Try.ty_part47_0 Go.Sim.Try.ty_fld47_1 Go.Sim.Try.ty_part47_1 Go.Sim.Try.ty_struct47 Go.Sim.Try.ty_load48 Go.Sim.Try.ty_zero48 Go.Sim.Try.ty_el48 Go.Sim.Try.ty_zeroE48 Go.Sim.Try.ty_load49 Go.Sim.Try.ty_zero49 Go.Sim.Try.ty_el49 Go.Sim.Try.ty_zeroE49 Go.Sim.Try.ty_load52 Go.Sim.Try.ty_zero52 Go.Sim.Try.ty_und52 Go.Sim.Try.ty_load53 Go.Sim.Try.ty_zero53 Go.Sim.Try.ty_load63 Go.Sim.Try.ty_zero63 Go.Sim.Try.ty_arr63 Go.Sim.Try.ty_part63_0 Go.Sim.Try.ty_part63_1 Go.Sim.Try.ty_struct63 Go.Sim.Try.ty_load67 Go.Sim.Try.ty_zero67 Go.Sim.Try.ty_load72 Go.Sim.Try.ty_zero72 Go.Sim.Try.ty_load77 Go.Sim.Try.ty_zero77 Go.Sim.Try.ty_load78 Go.Sim.Try.ty_zero78 Go.Sim.Try.ty_und78 Go.Sim.Try.ty_load85 Go.Sim.Try.ty_zero85 Go.Sim.Try.ty_fld85_0 Go.Sim.Try.ty_part85_0 Go.Sim.Try.ty_fld85_1 Go.Sim.Try.ty_part85_1 Go.Sim.Try.ty_fld85_2 Go.Sim.Try.ty_part85_2 Go.Sim.Try.ty_struct85 Go.Sim.Try.ty_load87 Go.Sim.Try.ty_zero87 Go.Sim.Try.ty_load89 Go.Sim.Try.ty_zero89 Go.Sim.Try.ty_und89 Go.Sim.Try.ty_load98 Go.Sim.Try.ty_zero98 Go.Sim.Try.ty_und98 Go.Sim.Try.ty_load102 Go.Sim.Try.ty_zero102 Go.Sim.Try.ty_load105 Go.Sim.Try.ty_zero105 Go.Sim.Try.ty_und105 Go.Sim.Try.ty_load109 Go.Sim.Try.ty_zero109 Go.Sim.Try.ty_load113 Go.Sim.Try.ty_zero113 encE_mk encE_take encE_len encV encE_one encEs_pure encE_pure

theorem posL_snoc (l : List Int) (i : Nat) (h : i < l.length) : posL (l.take (i + 1)) = (posL (l.take i) && decide (0 < l[i])) := by
  rw [List.take_succ_eq_append_getElem h, posL_append]
  simp [posL]
theorem prodI_snoc (l : List Int) (i : Nat) (h : i < l.length) : prodI (l.take (i + 1)) = prodI (l.take i) * l[i] := by
  rw [List.take_succ_eq_append_getElem h, prodI_append, prodI, prodI, Int.mul_one]
theorem posL_mem {l : List Int} {i : Nat} (h : i < l.length) (h0 : l[i] ≤ 0) : ¬ posL l = true := by
  intro hp
  rw [posL, List.all_eq_true] at hp
  have := hp _ (List.getElem_mem h)
  rw [decide_eq_true_eq] at this
  omega
theorem cap_step {a x : Int} (ha : 1 ≤ a) (hx : 1 ≤ x) : cap (cap a * x) = cap (a * x) := cap_mul (by omega) hx
theorem times_ok (l : List Int) (hl : l.length ≤ 1000000) (hin : ∀ x ∈ l, In64 x) : Quiet Go.Proofs.Try.prog 5 [.sl (l.map encI)] (.int (times l)) := by
  refine quiet_of (rs := #[.tmp 2]) Go.Proofs.Try.func5 rfl rfl rfl mixed rfl rfl fun H hs => ?_
  simp -implicitDefEqProofs only [push_cast, Nat.reduceAdd, Nat.reduceSub, Nat.reduceMul, Nat.reduceLT, Nat.reduceLeDiff, Nat.reduceEqDiff, Nat.reduceBEq, reduceCtorEq, reduceIte, Int.reduceLE, Int.reduceLT, Int.reduceNeg, Int.reduceToNat]
  refine loop_rule hs (σ := Nat) (fun i => i ≤ l.length ∧ posL (l.take i) = true) (fun i => l.length - i)
    (fun i => [(8, .sl (l.map encI)), (3, .lit (.int .u64 (cap (prodI (l.take i))))), (9, .int l.length), (10, .int i)]) (fun _ => []) 0 ⟨by omega, rfl⟩ ?_ ?_ ?_
  · (try simp -implicitDefEqProofs only [push_cast, Nat.reduceAdd, Nat.reduceSub, Nat.reduceMul, Nat.reduceLT, Nat.reduceLeDiff, Nat.reduceEqDiff, Nat.reduceBEq, reduceCtorEq, reduceIte, Int.reduceLE, Int.reduceLT, Int.reduceNeg, Int.reduceToNat, encIs_pure])
    rfl
  · (try simp -implicitDefEqProofs only [push_cast, Nat.reduceAdd, Nat.reduceSub, Nat.reduceMul, Nat.reduceLT, Nat.reduceLeDiff, Nat.reduceEqDiff, Nat.reduceBEq, reduceCtorEq, reduceIte, Int.reduceLE, Int.reduceLT, Int.reduceNeg, Int.reduceToNat])
  · rintro i ⟨h2, h3⟩
    by_cases hi : i < l.length
    · have hi' : ((i : Int) < (l.length : Int)) = True := by simp; omega
      have hi0 : (0 ≤ (i : Int)) = True := by simp
      have hc := hin l[i] (List.getElem_mem hi)
      unfold In64 at hc
      simp -implicitDefEqProofs only [push_cast, Nat.reduceAdd, Nat.reduceSub, Nat.reduceMul, Nat.reduceLT, Nat.reduceLeDiff, Nat.reduceEqDiff, Nat.reduceBEq, reduceCtorEq, reduceIte, Int.reduceLE, Int.reduceLT, Int.reduceNeg, Int.reduceToNat, hi', hi0, encIs_get l i hi, encI]
      refine ⟨fun h => ?_, fun h => ?_⟩
      · (try simp -implicitDefEqProofs only [push_cast, Nat.reduceAdd, Nat.reduceSub, Nat.reduceMul, Nat.reduceLT, Nat.reduceLeDiff, Nat.reduceEqDiff, Nat.reduceBEq, reduceCtorEq, reduceIte, Int.reduceLE, Int.reduceLT, Int.reduceNeg, Int.reduceToNat])
        rw [times_zero (posL_mem hi (by simpa using h))]
      · have hx : 0 < l[i] := by simpa using h
        refine callq (mul64_ok _ _) ?_
        have e1 : IntKind.wrap .u64 l[i] = l[i] := by rw [IntKind.wrap_u64]; omega
        have hN1 := cap_pos (prodI_pos h3)
        have hN2 := cap_le (prodI (l.take i))
        have hst : cap (prodI (l.take (i + 1))) = cap (cap (prodI (l.take i)) * l[i]) := by rw [prodI_snoc l i hi, cap_step (prodI_pos h3) hx]
        have hpo : posL (l.take (i + 1)) = true := by rw [posL_snoc l i hi, h3, decide_eq_true hx]; rfl
        rw [e1]
        unfold capN at hN2
        have hmul := mulHi_eq (cap (prodI (l.take i))) l[i] (by omega) (by omega) (by omega) (by omega)
        rw [hmul]
        generalize hN : cap (prodI (l.take i)) = N at *
        have hge := mul_ge (a := N) (b := l[i]) (by omega) hx
        simp -implicitDefEqProofs only [push_cast, Nat.reduceAdd, Nat.reduceSub, Nat.reduceMul, Nat.reduceLT, Nat.reduceLeDiff, Nat.reduceEqDiff, Nat.reduceBEq, reduceCtorEq, reduceIte, Int.reduceLE, Int.reduceLT, Int.reduceNeg, Int.reduceToNat]
        have hcap : cap (N * l[i]) = if 1099511627776 < N * l[i] then 1099511627776 else N * l[i] := by
          unfold cap capN
          split <;> omega
        generalize hM : N * l[i] = M at *
        rw [wrap64 (n := (i : Int) + 1) (by omega) (by omega), IntKind.wrap_u64]
        refine ⟨fun hb => ?_, fun hb => ?_⟩
        · have hv : cap (prodI (l.take (i + 1))) = 1099511627776 := by rw [hst, hcap, if_pos (by omega)]
          refine next_intro (i + 1) ⟨by omega, hpo⟩ (by omega) ?_ ?_
          · (try simp -implicitDefEqProofs only [push_cast, Nat.reduceAdd, Nat.reduceSub, Nat.reduceMul, Nat.reduceLT, Nat.reduceLeDiff, Nat.reduceEqDiff, Nat.reduceBEq, reduceCtorEq, reduceIte, Int.reduceLE, Int.reduceLT, Int.reduceNeg, Int.reduceToNat, hv, encIs_pure])
          · (try simp -implicitDefEqProofs only [push_cast, Nat.reduceAdd, Nat.reduceSub, Nat.reduceMul, Nat.reduceLT, Nat.reduceLeDiff, Nat.reduceEqDiff, Nat.reduceBEq, reduceCtorEq, reduceIte, Int.reduceLE, Int.reduceLT, Int.reduceNeg, Int.reduceToNat])
        · have hm : M % 18446744073709551616 = M := by omega
          rw [hm]
          have hv : cap (prodI (l.take (i + 1))) = if 1099511627776 < M then 1099511627776 else M := by rw [hst, hcap]
          refine next_intro (i + 1) ⟨by omega, hpo⟩ (by omega) ?_ ?_
          · (try simp -implicitDefEqProofs only [push_cast, Nat.reduceAdd, Nat.reduceSub, Nat.reduceMul, Nat.reduceLT, Nat.reduceLeDiff, Nat.reduceEqDiff, Nat.reduceBEq, reduceCtorEq, reduceIte, Int.reduceLE, Int.reduceLT, Int.reduceNeg, Int.reduceToNat, hv, encIs_pure])
          · (try simp -implicitDefEqProofs only [push_cast, Nat.reduceAdd, Nat.reduceSub, Nat.reduceMul, Nat.reduceLT, Nat.reduceLeDiff, Nat.reduceEqDiff, Nat.reduceBEq, reduceCtorEq, reduceIte, Int.reduceLE, Int.reduceLT, Int.reduceNeg, Int.reduceToNat])
    · have hi' : ((i : Int) < (l.length : Int)) = False := by simp; omega
      rw [List.take_of_length_le (by omega)] at h3
      simp -implicitDefEqProofs only [push_cast, Nat.reduceAdd, Nat.reduceSub, Nat.reduceMul, Nat.reduceLT, Nat.reduceLeDiff, Nat.reduceEqDiff, Nat.reduceBEq, reduceCtorEq, reduceIte, Int.reduceLE, Int.reduceLT, Int.reduceNeg, Int.reduceToNat, hi']
      (try simp -implicitDefEqProofs only [push_cast, Nat.reduceAdd, Nat.reduceSub, Nat.reduceMul, Nat.reduceLT, Nat.reduceLeDiff, Nat.reduceEqDiff, Nat.reduceBEq, reduceCtorEq, reduceIte, Int.reduceLE, Int.reduceLT, Int.reduceNeg, Int.reduceToNat])
      rw [List.take_of_length_le (by omega), times_eq, if_pos h3]
      have h1 := cap_pos (prodI_pos h3)
      have h4 := cap_le (prodI l)
      unfold capN at h4
      rw [wrap64 (by omega) (by omega)]
end Go.Sim.Try
set_option linter.unusedSimpArgs false
set_option linter.unusedVariables false
set_option maxRecDepth 100000
namespace Go.Sim.Try
open Go Go.Sim
attribute [local push_cast] aops_cons aops_nil aopG_none aopG_some aopP_eq aopE_eq aopC_eq aopE?_eq aopC?_eq aopB_eq aopB?_eq abr anilq gopP_eq gopL_eq ahead_cons ahead_nil ahdG_none ahdG_some ahdP_eq ahdN_eq ahdC_eq ahdN?_eq ahdS_eq ahdS?_eq astoreN ahdC?_eq ghdP_eq ghdC_eq ghdC?_eq ghdZ_f ghdZ_t ahdI_eq ahdI?_eq ghdN?_eq aim_nil aim_cons isIn_nil isIn_none isIn_cons aimm aheP_eq aheA_eq aheC_eq aheC?_eq aheI?_eq aheA?_eq gheP_eq gheC_eq gheC?_eq gheZ_eq aheG_none aheG_some aheff_cons aheff_nil aapp gro_rsl gro_lit gro_esl opt_some opt_none no_eq acondT_true acondT_false acondT_lit aw_skip aw_region aw_regionD aw_seq aw_cond aw_block aw_loop aw_exit aw_label aw_ret thn_normal thn_exit thn_ret inb_normal inb_exit inb_ret qret_ret qret_normal gcond apure aeff anew acallee ares aresT aresL aresC ares1 qfin_eq ev ofV evL gokL tget tput_some tput_none initT abin aint aun aload afaddr aiaddr afield aindex aextract apick pickv_lit Bool.or_false Bool.false_or Bool.or_true Bool.true_or imp_self aslice chunk roomB abound aconv abuild afill splice alen aminmax abuiltin anil apart Value.oneCell' astore aappend srcEs abuildSlice asets isEq plus_obj plus_nxt plus_add plus_set plus_del IntKind.bits Option.map_some Option.map_none Option.bind_some Option.bind_none Option.join_some Option.getD_some Option.getD_none Option.toList Option.isSome_some List.getElem?_toArray List.getElem?_cons_zero List.getElem?_cons_succ List.getElem?_nil List.length_cons List.length_nil List.length_map List.head?_cons List.cons_append List.nil_append List.append_nil List.map_cons List.map_nil List.getD_cons_zero List.getD_cons_succ List.replicate_succ List.replicate_zero List.set_cons_zero List.set_cons_succ List.take_succ_cons List.take_zero List.drop_succ_cons List.drop_zero List.all_cons List.all_nil Nat.zero_add if_true if_false true_and and_true false_and and_false true_implies implies_true forall_const Bool.and_true Bool.true_and Bool.false_and Bool.and_false Bool.true_beq Bool.false_beq Bool.not_not beq_tt beq_ff Int.toNat_natCast decide_true decide_false Bool.not_true Bool.not_false Bool.true_eq_false Bool.false_eq_true false_implies exists_prop eq_self bne_self_eq_false beq_self_eq_true decide_eq_true_eq decide_eq_false_iff_not Bool.not_eq_true' Bool.not_eq_false' AV.int AV.bool AV.nilS ne_eq not_false_eq_true not_true_eq_false exists_eq_left exists_eq_left' Nat.lt_irrefl core_lit grd_lit acells_lit one_lit core_agg grd_agg acells_agg one_agg core_tup grd_tup acells_tup one_tup core_sl grd_sl acells_sl one_sl core_esl grd_esl acells_esl one_esl core_rsl grd_rsl acells_rsl one_rsl core_ptr grd_ptr acells_ptr one_ptr core_iptr grd_iptr acells_iptr one_iptr core_clo grd_clo acells_clo one_clo core_mp grd_mp acells_mp one_mp core_any grd_any acells_any one_any core_gv grd_gv fit_agg fit_lit fit_sl fit_esl fit_rsl fit_ptr fit_iptr fit_clo fit_mp retq_ret retq_normal set_nxt set_set plus_obj_set plus_set_set app_get0 app_get app_set0 app_set List.append_assoc List.length_append List.length_set Nat.lt_add_one Nat.add_lt_add_iff_right Nat.lt_add_right_iff_pos Nat.add_lt_add_iff_left List.mem_cons List.not_mem_nil or_false forall_eq forall_eq_or_imp lt_s0 lt_s1 lt_s2 lt_s3 lt_s4 lt_s5 lt_s6 lt_s7 lt_s8 pickv_t pickv_f or_nand or_nand2 imp_and_l SealT SealOs sealO_cells sl_lit sl_any sl_agg sl_tup sl_sl sl_rsl slO sl_esl sl_nil sl_eslesl sl_eslnil sl_rslrsl sl_eslrsl sl_nilrsl sl_ptr sl_iptr sl_ptri slP sl_clo sl_mp sl_gv sll_nil sll_cons slll_nil slll_cons shut_eq shutO Option.join_none Fn.func.injEq and_self sealL_self sealLL_self seal_self PureL PureLL Pure Nat.le_refl Nat.zero_le AV.lit.injEq Value.int.injEq Value.bool.injEq false_or or_true true_or Int.natCast_zero Int.ofNat_zero Int.cast_ofNat_Int Int.natCast_add Int.natCast_one Option.some.injEq piL_is sop_nil sop_cons sop_none sop_some sopO_some sop_new shut_pi shutL_nil shutL_cons exQ_exit exQ_ret exQ_normal Go.Sim.Try.ty_load1 Go.Sim.Try.ty_zero1 Go.Sim.Try.ty_load2 Go.Sim.Try.ty_zero2 Go.Sim.Try.ty_und2 Go.Sim.Try.ty_load3 Go.Sim.Try.ty_zero3 Go.Sim.Try.ty_und3 Go.Sim.Try.ty_load4 Go.Sim.Try.ty_zero4 Go.Sim.Try.ty_und4 Go.Sim.Try.ty_load5 Go.Sim.Try.ty_zero5 Go.Sim.Try.ty_und5 Go.Sim.Try.ty_load9 Go.Sim.Try.ty_zero9 Go.Sim.Try.ty_und9 Go.Sim.Try.ty_load22 Go.Sim.Try.ty_zero22 Go.Sim.Try.ty_el22 Go.Sim.Try.ty_zeroE22 Go.Sim.Try.ty_load26 Go.Sim.Try.ty_zero26 Go.Sim.Try.ty_el26 Go.Sim.Try.ty_zeroE26 Go.Sim.Try.ty_load28 Go.Sim.Try.ty_zero28 Go.Sim.Try.ty_fld28_0 Go.Sim.Try.ty_part28_0 Go.Sim.Try.ty_struct28 Go.Sim.Try.ty_load29 Go.Sim.Try.ty_zero29 Go.Sim.Try.ty_el29 Go.Sim.Try.ty_zeroE29 Go.Sim.Try.ty_load31 Go.Sim.Try.ty_zero31 Go.Sim.Try.ty_fld31_0 Go.Sim.Try.ty_part31_0 Go.Sim.Try.ty_struct31 Go.Sim.Try.ty_load35 Go.Sim.Try.ty_zero35 Go.Sim.Try.ty_fld35_0 Go.Sim.Try.ty_part35_0 Go.Sim.Try.ty_fld35_1 Go.Sim.Try.ty_part35_1 Go.Sim.Try.ty_struct35 Go.Sim.Try.ty_load36 Go.Sim.Try.ty_zero36 Go.Sim.Try.ty_el36 Go.Sim.Try.ty_zeroE36 Go.Sim.Try.ty_load38 Go.Sim.Try.ty_zero38 Go.Sim.Try.ty_fld38_0 Go.Sim.Try.ty_part38_0 Go.Sim.Try.ty_fld38_1 Go.Sim.Try.ty_part38_1 Go.Sim.Try.ty_fld38_2 Go.Sim.Try.ty_part38_2 Go.Sim.Try.ty_fld38_3 Go.Sim.Try.ty_part38_3 Go.Sim.Try.ty_struct38 Go.Sim.Try.ty_load40 Go.Sim.Try.ty_zero40 Go.Sim.Try.ty_fld40_0 Go.Sim.Try.ty_part40_0 Go.Sim.Try.ty_fld40_1 Go.Sim.Try.ty_part40_1 Go.Sim.Try.ty_fld40_2 Go.Sim.Try.ty_part40_2 Go.Sim.Try.ty_fld40_3 Go.Sim.Try.ty_part40_3 Go.Sim.Try.ty_fld40_4 Go.Sim.Try.ty_part40_4 Go.Sim.Try.ty_fld40_5 Go.Sim.Try.ty_part40_5 Go.Sim.Try.ty_struct40 Go.Sim.Try.ty_load43 Go.Sim.Try.ty_zero43 Go.Sim.Try.ty_und43 Go.Sim.Try.ty_load47 Go.Sim.Try.ty_zero47 Go.Sim.Try.ty_fld47_0 Go.Sim.Try.ty_part47_0 Go.Sim.Try.ty_fld47_1 Go.Sim.Try.ty_part47_1 Go.Sim.Try.ty_struct47 Go.Sim.Try.ty_load48 Go.Sim.Try.ty_zero48 Go.Sim.Try.ty_el48 Go.Sim.Try.ty_zeroE48 Go.Sim.Try.ty_load49 Go.Sim.Try.ty_zero49 Go.Sim.Try.ty_el49 Go.Sim.Try.ty_zeroE49 Go.Sim.Try.ty_load52 Go.Sim.Try.ty_zero52 Go.Sim.Try.ty_und52 Go.Sim.Try.ty_load53 Go.Sim.Try.ty_zero53 Go.Sim.Try.ty_load63 Go.Sim.Try.ty_zero63 Go.Sim.Try.ty_arr63 Go.Sim.Try.ty_part63_0 Go.Sim.Try.ty_part63_1 Go.Sim.Try.ty_struct63 Go.Sim.Try.ty_load67 Go.Sim.Try.ty_zero67 Go.Sim.Try.ty_load72 Go.Sim.Try.ty_zero72 Go.Sim.Try.ty_load77 Go.Sim.Try.ty_zero77 Go.Sim.Try.ty_load78 Go.Sim.Try.ty_zero78 Go.Sim.Try.ty_und78 Go.Sim.Try.ty_load85 Go.Sim.Try.ty_zero85 Go.Sim.Try.ty_fld85_0 Go.Sim.Try.ty_part85_0 Go.Sim.Try.ty_fld85_1 Go.Sim.Try.ty_part85_1 Go.Sim.Try.ty_fld85_2 Go.Sim.Try.ty_part85_2 Go.Sim.Try.ty_struct85 Go.Sim.Try.ty_load87 Go.Sim.Try.ty_zero87 Go.Sim.Try.ty_load89 Go.Sim.Try.ty_zero89 Go.Sim.Try.ty_und89 Go.Sim.Try.ty_load98 Go.Sim.Try.ty_zero98 Go.Sim.Try.ty_und98 Go.Sim.Try.ty_load102 Go.Sim.Try.ty_zero102 Go.Sim.Try.ty_load105 Go.Sim.Try.ty_zero105 Go.Sim.Try.ty_und105 Go.Sim.Try.ty_load109 Go.Sim.Try.ty_zero109 Go.Sim.Try.ty_load113 Go.Sim.Try.ty_zero113 encE_mk encE_take encE_len encV encE_one encEs_pure encE_pure

def baseR (c : List Df) (q : Qy) (o : Int) : Int := if q.may c = true ∧ 0 ≤ o ∧ o < q.occ.length then baseQ c q o else 0
theorem base_get {c : List Df} {q : Qy} (h : q.may c = true) {k : Nat} (hk : k < q.occ.length) : ∃ t : Nat, q.occ[k] = t ∧ ∃ ht : t < c.length, baseQ c q k = c[t].rows := by
  have hr := (may_split h).2.2.2.1 _ (List.getElem_mem hk)
  refine ⟨q.occ[k].toNat, by omega, by omega, ?_⟩
  rw [baseQ, Int.toNat_natCast, List.getD_eq_getElem?_getD (l := q.occ), List.getElem?_eq_getElem hk, Option.getD_some, List.getD_eq_getElem?_getD, List.getElem?_eq_getElem (by omega)]
  rfl
theorem Base_ok (c : List Df) (hcl : c.length ≤ 1000000) (q : Qy) (hq : q.Ok) (o : Int) (hin : In64 o) : Quiet Go.Proofs.Try.prog 9 [.agg [.sl (c.map encD)], .agg (encQ q), .int o] (.int (baseR c q o)) := by
  refine quiet_of (rs := #[.tmp 6]) Go.Proofs.Try.func9 rfl rfl rfl mixed rfl rfl fun H hs => ?_
  simp -implicitDefEqProofs only [push_cast, Nat.reduceAdd, Nat.reduceSub, Nat.reduceMul, Nat.reduceLT, Nat.reduceLeDiff, Nat.reduceEqDiff, Nat.reduceBEq, reduceCtorEq, reduceIte, Int.reduceLE, Int.reduceLT, Int.reduceNeg, Int.reduceToNat, encQ]
  refine callq (MayQ_ok c hcl q hq) ?_
  simp -implicitDefEqProofs only [push_cast, Nat.reduceAdd, Nat.reduceSub, Nat.reduceMul, Nat.reduceLT, Nat.reduceLeDiff, Nat.reduceEqDiff, Nat.reduceBEq, reduceCtorEq, reduceIte, Int.reduceLE, Int.reduceLT, Int.reduceNeg, Int.reduceToNat, encQ]
  have hO := hq.2.2.1
  by_cases hc : q.may c = true ∧ 0 ≤ o ∧ o < q.occ.length
  · obtain ⟨hm, h0, h1⟩ := hc
    have hb : baseR c q o = baseQ c q o := if_pos ⟨hm, h0, h1⟩
    obtain ⟨k, rfl⟩ : ∃ k : Nat, o = k := ⟨o.toNat, by omega⟩
    have hk : k < q.occ.length := by omega
    obtain ⟨t, ht, htl, hbq⟩ := base_get hm hk
    have c1 : ((k : Int) < 0) = False := by simp
    have c2 : ((q.occ.length : Int) ≤ (k : Int)) = False := by simp; omega
    have k0 : (0 ≤ (k : Int)) = True := by simp
    have k1 : ((k : Int) < (q.occ.length : Int)) = True := by simp; omega
    have t0 : (0 ≤ (t : Int)) = True := by simp
    have t1 : ((t : Int) < (c.length : Int)) = True := by simp; omega
    rw [hb, hbq, hm]
    simp -implicitDefEqProofs only [push_cast, Nat.reduceAdd, Nat.reduceSub, Nat.reduceMul, Nat.reduceLT, Nat.reduceLeDiff, Nat.reduceEqDiff, Nat.reduceBEq, reduceCtorEq, reduceIte, Int.reduceLE, Int.reduceLT, Int.reduceNeg, Int.reduceToNat, c1, c2]
    refine areg_at 11 (by kernel_rfl) (by kernel_rfl) ?_
    simp -implicitDefEqProofs only [push_cast, Nat.reduceAdd, Nat.reduceSub, Nat.reduceMul, Nat.reduceLT, Nat.reduceLeDiff, Nat.reduceEqDiff, Nat.reduceBEq, reduceCtorEq, reduceIte, Int.reduceLE, Int.reduceLT, Int.reduceNeg, Int.reduceToNat, encQ, k0, k1, encIs_get q.occ k hk, encI, ht, t0, t1, encDs_get c t htl, encD]
  · have hb : baseR c q o = 0 := if_neg hc
    have hcond : (!q.may c || decide (o < 0) || decide ((q.occ.length : Int) ≤ o)) = true := by
      rcases Bool.eq_false_or_eq_true (!q.may c || decide (o < 0) || decide ((q.occ.length : Int) ≤ o)) with h | h
      · exact h
      exfalso
      simp only [Bool.or_eq_false_iff, Bool.not_eq_false', decide_eq_false_iff_not] at h
      exact hc ⟨h.1.1, by omega, by omega⟩
    rw [hb]
    simp -implicitDefEqProofs only [push_cast, Nat.reduceAdd, Nat.reduceSub, Nat.reduceMul, Nat.reduceLT, Nat.reduceLeDiff, Nat.reduceEqDiff, Nat.reduceBEq, reduceCtorEq, reduceIte, Int.reduceLE, Int.reduceLT, Int.reduceNeg, Int.reduceToNat, hcond]
theorem divs_ok : Quiet Go.Proofs.Try.prog 24 [] (.agg [.int 3, .int 10]) := by
  refine quiet_of (rs := #[.cell 0 63]) Go.Proofs.Try.func24 rfl rfl rfl mixed rfl rfl fun H hs => ?_
  simp -implicitDefEqProofs only [push_cast, Nat.reduceAdd, Nat.reduceSub, Nat.reduceMul, Nat.reduceLT, Nat.reduceLeDiff, Nat.reduceEqDiff, Nat.reduceBEq, reduceCtorEq, reduceIte, Int.reduceLE, Int.reduceLT, Int.reduceNeg, Int.reduceToNat]
theorem prodI_cons (x : Int) (l : List Int) : prodI (x :: l) = x * prodI l := rfl
theorem fewerTo_snoc (q : Qy) (l : List Int) (i : Nat) (h : i < l.length) : prodI ((l.take (i + 1)).map fun i => wE (q.p.getD i.toNat exO)) = prodI ((l.take i).map fun i => wE (q.p.getD i.toNat exO)) * wE (q.p.getD l[i].toNat exO) := by
  rw [List.take_succ_eq_append_getElem h, List.map_append, prodI_append]
  congr 1
  rw [List.map_cons, List.map_nil, prodI_cons]
  exact Int.mul_one _
theorem fewerTo_range (q : Qy) : ∀ l : List Int, 1 ≤ prodI (l.map fun i => wE (q.p.getD i.toNat exO)) ∧ prodI (l.map fun i => wE (q.p.getD i.toNat exO)) ≤ 10 ^ l.length
  | [] => by simp [prodI]
  | x :: l => by
    have ih := fewerTo_range q l
    have hw := wE_range (q.p.getD x.toNat exO)
    rw [List.map_cons, prodI_cons, List.length_cons, Int.pow_succ]
    generalize prodI (l.map fun i => wE (q.p.getD i.toNat exO)) = p at ih ⊢
    generalize wE (q.p.getD x.toNat exO) = w at hw ⊢
    have h1 : w * p ≤ 10 * p := Int.mul_le_mul_of_nonneg_right hw.2 (by omega)
    have h2 : 1 * p ≤ w * p := Int.mul_le_mul_of_nonneg_right hw.1 (by omega)
    omega
theorem pow_ten {n : Nat} (h : n ≤ 8) : (10 : Int) ^ n ≤ 100000000 := by
  have hc : n = 0 ∨ n = 1 ∨ n = 2 ∨ n = 3 ∨ n = 4 ∨ n = 5 ∨ n = 6 ∨ n = 7 ∨ n = 8 := by omega
  rcases hc with rfl | rfl | rfl | rfl | rfl | rfl | rfl | rfl | rfl <;> decide
theorem fewer_ok (q : Qy) (hq : q.Ok) (h8 : q.p.length ≤ 8) (s : Int) : Quiet Go.Proofs.Try.prog 12 [.agg (encQ q), .int s] (.int (q.fewer s)) := by
  have hown := Own_ok q hq s
  have hl : (q.own s).length ≤ 8 := Nat.le_trans (idxF_lt _ _) h8
  have hm : ∀ i ∈ q.own s, 0 ≤ i ∧ i < q.p.length := fun i hi => by rw [Qy.own, idxF_mem] at hi; omega
  rw [Qy.fewer]
  generalize q.own s = l at hown hl hm ⊢
  refine quiet_of (rs := #[.tmp 4]) Go.Proofs.Try.func12 rfl rfl rfl mixed rfl rfl fun H hs => ?_
  simp -implicitDefEqProofs only [push_cast, Nat.reduceAdd, Nat.reduceSub, Nat.reduceMul, Nat.reduceLT, Nat.reduceLeDiff, Nat.reduceEqDiff, Nat.reduceBEq, reduceCtorEq, reduceIte, Int.reduceLE, Int.reduceLT, Int.reduceNeg, Int.reduceToNat, encQ]
  refine callq hown ?_
  simp -implicitDefEqProofs only [push_cast, Nat.reduceAdd, Nat.reduceSub, Nat.reduceMul, Nat.reduceLT, Nat.reduceLeDiff, Nat.reduceEqDiff, Nat.reduceBEq, reduceCtorEq, reduceIte, Int.reduceLE, Int.reduceLT, Int.reduceNeg, Int.reduceToNat, encQ]
  refine loop_at hs (σ := Nat) (fun i => i ≤ l.length) (fun i => l.length - i)
    (fun i => [(16, .int i), (15, .int l.length), (14, .sl (l.map encI)), (2, .ptr (H.nxt + 0) 6 0 0), (5, .int (prodI ((l.take i).map fun i => wE (q.p.getD i.toNat exO))))]) (fun i => [some (.cells 6 [encQ q] 0)]) [some 0] 0 (by omega) rfl ?_ ?_ ?_
  · (try simp -implicitDefEqProofs only [push_cast, Nat.reduceAdd, Nat.reduceSub, Nat.reduceMul, Nat.reduceLT, Nat.reduceLeDiff, Nat.reduceEqDiff, Nat.reduceBEq, reduceCtorEq, reduceIte, Int.reduceLE, Int.reduceLT, Int.reduceNeg, Int.reduceToNat, encEs_pure, encIs_pure, encQ, List.take_zero, List.map_nil, prodI])
  · (try simp -implicitDefEqProofs only [push_cast, Nat.reduceAdd, Nat.reduceSub, Nat.reduceMul, Nat.reduceLT, Nat.reduceLeDiff, Nat.reduceEqDiff, Nat.reduceBEq, reduceCtorEq, reduceIte, Int.reduceLE, Int.reduceLT, Int.reduceNeg, Int.reduceToNat, encEs_pure, encIs_pure, encQ])
  intro i hi2
  by_cases hi : i < l.length
  · have hi' : ((i : Int) < (l.length : Int)) = True := by simp; omega
    have hi0 : (0 ≤ (i : Int)) = True := by simp
    obtain ⟨h0, h1⟩ := hm _ (List.getElem_mem hi)
    obtain ⟨k, hk⟩ : ∃ k : Nat, l[i] = k := ⟨l[i].toNat, by omega⟩
    have hkl : k < q.p.length := by omega
    have hk0 : (0 ≤ (k : Int)) = True := by simp
    have hk' : ((k : Int) < (q.p.length : Int)) = True := by simp; omega
    have hok := hq.2.1 _ (List.getElem_mem hkl)
    have hge : q.p.getD l[i].toNat exO = q.p[k] := by
      rw [hk, Int.toNat_natCast, List.getD_eq_getElem?_getD, List.getElem?_eq_getElem hkl]; rfl
    have hsn := fewerTo_snoc q l i hi
    have hrg := fewerTo_range q (l.take i)
    have hp := pow_ten (n := (l.take i).length) (by rw [List.length_take]; omega)
    rw [hge] at hsn
    generalize prodI ((l.take i).map fun i => wE (q.p.getD i.toNat exO)) = v at hsn hrg ⊢
    simp -implicitDefEqProofs only [push_cast, Nat.reduceAdd, Nat.reduceSub, Nat.reduceMul, Nat.reduceLT, Nat.reduceLeDiff, Nat.reduceEqDiff, Nat.reduceBEq, reduceCtorEq, reduceIte, Int.reduceLE, Int.reduceLT, Int.reduceNeg, Int.reduceToNat, hi', hi0, encIs_get l i hi, encI, hk, hk0, hk', encEs_get q.p k hkl, encQ]
    refine callq (Pair_ok _ hok.1) ?_
    simp -implicitDefEqProofs only [push_cast, Nat.reduceAdd, Nat.reduceSub, Nat.reduceMul, Nat.reduceLT, Nat.reduceLeDiff, Nat.reduceEqDiff, Nat.reduceBEq, reduceCtorEq, reduceIte, Int.reduceLE, Int.reduceLT, Int.reduceNeg, Int.reduceToNat, encQ]
    have hv : v ≤ 100000000 := by omega
    refine ⟨fun h => callq divs_ok ?_, fun h => callq divs_ok ?_⟩
    · have hw : (10 : Int) = wE q.p[k] := by rw [wE, if_pos h]
      rw [← hw] at hsn
      simp -implicitDefEqProofs only [push_cast, Nat.reduceAdd, Nat.reduceSub, Nat.reduceMul, Nat.reduceLT, Nat.reduceLeDiff, Nat.reduceEqDiff, Nat.reduceBEq, reduceCtorEq, reduceIte, Int.reduceLE, Int.reduceLT, Int.reduceNeg, Int.reduceToNat, encQ]
      rw [wrap64 (n := (i : Int) + 1) (by omega) (by omega), wrap64 (by omega) (by omega)]
      refine ⟨by decide, next_at [some 0] (i + 1) (by omega) (by omega) rfl ?_ ?_⟩
      · (try simp -implicitDefEqProofs only [push_cast, Nat.reduceAdd, Nat.reduceSub, Nat.reduceMul, Nat.reduceLT, Nat.reduceLeDiff, Nat.reduceEqDiff, Nat.reduceBEq, reduceCtorEq, reduceIte, Int.reduceLE, Int.reduceLT, Int.reduceNeg, Int.reduceToNat, hsn, encEs_pure, encIs_pure, encQ])
      · (try simp -implicitDefEqProofs only [push_cast, Nat.reduceAdd, Nat.reduceSub, Nat.reduceMul, Nat.reduceLT, Nat.reduceLeDiff, Nat.reduceEqDiff, Nat.reduceBEq, reduceCtorEq, reduceIte, Int.reduceLE, Int.reduceLT, Int.reduceNeg, Int.reduceToNat, encEs_pure, encIs_pure, encQ])
    · have hw : (3 : Int) = wE q.p[k] := by rw [wE, if_neg (by simp [h])]
      rw [← hw] at hsn
      simp -implicitDefEqProofs only [push_cast, Nat.reduceAdd, Nat.reduceSub, Nat.reduceMul, Nat.reduceLT, Nat.reduceLeDiff, Nat.reduceEqDiff, Nat.reduceBEq, reduceCtorEq, reduceIte, Int.reduceLE, Int.reduceLT, Int.reduceNeg, Int.reduceToNat, encQ]
      rw [wrap64 (n := (i : Int) + 1) (by omega) (by omega), wrap64 (by omega) (by omega)]
      refine ⟨by decide, next_at [some 0] (i + 1) (by omega) (by omega) rfl ?_ ?_⟩
      · (try simp -implicitDefEqProofs only [push_cast, Nat.reduceAdd, Nat.reduceSub, Nat.reduceMul, Nat.reduceLT, Nat.reduceLeDiff, Nat.reduceEqDiff, Nat.reduceBEq, reduceCtorEq, reduceIte, Int.reduceLE, Int.reduceLT, Int.reduceNeg, Int.reduceToNat, hsn, encEs_pure, encIs_pure, encQ])
      · (try simp -implicitDefEqProofs only [push_cast, Nat.reduceAdd, Nat.reduceSub, Nat.reduceMul, Nat.reduceLT, Nat.reduceLeDiff, Nat.reduceEqDiff, Nat.reduceBEq, reduceCtorEq, reduceIte, Int.reduceLE, Int.reduceLT, Int.reduceNeg, Int.reduceToNat, encEs_pure, encIs_pure, encQ])
  · have hi' : ((i : Int) < (l.length : Int)) = False := by simp; omega
    have h5 : l.take i = l := List.take_of_length_le (by omega)
    simp -implicitDefEqProofs only [push_cast, Nat.reduceAdd, Nat.reduceSub, Nat.reduceMul, Nat.reduceLT, Nat.reduceLeDiff, Nat.reduceEqDiff, Nat.reduceBEq, reduceCtorEq, reduceIte, Int.reduceLE, Int.reduceLT, Int.reduceNeg, Int.reduceToNat, hi', h5]
def rowsTo (c : List Df) (q : Qy) (s : Int) (k : Nat) : List Int := ((upto k).filter fun o => bitI s o.toNat).map (baseQ c q)
theorem rowsTo_yes (c : List Df) (q : Qy) (s : Int) (k : Nat) (h : bitI s k = true) : rowsTo c q s (k + 1) = rowsTo c q s k ++ [baseQ c q k] := by
  rw [rowsTo, upto_snoc, List.filter_append, List.filter_cons, Int.toNat_natCast, if_pos h, List.filter_nil, List.map_append]
  rfl
theorem rowsTo_no (c : List Df) (q : Qy) (s : Int) (k : Nat) (h : bitI s k = false) : rowsTo c q s (k + 1) = rowsTo c q s k := by
  rw [rowsTo, upto_snoc, List.filter_append, List.filter_cons, Int.toNat_natCast, if_neg (show ¬ bitI s k = true by rw [h]; decide), List.filter_nil, List.append_nil]
  rfl
theorem rowsTo_zero (c : List Df) (q : Qy) (s : Int) : rowsTo c q s 0 = [] := rfl
theorem rowsTo_len (c : List Df) (q : Qy) (s : Int) (k : Nat) : (rowsTo c q s k).length ≤ k := by
  rw [rowsTo, List.length_map]
  exact Nat.le_trans (List.length_filter_le _ _) (by rw [upto_len]; omega)
theorem rowsL_in {c : List Df} {q : Qy} (h : q.may c = true) (s : Int) : ∀ x ∈ rowsL c q s, In64 x := by
  intro x hx
  rw [rowsL, List.mem_map] at hx
  obtain ⟨o, ho, rfl⟩ := hx
  rw [List.mem_filter, upto_mem] at ho
  have := base_range h ho.1.1 (by omega)
  unfold In64
  omega
theorem max_one (a : Int) : (if 1 < a then a else 1) = max 1 a := by
  split <;> omega
theorem Rows_ok (c : List Df) (hcl : c.length ≤ 1000000) (q : Qy) (hq : q.Ok) (s : Int) : Quiet Go.Proofs.Try.prog 7 [.agg [.sl (c.map encD)], .agg (encQ q), .int s] (.int (rowsQ c q s)) := by
  have hbase := fun o => Base_ok c hcl q hq o
  refine quiet_of (rs := #[.tmp 6]) Go.Proofs.Try.func7 rfl rfl rfl mixed rfl rfl fun H hs => ?_
  simp -implicitDefEqProofs only [push_cast, Nat.reduceAdd, Nat.reduceSub, Nat.reduceMul, Nat.reduceLT, Nat.reduceLeDiff, Nat.reduceEqDiff, Nat.reduceBEq, reduceCtorEq, reduceIte, Int.reduceLE, Int.reduceLT, Int.reduceNeg, Int.reduceToNat, encQ]
  refine callq (MayQ_ok c hcl q hq) ?_
  cases hm : q.may c
  · have h0 : rowsQ c q s = 0 := by rw [rowsQ, hm]; rfl
    rw [h0]
    simp -implicitDefEqProofs only [push_cast, Nat.reduceAdd, Nat.reduceSub, Nat.reduceMul, Nat.reduceLT, Nat.reduceLeDiff, Nat.reduceEqDiff, Nat.reduceBEq, reduceCtorEq, reduceIte, Int.reduceLE, Int.reduceLT, Int.reduceNeg, Int.reduceToNat, encQ]
  obtain ⟨hc, ho1, ho4, hot, hp6, _⟩ := may_split hm
  have hfw := fewer_ok q hq (by omega) s
  have hfr := fewer_pos q s
  have hti := times_ok (rowsL c q s) (by rw [rowsL, List.length_map]; exact Nat.le_trans (List.length_filter_le _ _) (by rw [upto_len]; omega)) (rowsL_in hm s)
  have htr := times_range (rowsL c q s)
  simp only [encQ] at hbase hfw
  simp -implicitDefEqProofs only [push_cast, Nat.reduceAdd, Nat.reduceSub, Nat.reduceMul, Nat.reduceLT, Nat.reduceLeDiff, Nat.reduceEqDiff, Nat.reduceBEq, reduceCtorEq, reduceIte, Int.reduceLE, Int.reduceLT, Int.reduceNeg, Int.reduceToNat, encQ]
  refine loop_at hs (σ := Nat) (fun i => i ≤ q.occ.length) (fun i => q.occ.length - i)
    (fun i => [(16, .int i), (15, .int q.occ.length), (2, .int s), (3, .ptr (H.nxt + 0) 1 0 0), (4, .ptr (H.nxt + 1) 6 0 0), (7, .rsl (H.nxt + 2) 1 0 (rowsTo c q s i).length)]) (fun i => [some (.cells 1 [[.sl (c.map encD)]] 0), some (.cells 6 [encQ q] 0), some (.cells 1 (rowI (rowsTo c q s i)) 0)]) [some 0, some 1, none] 0 (by omega) rfl ?_ ?_ ?_
  · (try simp -implicitDefEqProofs only [push_cast, Nat.reduceAdd, Nat.reduceSub, Nat.reduceMul, Nat.reduceLT, Nat.reduceLeDiff, Nat.reduceEqDiff, Nat.reduceBEq, reduceCtorEq, reduceIte, Int.reduceLE, Int.reduceLT, Int.reduceNeg, Int.reduceToNat, rowsTo_zero, rowI_nil, encDs_pure, encEs_pure, encIs_pure, encQ])
  · (try simp -implicitDefEqProofs only [push_cast, Nat.reduceAdd, Nat.reduceSub, Nat.reduceMul, Nat.reduceLT, Nat.reduceLeDiff, Nat.reduceEqDiff, Nat.reduceBEq, reduceCtorEq, reduceIte, Int.reduceLE, Int.reduceLT, Int.reduceNeg, Int.reduceToNat, rowsTo_zero, rowI_nil, encDs_pure, encEs_pure, encIs_pure, encQ])
  intro i hi2
  have hlen := rowsTo_len c q s i
  by_cases hi : i < q.occ.length
  · have hi' : ((i : Int) < (q.occ.length : Int)) = True := by simp; omega
    have hi0 : (0 ≤ (i : Int)) = True := by simp
    have hbit := has_bit s i (by omega)
    have hbr : baseR c q i = baseQ c q i := if_pos ⟨hm, by omega, by omega⟩
    have hb := hbase i (by unfold In64; omega)
    rw [hbr] at hb
    simp -implicitDefEqProofs only [push_cast, Nat.reduceAdd, Nat.reduceSub, Nat.reduceMul, Nat.reduceLT, Nat.reduceLeDiff, Nat.reduceEqDiff, Nat.reduceBEq, reduceCtorEq, reduceIte, Int.reduceLE, Int.reduceLT, Int.reduceNeg, Int.reduceToNat, hi', hi0, hbit, encQ]
    refine ⟨fun h => callq hb ?_, fun h => ?_⟩
    · simp -implicitDefEqProofs only [push_cast, Nat.reduceAdd, Nat.reduceSub, Nat.reduceMul, Nat.reduceLT, Nat.reduceLeDiff, Nat.reduceEqDiff, Nat.reduceBEq, reduceCtorEq, reduceIte, Int.reduceLE, Int.reduceLT, Int.reduceNeg, Int.reduceToNat, encQ]
      rw [wrap64 (n := (i : Int) + 1) (by omega) (by omega)]
      refine ⟨by omega, ?_⟩
      refine next_at [some 0, some 1, some 4] (i + 1) (by omega) (by omega) rfl ?_ ?_
      · (try simp -implicitDefEqProofs only [push_cast, Nat.reduceAdd, Nat.reduceSub, Nat.reduceMul, Nat.reduceLT, Nat.reduceLeDiff, Nat.reduceEqDiff, Nat.reduceBEq, reduceCtorEq, reduceIte, Int.reduceLE, Int.reduceLT, Int.reduceNeg, Int.reduceToNat, rowsTo_yes c q s i h, encDs_pure, encEs_pure, encIs_pure, encQ])
      · (try simp -implicitDefEqProofs only [push_cast, Nat.reduceAdd, Nat.reduceSub, Nat.reduceMul, Nat.reduceLT, Nat.reduceLeDiff, Nat.reduceEqDiff, Nat.reduceBEq, reduceCtorEq, reduceIte, Int.reduceLE, Int.reduceLT, Int.reduceNeg, Int.reduceToNat, rowsTo_yes c q s i h, take_rowI _ _ (Nat.le_refl _), snocI, rowI_pure, rowI_one, encDs_pure, encEs_pure, encIs_pure, encQ])
    · rw [wrap64 (n := (i : Int) + 1) (by omega) (by omega)]
      refine next_at [some 0, some 1, some 2] (i + 1) (by omega) (by omega) rfl ?_ ?_
      · (try simp -implicitDefEqProofs only [push_cast, Nat.reduceAdd, Nat.reduceSub, Nat.reduceMul, Nat.reduceLT, Nat.reduceLeDiff, Nat.reduceEqDiff, Nat.reduceBEq, reduceCtorEq, reduceIte, Int.reduceLE, Int.reduceLT, Int.reduceNeg, Int.reduceToNat, rowsTo_no c q s i h, encDs_pure, encEs_pure, encIs_pure, encQ])
      · (try simp -implicitDefEqProofs only [push_cast, Nat.reduceAdd, Nat.reduceSub, Nat.reduceMul, Nat.reduceLT, Nat.reduceLeDiff, Nat.reduceEqDiff, Nat.reduceBEq, reduceCtorEq, reduceIte, Int.reduceLE, Int.reduceLT, Int.reduceNeg, Int.reduceToNat, rowsTo_no c q s i h, rowI_pure, rowI_one, encDs_pure, encEs_pure, encIs_pure, encQ])
  · have hi' : ((i : Int) < (q.occ.length : Int)) = False := by simp; omega
    obtain rfl : i = q.occ.length := by omega
    have hrl : rowsTo c q s q.occ.length = rowsL c q s := rfl
    simp -implicitDefEqProofs only [push_cast, Nat.reduceAdd, Nat.reduceSub, Nat.reduceMul, Nat.reduceLT, Nat.reduceLeDiff, Nat.reduceEqDiff, Nat.reduceBEq, reduceCtorEq, reduceIte, Int.reduceLE, Int.reduceLT, Int.reduceNeg, Int.reduceToNat, hi', hrl, encQ]
    refine areg_wk hs 8 [(7, .sl ((rowsL c q s).map encI)), (4, .ptr (H.nxt + 1) 6 0 0), (2, .int s)] [none, some (.cells 6 [encQ q] 0), none] (by kernel_rfl) (by kernel_rfl) ?_ ?_ ?_
    · (try simp -implicitDefEqProofs only [push_cast, Nat.reduceAdd, Nat.reduceSub, Nat.reduceMul, Nat.reduceLT, Nat.reduceLeDiff, Nat.reduceEqDiff, Nat.reduceBEq, reduceCtorEq, reduceIte, Int.reduceLE, Int.reduceLT, Int.reduceNeg, Int.reduceToNat, encDs_pure, encEs_pure, encIs_pure, encQ, take_rowI _ _ (Nat.le_refl _)])
    · (try simp -implicitDefEqProofs only [push_cast, Nat.reduceAdd, Nat.reduceSub, Nat.reduceMul, Nat.reduceLT, Nat.reduceLeDiff, Nat.reduceEqDiff, Nat.reduceBEq, reduceCtorEq, reduceIte, Int.reduceLE, Int.reduceLT, Int.reduceNeg, Int.reduceToNat, encDs_pure, encEs_pure, encIs_pure, encQ, take_rowI _ _ (Nat.le_refl _)])
    simp -implicitDefEqProofs only [push_cast, Nat.reduceAdd, Nat.reduceSub, Nat.reduceMul, Nat.reduceLT, Nat.reduceLeDiff, Nat.reduceEqDiff, Nat.reduceBEq, reduceCtorEq, reduceIte, Int.reduceLE, Int.reduceLT, Int.reduceNeg, Int.reduceToNat, encQ]
    refine ahdq hti ?_
    simp -implicitDefEqProofs only [push_cast, Nat.reduceAdd, Nat.reduceSub, Nat.reduceMul, Nat.reduceLT, Nat.reduceLeDiff, Nat.reduceEqDiff, Nat.reduceBEq, reduceCtorEq, reduceIte, Int.reduceLE, Int.reduceLT, Int.reduceNeg, Int.reduceToNat, encQ]
    refine ahdq hfw ?_
    simp -implicitDefEqProofs only [push_cast, Nat.reduceAdd, Nat.reduceSub, Nat.reduceMul, Nat.reduceLT, Nat.reduceLeDiff, Nat.reduceEqDiff, Nat.reduceBEq, reduceCtorEq, reduceIte, Int.reduceLE, Int.reduceLT, Int.reduceNeg, Int.reduceToNat, encQ]
    have hdv : 0 ≤ times (rowsL c q s) / q.fewer s ∧ times (rowsL c q s) / q.fewer s ≤ times (rowsL c q s) := ⟨div_nonneg' htr.1 hfr, div_le_self' htr.1 hfr⟩
    have hcap : capN = 1099511627776 := rfl
    refine ⟨by omega, ?_⟩
    rw [Int.tdiv_eq_ediv_of_nonneg htr.1, wrap64 (by omega) (by omega), rowsQ, if_pos hm]
    exact max_one _
theorem shl_occ {n : Nat} (h0 : 1 ≤ n) (h4 : n ≤ 4) : IntKind.wrap .i64 (bshl .i64 1 n - 1) = 2 ^ n - 1 := by
  have hc : n = 1 ∨ n = 2 ∨ n = 3 ∨ n = 4 := by omega
  rcases hc with rfl | rfl | rfl | rfl <;> decide +kernel
theorem Groups_ok (c : List Df) (hcl : c.length ≤ 1000000) (q : Qy) (hq : q.Ok) : Quiet Go.Proofs.Try.prog 8 [.agg [.sl (c.map encD)], .agg (encQ q)] (.int (groupsQ c q)) := by
  refine quiet_of (rs := #[.tmp 4]) Go.Proofs.Try.func8 rfl rfl rfl mixed rfl rfl fun H hs => ?_
  simp -implicitDefEqProofs only [push_cast, Nat.reduceAdd, Nat.reduceSub, Nat.reduceMul, Nat.reduceLT, Nat.reduceLeDiff, Nat.reduceEqDiff, Nat.reduceBEq, reduceCtorEq, reduceIte, Int.reduceLE, Int.reduceLT, Int.reduceNeg, Int.reduceToNat, encQ]
  refine callq (MayQ_ok c hcl q hq) ?_
  cases hm : q.may c
  · have h0 : groupsQ c q = 0 := by rw [groupsQ, hm]; rfl
    rw [h0]
    simp -implicitDefEqProofs only [push_cast, Nat.reduceAdd, Nat.reduceSub, Nat.reduceMul, Nat.reduceLT, Nat.reduceLeDiff, Nat.reduceEqDiff, Nat.reduceBEq, reduceCtorEq, reduceIte, Int.reduceLE, Int.reduceLT, Int.reduceNeg, Int.reduceToNat, encQ]
  obtain ⟨hc, ho1, ho4, _⟩ := may_split hm
  have hr := rowsQ_range hm (2 ^ q.occ.length - 1)
  have hsh := shl_occ ho1 ho4
  have hcap : capN = 1099511627776 := rfl
  simp -implicitDefEqProofs only [push_cast, Nat.reduceAdd, Nat.reduceSub, Nat.reduceMul, Nat.reduceLT, Nat.reduceLeDiff, Nat.reduceEqDiff, Nat.reduceBEq, reduceCtorEq, reduceIte, Int.reduceLE, Int.reduceLT, Int.reduceNeg, Int.reduceToNat, encQ]
  refine areg_at 11 (by kernel_rfl) (by kernel_rfl) ?_
  simp -implicitDefEqProofs only [push_cast, Nat.reduceAdd, Nat.reduceSub, Nat.reduceMul, Nat.reduceLT, Nat.reduceLeDiff, Nat.reduceEqDiff, Nat.reduceBEq, reduceCtorEq, reduceIte, Int.reduceLE, Int.reduceLT, Int.reduceNeg, Int.reduceToNat, encQ, hsh]
  refine ⟨by omega, ahdq (Rows_ok c hcl q hq _) ?_⟩
  simp -implicitDefEqProofs only [push_cast, Nat.reduceAdd, Nat.reduceSub, Nat.reduceMul, Nat.reduceLT, Nat.reduceLeDiff, Nat.reduceEqDiff, Nat.reduceBEq, reduceCtorEq, reduceIte, Int.reduceLE, Int.reduceLT, Int.reduceNeg, Int.reduceToNat, encQ]
  refine ⟨by decide, ?_⟩
  rw [Int.tdiv_eq_ediv_of_nonneg (by omega), wrap64 (by omega) (by omega), groupsQ, if_pos hm]
  exact max_one _
end Go.Sim.Try
set_option linter.unusedSimpArgs false
set_option linter.unusedVariables false
set_option maxRecDepth 100000
namespace Go.Sim.Try
open Go Go.Sim
attribute [local push_cast] aops_cons aops_nil aopG_none aopG_some aopP_eq aopE_eq aopC_eq aopE?_eq aopC?_eq aopB_eq aopB?_eq abr anilq gopP_eq gopL_eq ahead_cons ahead_nil ahdG_none ahdG_some ahdP_eq ahdN_eq ahdC_eq ahdN?_eq ahdS_eq ahdS?_eq astoreN ahdC?_eq ghdP_eq ghdC_eq ghdC?_eq ghdZ_f ghdZ_t ahdI_eq ahdI?_eq ghdN?_eq aim_nil aim_cons isIn_nil isIn_none isIn_cons aimm aheP_eq aheA_eq aheC_eq aheC?_eq aheI?_eq aheA?_eq gheP_eq gheC_eq gheC?_eq gheZ_eq aheG_none aheG_some aheff_cons aheff_nil aapp gro_rsl gro_lit gro_esl opt_some opt_none no_eq acondT_true acondT_false acondT_lit aw_skip aw_region aw_regionD aw_seq aw_cond aw_block aw_loop aw_exit aw_label aw_ret thn_normal thn_exit thn_ret inb_normal inb_exit inb_ret qret_ret qret_normal gcond apure aeff anew acallee ares aresT aresL aresC ares1 qfin_eq ev ofV evL gokL tget tput_some tput_none initT abin aint aun aload afaddr aiaddr afield aindex aextract apick pickv_lit Bool.or_false Bool.false_or Bool.or_true Bool.true_or imp_self aslice chunk roomB abound aconv abuild afill splice alen aminmax abuiltin anil apart Value.oneCell' astore aappend srcEs abuildSlice asets isEq plus_obj plus_nxt plus_add plus_set plus_del IntKind.bits Option.map_some Option.map_none Option.bind_some Option.bind_none Option.join_some Option.getD_some Option.getD_none Option.toList Option.isSome_some List.getElem?_toArray List.getElem?_cons_zero List.getElem?_cons_succ List.getElem?_nil List.length_cons List.length_nil List.length_map List.head?_cons List.cons_append List.nil_append List.append_nil List.map_cons List.map_nil List.getD_cons_zero List.getD_cons_succ List.replicate_succ List.replicate_zero List.set_cons_zero List.set_cons_succ List.take_succ_cons List.take_zero List.drop_succ_cons List.drop_zero List.all_cons List.all_nil Nat.zero_add if_true if_false true_and and_true false_and and_false true_implies implies_true forall_const Bool.and_true Bool.true_and Bool.false_and Bool.and_false Bool.true_beq Bool.false_beq Bool.not_not beq_tt beq_ff Int.toNat_natCast decide_true decide_false Bool.not_true Bool.not_false Bool.true_eq_false Bool.false_eq_true false_implies exists_prop eq_self bne_self_eq_false beq_self_eq_true decide_eq_true_eq decide_eq_false_iff_not Bool.not_eq_true' Bool.not_eq_false' AV.int AV.bool AV.nilS ne_eq not_false_eq_true not_true_eq_false exists_eq_left exists_eq_left' Nat.lt_irrefl core_lit grd_lit acells_lit one_lit core_agg grd_agg acells_agg one_agg core_tup grd_tup acells_tup one_tup core_sl grd_sl acells_sl one_sl core_esl grd_esl acells_esl one_esl core_rsl grd_rsl acells_rsl one_rsl core_ptr grd_ptr acells_ptr one_ptr core_iptr grd_iptr acells_iptr one_iptr core_clo grd_clo acells_clo one_clo core_mp grd_mp acells_mp one_mp core_any grd_any acells_any one_any core_gv grd_gv fit_agg fit_lit fit_sl fit_esl fit_rsl fit_ptr fit_iptr fit_clo fit_mp retq_ret retq_normal set_nxt set_set plus_obj_set plus_set_set app_get0 app_get app_set0 app_set List.append_assoc List.length_append List.length_set Nat.lt_add_one Nat.add_lt_add_iff_right Nat.lt_add_right_iff_pos Nat.add_lt_add_iff_left List.mem_cons List.not_mem_nil or_false forall_eq forall_eq_or_imp lt_s0 lt_s1 lt_s2 lt_s3 lt_s4 lt_s5 lt_s6 lt_s7 lt_s8 pickv_t pickv_f or_nand or_nand2 imp_and_l SealT SealOs sealO_cells sl_lit sl_any sl_agg sl_tup sl_sl sl_rsl slO sl_esl sl_nil sl_eslesl sl_eslnil sl_rslrsl sl_eslrsl sl_nilrsl sl_ptr sl_iptr sl_ptri slP sl_clo sl_mp sl_gv sll_nil sll_cons slll_nil slll_cons shut_eq shutO Option.join_none Fn.func.injEq and_self sealL_self sealLL_self seal_self PureL PureLL Pure Nat.le_refl Nat.zero_le AV.lit.injEq Value.int.injEq Value.bool.injEq false_or or_true true_or Int.natCast_zero Int.ofNat_zero Int.cast_ofNat_Int Int.natCast_add Int.natCast_one Option.some.injEq piL_is sop_nil sop_cons sop_none sop_some sopO_some sop_new shut_pi shutL_nil shutL_cons exQ_exit exQ_ret exQ_normal Go.Sim.Try.ty_load1 Go.Sim.Try.ty_zero1 Go.Sim.Try.ty_load2 Go.Sim.Try.ty_zero2 Go.Sim.Try.ty_und2 Go.Sim.Try.ty_load3 Go.Sim.Try.ty_zero3 Go.Sim.Try.ty_und3 Go.Sim.Try.ty_load4 Go.Sim.Try.ty_zero4 Go.Sim.Try.ty_und4 Go.Sim.Try.ty_load5 Go.Sim.Try.ty_zero5 Go.Sim.Try.ty_und5 Go.Sim.Try.ty_load9 Go.Sim.Try.ty_zero9 Go.Sim.Try.ty_und9 Go.Sim.Try.ty_load22 Go.Sim.Try.ty_zero22 Go.Sim.Try.ty_el22 Go.Sim.Try.ty_zeroE22 Go.Sim.Try.ty_load26 Go.Sim.Try.ty_zero26 Go.Sim.Try.ty_el26 Go.Sim.Try.ty_zeroE26 Go.Sim.Try.ty_load28 Go.Sim.Try.ty_zero28 Go.Sim.Try.ty_fld28_0 Go.Sim.Try.ty_part28_0 Go.Sim.Try.ty_struct28 Go.Sim.Try.ty_load29 Go.Sim.Try.ty_zero29 Go.Sim.Try.ty_el29 Go.Sim.Try.ty_zeroE29 Go.Sim.Try.ty_load31 Go.Sim.Try.ty_zero31 Go.Sim.Try.ty_fld31_0 Go.Sim.Try.ty_part31_0 Go.Sim.Try.ty_struct31 Go.Sim.Try.ty_load35 Go.Sim.Try.ty_zero35 Go.Sim.Try.ty_fld35_0 Go.Sim.Try.ty_part35_0 Go.Sim.Try.ty_fld35_1 Go.Sim.Try.ty_part35_1 Go.Sim.Try.ty_struct35 Go.Sim.Try.ty_load36 Go.Sim.Try.ty_zero36 Go.Sim.Try.ty_el36 Go.Sim.Try.ty_zeroE36 Go.Sim.Try.ty_load38 Go.Sim.Try.ty_zero38 Go.Sim.Try.ty_fld38_0 Go.Sim.Try.ty_part38_0 Go.Sim.Try.ty_fld38_1 Go.Sim.Try.ty_part38_1 Go.Sim.Try.ty_fld38_2 Go.Sim.Try.ty_part38_2 Go.Sim.Try.ty_fld38_3 Go.Sim.Try.ty_part38_3 Go.Sim.Try.ty_struct38 Go.Sim.Try.ty_load40 Go.Sim.Try.ty_zero40 Go.Sim.Try.ty_fld40_0 Go.Sim.Try.ty_part40_0 Go.Sim.Try.ty_fld40_1 Go.Sim.Try.ty_part40_1 Go.Sim.Try.ty_fld40_2 Go.Sim.Try.ty_part40_2 Go.Sim.Try.ty_fld40_3 Go.Sim.Try.ty_part40_3 Go.Sim.Try.ty_fld40_4 Go.Sim.Try.ty_part40_4 Go.Sim.Try.ty_fld40_5 Go.Sim.Try.ty_part40_5 Go.Sim.Try.ty_struct40 Go.Sim.Try.ty_load43 Go.Sim.Try.ty_zero43 Go.Sim.Try.ty_und43 Go.Sim.Try.ty_load47 Go.Sim.Try.ty_zero47 Go.Sim.Try.ty_fld47_0 Go.Sim.Try.ty_part47_0 Go.Sim.Try.ty_fld47_1 Go.Sim.Try.ty_part47_1 Go.Sim.Try.ty_struct47 Go.Sim.Try.ty_load48 Go.Sim.Try.ty_zero48 Go.Sim.Try.ty_el48 Go.Sim.Try.ty_zeroE48 Go.Sim.Try.ty_load49 Go.Sim.Try.ty_zero49 Go.Sim.Try.ty_el49 Go.Sim.Try.ty_zeroE49 Go.Sim.Try.ty_load52 Go.Sim.Try.ty_zero52 Go.Sim.Try.ty_und52 Go.Sim.Try.ty_load53 Go.Sim.Try.ty_zero53 Go.Sim.Try.ty_load63 Go.Sim.Try.ty_zero63 Go.Sim.Try.ty_arr63 Go.Sim.Try.ty_part63_0 Go.Sim.Try.ty_part63_1 Go.Sim.Try.ty_struct63 Go.Sim.Try.ty_load67 Go.Sim.Try.ty_zero67 Go.Sim.Try.ty_load72 Go.Sim.Try.ty_zero72 Go.Sim.Try.ty_load77 Go.Sim.Try.ty_zero77 Go.Sim.Try.ty_load78 Go.Sim.Try.ty_zero78 Go.Sim.Try.ty_und78 Go.Sim.Try.ty_load85 Go.Sim.Try.ty_zero85 Go.Sim.Try.ty_fld85_0 Go.Sim.Try.ty_part85_0 Go.Sim.Try.ty_fld85_1 Go.Sim.Try.ty_part85_1 Go.Sim.Try.ty_fld85_2 Go.Sim.Try.ty_part85_2 Go.Sim.Try.ty_struct85 Go.Sim.Try.ty_load87 Go.Sim.Try.ty_zero87 Go.Sim.Try.ty_load89 Go.Sim.Try.ty_zero89 Go.Sim.Try.ty_und89 Go.Sim.Try.ty_load98 Go.Sim.Try.ty_zero98 Go.Sim.Try.ty_und98 Go.Sim.Try.ty_load102 Go.Sim.Try.ty_zero102 Go.Sim.Try.ty_load105 Go.Sim.Try.ty_zero105 Go.Sim.Try.ty_und105 Go.Sim.Try.ty_load109 Go.Sim.Try.ty_zero109 Go.Sim.Try.ty_load113 Go.Sim.Try.ty_zero113 encE_mk encE_take encE_len encV encE_one encEs_pure encE_pure

def pair9 : Ex := .mk 6 0 0 0 [.mk 1 0 0 0 [], .mk 1 4 0 0 []]
def oneQ9 : Qy := ⟨[0, 1], [pair9], -1, [], [0], -1⟩
theorem pair9_cols : pair9.cols = [0, 4] := cols_of (by decide) (by decide) (by decide)
theorem pair9_set : setE pair9 = 3 := by unfold setE hasOcc; rw [pair9_cols]; decide +kernel
theorem oneQ9_p : oneQ9.p = [pair9] := rfl
theorem oneQ9_may : oneQ9.may catTwo = true := by
  unfold Qy.may
  rw [oneQ9_p]
  simp only [List.all_cons, List.all_nil, exIn, pair9_cols]
  decide +kernel
theorem oneQ9_idx (f : Ex → Bool) : idxF f oneQ9.p = (if f pair9 then [0] else []) := by
  rw [oneQ9_p]
  cases h1 : f pair9 <;> simp [idxF, upto, List.range_succ, h1]
theorem oneQ9_own (s : Int) : oneQ9.own s = (if holdsI s 3 then [0] else []) := by
  rw [Qy.own, oneQ9_idx]
  simp only [ownT, pair9_set]
theorem oneQ9_rows (s : Int) : rowsQ catTwo oneQ9 s = max 1 (times (rowsL catTwo oneQ9 s) / prodI ((if holdsI s 3 then [0] else []).map fun i : Int => wE (oneQ9.p.getD i.toNat exO))) := by
  rw [rowsQ, if_pos oneQ9_may, Qy.fewer, oneQ9_own]
theorem oneQ9_3 : rowsQ catTwo oneQ9 3 = 100 := by rw [oneQ9_rows]; decide +kernel
theorem oneQ9_1 : rowsQ catTwo oneQ9 1 = 100 := by rw [oneQ9_rows]; decide +kernel
theorem oneQ9_g : groupsQ catTwo oneQ9 = 20 := by
  rw [groupsQ, if_pos oneQ9_may]
  have : (2 : Int) ^ oneQ9.occ.length - 1 = 3 := by decide
  rw [this, oneQ9_3]
  decide
theorem oneQ9_b : baseR catTwo oneQ9 1 = 10 := by
  rw [baseR, if_pos ⟨oneQ9_may, by decide, by decide⟩]
  decide +kernel
theorem times42 : times [6, 7] = 42 := by decide +kernel
theorem pair9_ok : pair9.Ok := exOk2 exOk0 exOk0
theorem oneQ9_raw (c : List Df) (hc : c.length ≤ 140737488355328) : oneQ9.Raw c := by
  refine ⟨hc, by decide, by decide, by decide, by decide, ?_⟩
  rw [oneQ9_p]
  intro e he
  simp only [List.mem_cons, List.not_mem_nil, or_false] at he
  subst he
  exact pair9_ok
theorem oneQ9_few : fewQ catTwo oneQ9 = true := by decide
theorem oneQ9_ok : oneQ9.Ok := ok_of_few (oneQ9_raw catTwo (by decide)) oneQ9_few
theorem awake9_ok : Quiet Go.Proofs.Try.prog 4 [] (.bool true) := by
  have r3 := Rows_ok catTwo (by decide) oneQ9 oneQ9_ok 3
  rw [oneQ9_3] at r3
  have r1 := Rows_ok catTwo (by decide) oneQ9 oneQ9_ok 1
  rw [oneQ9_1] at r1
  have g := Groups_ok catTwo (by decide) oneQ9 oneQ9_ok
  rw [oneQ9_g] at g
  have b := Base_ok catTwo (by decide) oneQ9 oneQ9_ok 1 (by unfold In64; omega)
  rw [oneQ9_b] at b
  have t42 := times_ok [6, 7] (by decide) (by intro x hx; simp at hx; unfold In64; omega)
  rw [times42] at t42
  refine quiet_of (rs := #[.tmp 0]) Go.Proofs.Try.func4 rfl rfl rfl mixed rfl rfl fun H hs => ?_
  simp -implicitDefEqProofs only [push_cast, Nat.reduceAdd, Nat.reduceSub, Nat.reduceMul, Nat.reduceLT, Nat.reduceLeDiff, Nat.reduceEqDiff, Nat.reduceBEq, reduceCtorEq, reduceIte, Int.reduceLE, Int.reduceLT, Int.reduceNeg, Int.reduceToNat]
  refine callq Two_ok ?_
  simp -implicitDefEqProofs only [push_cast, Nat.reduceAdd, Nat.reduceSub, Nat.reduceMul, Nat.reduceLT, Nat.reduceLeDiff, Nat.reduceEqDiff, Nat.reduceBEq, reduceCtorEq, reduceIte, Int.reduceLE, Int.reduceLT, Int.reduceNeg, Int.reduceToNat]
  refine ⟨rfl, ?_⟩
  refine fzk H 2 2 [.agg [.sl (catTwo.map encD)], .agg [.rsl (H.nxt + 4) 1 0 2, .rsl (H.nxt + 5) 5 0 1, .int (-1), .nilS, .rsl (H.nxt + 6) 1 0 1, .int (-1)], .int 3] (by rfl) (by omega) (by simp) ?_ ?_
  · (try simp -implicitDefEqProofs only [push_cast, Nat.reduceAdd, Nat.reduceSub, Nat.reduceMul, Nat.reduceLT, Nat.reduceLeDiff, Nat.reduceEqDiff, Nat.reduceBEq, reduceCtorEq, reduceIte, Int.reduceLE, Int.reduceLT, Int.reduceNeg, Int.reduceToNat, oneQ9, pair9, encQ, encI, encD, catTwo, List.map_cons, List.map_nil, List.set_cons_zero, List.set_cons_succ])
  refine fzk H 4 2 [.agg [.sl (catTwo.map encD)], .agg [.rsl (H.nxt + 4) 1 0 2, .rsl (H.nxt + 5) 5 0 1, .int (-1), .nilS, .rsl (H.nxt + 6) 1 0 1, .int (-1)], .int 3] (by rfl) (by omega) (by simp) ?_ ?_
  · (try simp -implicitDefEqProofs only [push_cast, Nat.reduceAdd, Nat.reduceSub, Nat.reduceMul, Nat.reduceLT, Nat.reduceLeDiff, Nat.reduceEqDiff, Nat.reduceBEq, reduceCtorEq, reduceIte, Int.reduceLE, Int.reduceLT, Int.reduceNeg, Int.reduceToNat, oneQ9, pair9, encQ, encI, encD, catTwo, List.map_cons, List.map_nil, List.set_cons_zero, List.set_cons_succ])
  refine fzk H 6 1 [.agg [.sl (catTwo.map encD)], .agg [.rsl (H.nxt + 4) 1 0 2, .rsl (H.nxt + 5) 5 0 1, .int (-1), .nilS, .rsl (H.nxt + 6) 1 0 1, .int (-1)], .int 3] (by rfl) (by omega) (by simp) ?_ ?_
  · (try simp -implicitDefEqProofs only [push_cast, Nat.reduceAdd, Nat.reduceSub, Nat.reduceMul, Nat.reduceLT, Nat.reduceLeDiff, Nat.reduceEqDiff, Nat.reduceBEq, reduceCtorEq, reduceIte, Int.reduceLE, Int.reduceLT, Int.reduceNeg, Int.reduceToNat, oneQ9, pair9, encQ, encI, encD, catTwo, List.map_cons, List.map_nil, List.set_cons_zero, List.set_cons_succ])
  refine fzk H 5 1 [.agg [.sl (catTwo.map encD)], .agg (encQ oneQ9), .int 3] (by rfl) (by omega) (by simp) ?_ ?_
  · (try simp -implicitDefEqProofs only [push_cast, Nat.reduceAdd, Nat.reduceSub, Nat.reduceMul, Nat.reduceLT, Nat.reduceLeDiff, Nat.reduceEqDiff, Nat.reduceBEq, reduceCtorEq, reduceIte, Int.reduceLE, Int.reduceLT, Int.reduceNeg, Int.reduceToNat, oneQ9, pair9, encQ, encI, encD, catTwo, List.map_cons, List.map_nil, List.set_cons_zero, List.set_cons_succ])
  refine callq r3 ?_
  simp -implicitDefEqProofs only [push_cast, Nat.reduceAdd, Nat.reduceSub, Nat.reduceMul, Nat.reduceLT, Nat.reduceLeDiff, Nat.reduceEqDiff, Nat.reduceBEq, reduceCtorEq, reduceIte, Int.reduceLE, Int.reduceLT, Int.reduceNeg, Int.reduceToNat, List.set_cons_zero, List.set_cons_succ]
  refine gcalla [.agg [.sl (catTwo.map encD)], .agg (encQ oneQ9), .int 1] (.int 100) (fun _ => trivial) (fun _ => r1) ?_ ?_
  · (try simp -implicitDefEqProofs only [push_cast, Nat.reduceAdd, Nat.reduceSub, Nat.reduceMul, Nat.reduceLT, Nat.reduceLeDiff, Nat.reduceEqDiff, Nat.reduceBEq, reduceCtorEq, reduceIte, Int.reduceLE, Int.reduceLT, Int.reduceNeg, Int.reduceToNat, oneQ9, pair9, encQ, encI, encD, catTwo, List.map_cons, List.map_nil, List.set_cons_zero, List.set_cons_succ])
  simp -implicitDefEqProofs only [push_cast, Nat.reduceAdd, Nat.reduceSub, Nat.reduceMul, Nat.reduceLT, Nat.reduceLeDiff, Nat.reduceEqDiff, Nat.reduceBEq, reduceCtorEq, reduceIte, Int.reduceLE, Int.reduceLT, Int.reduceNeg, Int.reduceToNat]
  refine gcalla [.agg [.sl (catTwo.map encD)], .agg (encQ oneQ9)] (.int 20) (fun _ => trivial) (fun _ => g) ?_ ?_
  · (try simp -implicitDefEqProofs only [push_cast, Nat.reduceAdd, Nat.reduceSub, Nat.reduceMul, Nat.reduceLT, Nat.reduceLeDiff, Nat.reduceEqDiff, Nat.reduceBEq, reduceCtorEq, reduceIte, Int.reduceLE, Int.reduceLT, Int.reduceNeg, Int.reduceToNat, oneQ9, pair9, encQ, encI, encD, catTwo, List.map_cons, List.map_nil, List.set_cons_zero, List.set_cons_succ])
  simp -implicitDefEqProofs only [push_cast, Nat.reduceAdd, Nat.reduceSub, Nat.reduceMul, Nat.reduceLT, Nat.reduceLeDiff, Nat.reduceEqDiff, Nat.reduceBEq, reduceCtorEq, reduceIte, Int.reduceLE, Int.reduceLT, Int.reduceNeg, Int.reduceToNat]
  refine gdo (by decide) ?_
  simp -implicitDefEqProofs only [push_cast, Nat.reduceAdd, Nat.reduceSub, Nat.reduceMul, Nat.reduceLT, Nat.reduceLeDiff, Nat.reduceEqDiff, Nat.reduceBEq, reduceCtorEq, reduceIte, Int.reduceLE, Int.reduceLT, Int.reduceNeg, Int.reduceToNat]
  refine gcall trivial ?_
  refine fzk H 8 2 [.sl ([6, 7].map encI)] (by rfl) (by omega) (by simp) ?_ ?_
  · (try simp -implicitDefEqProofs only [push_cast, Nat.reduceAdd, Nat.reduceSub, Nat.reduceMul, Nat.reduceLT, Nat.reduceLeDiff, Nat.reduceEqDiff, Nat.reduceBEq, reduceCtorEq, reduceIte, Int.reduceLE, Int.reduceLT, Int.reduceNeg, Int.reduceToNat, oneQ9, pair9, encQ, encI, encD, catTwo, List.map_cons, List.map_nil, List.set_cons_zero, List.set_cons_succ])
  refine callq t42 ?_
  simp -implicitDefEqProofs only [push_cast, Nat.reduceAdd, Nat.reduceSub, Nat.reduceMul, Nat.reduceLT, Nat.reduceLeDiff, Nat.reduceEqDiff, Nat.reduceBEq, reduceCtorEq, reduceIte, Int.reduceLE, Int.reduceLT, Int.reduceNeg, Int.reduceToNat, List.set_cons_zero, List.set_cons_succ]
  refine gcalla [.agg [.sl (catTwo.map encD)], .agg (encQ oneQ9), .int 1] (.int 10) (fun _ => trivial) (fun _ => b) ?_ ?_
  · (try simp -implicitDefEqProofs only [push_cast, Nat.reduceAdd, Nat.reduceSub, Nat.reduceMul, Nat.reduceLT, Nat.reduceLeDiff, Nat.reduceEqDiff, Nat.reduceBEq, reduceCtorEq, reduceIte, Int.reduceLE, Int.reduceLT, Int.reduceNeg, Int.reduceToNat, oneQ9, pair9, encQ, encI, encD, catTwo, List.map_cons, List.map_nil, List.set_cons_zero, List.set_cons_succ])
  simp -implicitDefEqProofs only [push_cast, Nat.reduceAdd, Nat.reduceSub, Nat.reduceMul, Nat.reduceLT, Nat.reduceLeDiff, Nat.reduceEqDiff, Nat.reduceBEq, reduceCtorEq, reduceIte, Int.reduceLE, Int.reduceLT, Int.reduceNeg, Int.reduceToNat]
end Go.Sim.Try
set_option linter.unusedSimpArgs false
set_option linter.unusedVariables false
set_option maxRecDepth 100000
namespace Go.Sim.Try
open Go Go.Sim
attribute [local push_cast] aops_cons aops_nil aopG_none aopG_some aopP_eq aopE_eq aopC_eq aopE?_eq aopC?_eq aopB_eq aopB?_eq abr anilq gopP_eq gopL_eq ahead_cons ahead_nil ahdG_none ahdG_some ahdP_eq ahdN_eq ahdC_eq ahdN?_eq ahdS_eq ahdS?_eq astoreN ahdC?_eq ghdP_eq ghdC_eq ghdC?_eq ghdZ_f ghdZ_t ahdI_eq ahdI?_eq ghdN?_eq aim_nil aim_cons isIn_nil isIn_none isIn_cons aimm aheP_eq aheA_eq aheC_eq aheC?_eq aheI?_eq aheA?_eq gheP_eq gheC_eq gheC?_eq gheZ_eq aheG_none aheG_some aheff_cons aheff_nil aapp gro_rsl gro_lit gro_esl opt_some opt_none no_eq acondT_true acondT_false acondT_lit aw_skip aw_region aw_regionD aw_seq aw_cond aw_block aw_loop aw_exit aw_label aw_ret thn_normal thn_exit thn_ret inb_normal inb_exit inb_ret qret_ret qret_normal gcond apure aeff anew acallee ares aresT aresL aresC ares1 qfin_eq ev ofV evL gokL tget tput_some tput_none initT abin aint aun aload afaddr aiaddr afield aindex aextract apick pickv_lit Bool.or_false Bool.false_or Bool.or_true Bool.true_or imp_self aslice chunk roomB abound aconv abuild afill splice alen aminmax abuiltin anil apart Value.oneCell' astore aappend srcEs abuildSlice asets isEq plus_obj plus_nxt plus_add plus_set plus_del IntKind.bits Option.map_some Option.map_none Option.bind_some Option.bind_none Option.join_some Option.getD_some Option.getD_none Option.toList Option.isSome_some List.getElem?_toArray List.getElem?_cons_zero List.getElem?_cons_succ List.getElem?_nil List.length_cons List.length_nil List.length_map List.head?_cons List.cons_append List.nil_append List.append_nil List.map_cons List.map_nil List.getD_cons_zero List.getD_cons_succ List.replicate_succ List.replicate_zero List.set_cons_zero List.set_cons_succ List.take_succ_cons List.take_zero List.drop_succ_cons List.drop_zero List.all_cons List.all_nil Nat.zero_add if_true if_false true_and and_true false_and and_false true_implies implies_true forall_const Bool.and_true Bool.true_and Bool.false_and Bool.and_false Bool.true_beq Bool.false_beq Bool.not_not beq_tt beq_ff Int.toNat_natCast decide_true decide_false Bool.not_true Bool.not_false Bool.true_eq_false Bool.false_eq_true false_implies exists_prop eq_self bne_self_eq_false beq_self_eq_true decide_eq_true_eq decide_eq_false_iff_not Bool.not_eq_true' Bool.not_eq_false' AV.int AV.bool AV.nilS ne_eq not_false_eq_true not_true_eq_false exists_eq_left exists_eq_left' Nat.lt_irrefl core_lit grd_lit acells_lit one_lit core_agg grd_agg acells_agg one_agg core_tup grd_tup acells_tup one_tup core_sl grd_sl acells_sl one_sl core_esl grd_esl acells_esl one_esl core_rsl grd_rsl acells_rsl one_rsl core_ptr grd_ptr acells_ptr one_ptr core_iptr grd_iptr acells_iptr one_iptr core_clo grd_clo acells_clo one_clo core_mp grd_mp acells_mp one_mp core_any grd_any acells_any one_any core_gv grd_gv fit_agg fit_lit fit_sl fit_esl fit_rsl fit_ptr fit_iptr fit_clo fit_mp retq_ret retq_normal set_nxt set_set plus_obj_set plus_set_set app_get0 app_get app_set0 app_set List.append_assoc List.length_append List.length_set Nat.lt_add_one Nat.add_lt_add_iff_right Nat.lt_add_right_iff_pos Nat.add_lt_add_iff_left List.mem_cons List.not_mem_nil or_false forall_eq forall_eq_or_imp lt_s0 lt_s1 lt_s2 lt_s3 lt_s4 lt_s5 lt_s6 lt_s7 lt_s8 pickv_t pickv_f or_nand or_nand2 imp_and_l SealT SealOs sealO_cells sl_lit sl_any sl_agg sl_tup sl_sl sl_rsl slO sl_esl sl_nil sl_eslesl sl_eslnil sl_rslrsl sl_eslrsl sl_nilrsl sl_ptr sl_iptr sl_ptri slP sl_clo sl_mp sl_gv sll_nil sll_cons slll_nil slll_cons shut_eq shutO Option.join_none Fn.func.injEq and_self sealL_self sealLL_self seal_self PureL PureLL Pure Nat.le_refl Nat.zero_le AV.lit.injEq Value.int.injEq Value.bool.injEq false_or or_true true_or Int.natCast_zero Int.ofNat_zero Int.cast_ofNat_Int Int.natCast_add Int.natCast_one Option.some.injEq piL_is sop_nil sop_cons sop_none sop_some sopO_some sop_new shut_pi shutL_nil shutL_cons exQ_exit exQ_ret exQ_normal Go.Sim.Try.ty_load1 Go.Sim.Try.ty_zero1 Go.Sim.Try.ty_load2 Go.Sim.Try.ty_zero2 Go.Sim.Try.ty_und2 Go.Sim.Try.ty_load3 Go.Sim.Try.ty_zero3 Go.Sim.Try.ty_und3 Go.Sim.Try.ty_load4 Go.Sim.Try.ty_zero4 Go.Sim.Try.ty_und4 Go.Sim.Try.ty_load5 Go.Sim.Try.ty_zero5 Go.Sim.Try.ty_und5 Go.Sim.Try.ty_load9 Go.Sim.Try.ty_zero9 Go.Sim.Try.ty_und9 Go.Sim.Try.ty_load22 Go.Sim.Try.ty_zero22 Go.Sim.Try.ty_el22 Go.Sim.Try.ty_zeroE22 Go.Sim.Try.ty_load26 Go.Sim.Try.ty_zero26 Go.Sim.Try.ty_el26 Go.Sim.Try.ty_zeroE26 Go.Sim.Try.ty_load28 Go.Sim.Try.ty_zero28 Go.Sim.Try.ty_fld28_0 Go.Sim.Try.ty_part28_0 Go.Sim.Try.ty_struct28 Go.Sim.Try.ty_load29 Go.Sim.Try.ty_zero29 Go.Sim.Try.ty_el29 Go.Sim.Try.ty_zeroE29 Go.Sim.Try.ty_load31 Go.Sim.Try.ty_zero31 Go.Sim.Try.ty_fld31_0 Go.Sim.Try.ty_part31_0 Go.Sim.Try.ty_struct31 Go.Sim.Try.ty_load35 Go.Sim.Try.ty_zero35 Go.Sim.Try.ty_fld35_0 Go.Sim.Try.ty_part35_0 Go.Sim.Try.ty_fld35_1 Go.Sim.Try.ty_part35_1 Go.Sim.Try.ty_struct35 Go.Sim.Try.ty_load36 Go.Sim.Try.ty_zero36 Go.Sim.Try.ty_el36 Go.Sim.Try.ty_zeroE36 Go.Sim.Try.ty_load38 Go.Sim.Try.ty_zero38 Go.Sim.Try.ty_fld38_0 Go.Sim.Try.ty_part38_0 Go.Sim.Try.ty_fld38_1 Go.Sim.Try.ty_part38_1 Go.Sim.Try.ty_fld38_2 Go.Sim.Try.ty_part38_2 Go.Sim.Try.ty_fld38_3 Go.Sim.Try.ty_part38_3 Go.Sim.Try.ty_struct38 Go.Sim.Try.ty_load40 Go.Sim.Try.ty_zero40 Go.Sim.Try.ty_fld40_0 Go.Sim.Try.ty_part40_0 Go.Sim.Try.ty_fld40_1 Go.Sim.Try.ty_part40_1 Go.Sim.Try.ty_fld40_2 Go.Sim.Try.ty_part40_2 Go.Sim.Try.ty_fld40_3 Go.Sim.Try.ty_part40_3 Go.Sim.Try.ty_fld40_4 Go.Sim.Try.ty_part40_4 Go.Sim.Try.ty_fld40_5 Go.Sim.Try.ty_part40_5 Go.Sim.Try.ty_struct40 Go.Sim.Try.ty_load43 Go.Sim.Try.ty_zero43 Go.Sim.Try.ty_und43 Go.Sim.Try.ty_load47 Go.Sim.Try.ty_zero47 Go.Sim.Try.ty_fld47_0 Go.Sim.Try.ty_part47_0 Go.Sim.Try.ty_fld47_1 Go.Sim.Try.ty_part47_1 Go.Sim.Try.ty_struct47 Go.Sim.Try.ty_load48 Go.Sim.Try.ty_zero48 Go.Sim.Try.ty_el48 Go.Sim.Try.ty_zeroE48 Go.Sim.Try.ty_load49 Go.Sim.Try.ty_zero49 Go.Sim.Try.ty_el49 Go.Sim.Try.ty_zeroE49 Go.Sim.Try.ty_load52 Go.Sim.Try.ty_zero52 Go.Sim.Try.ty_und52 Go.Sim.Try.ty_load53 Go.Sim.Try.ty_zero53 Go.Sim.Try.ty_load63 Go.Sim.Try.ty_zero63 Go.Sim.Try.ty_arr63 Go.Sim.Try.ty_part63_0 Go.Sim.Try.ty_part63_1 Go.Sim.Try.ty_struct63 Go.Sim.Try.ty_load67 Go.Sim.Try.ty_zero67 Go.Sim.Try.ty_load72 Go.Sim.Try.ty_zero72 Go.Sim.Try.ty_load77 Go.Sim.Try.ty_zero77 Go.Sim.Try.ty_load78 Go.Sim.Try.ty_zero78 Go.Sim.Try.ty_und78 Go.Sim.Try.ty_load85 Go.Sim.Try.ty_zero85 Go.Sim.Try.ty_fld85_0 Go.Sim.Try.ty_part85_0 Go.Sim.Try.ty_fld85_1 Go.Sim.Try.ty_part85_1 Go.Sim.Try.ty_fld85_2 Go.Sim.Try.ty_part85_2 Go.Sim.Try.ty_struct85 Go.Sim.Try.ty_load87 Go.Sim.Try.ty_zero87 Go.Sim.Try.ty_load89 Go.Sim.Try.ty_zero89 Go.Sim.Try.ty_und89 Go.Sim.Try.ty_load98 Go.Sim.Try.ty_zero98 Go.Sim.Try.ty_und98 Go.Sim.Try.ty_load102 Go.Sim.Try.ty_zero102 Go.Sim.Try.ty_load105 Go.Sim.Try.ty_zero105 Go.Sim.Try.ty_und105 Go.Sim.Try.ty_load109 Go.Sim.Try.ty_zero109 Go.Sim.Try.ty_load113 Go.Sim.Try.ty_zero113 encE_mk encE_take encE_len encV encE_one encEs_pure encE_pure

theorem encIs_len1 (l : List Int) : ∀ e ∈ l.map encI, e.length = 1 := by
  simp only [List.mem_map]
  rintro _ ⟨x, _, rfl⟩
  rfl
theorem encIs_all1 (l : List Int) : ∀ e ∈ l.map encI, e.all AV.one = true := by
  simp only [List.mem_map]
  rintro _ ⟨x, _, rfl⟩
  rfl
theorem told_L {ts : List TypeId} {us : List AV} (h : ToldAll Go.Proofs.Try.prog (22 :: ts) us) : ∃ (l : List Int) (us' : List AV), us = .sl (l.map encI) :: us' ∧ l.length ≤ 140737488355328 ∧ (∀ x ∈ l, In64 x) ∧ ToldAll Go.Proofs.Try.prog ts us' := by
  simp only [ToldAll] at h
  obtain ⟨n, vs, us1, rfl, h1, h3⟩ := h
  obtain ⟨l, rfl, h4, h5⟩ := shp_Is2 h1
  exact ⟨l, us1, by rw [asV_Is]; rfl, h4, h5, h3⟩
theorem cardTimes_ok (l k : List Int) (hl : ∀ x ∈ l, In64 x) (hk : ∀ x ∈ k, In64 x) : Quiet Go.Proofs.Try.prog 3 [.sl (l.map encI), .sl (k.map encI)] (.bool true) := by
  refine quiet_of (rs := #[.tmp 4]) Go.Proofs.Try.func3 rfl rfl rfl mixed rfl rfl fun H hs => ?_
  simp -implicitDefEqProofs only [push_cast, Nat.reduceAdd, Nat.reduceSub, Nat.reduceMul, Nat.reduceLT, Nat.reduceLeDiff, Nat.reduceEqDiff, Nat.reduceBEq, reduceCtorEq, reduceIte, Int.reduceLE, Int.reduceLT, Int.reduceNeg, Int.reduceToNat]
  refine callq awake9_ok ?_
  simp -implicitDefEqProofs only [push_cast, Nat.reduceAdd, Nat.reduceSub, Nat.reduceMul, Nat.reduceLT, Nat.reduceLeDiff, Nat.reduceEqDiff, Nat.reduceBEq, reduceCtorEq, reduceIte, Int.reduceLE, Int.reduceLT, Int.reduceNeg, Int.reduceToNat]
  by_cases hc : l.length ≤ 100 ∧ k.length ≤ 100
  · obtain ⟨hl1, hk1⟩ := hc
    have c1 : (100 < (l.length : Int)) = False := by simp; omega
    have c2 : (100 < (k.length : Int)) = False := by simp; omega
    simp -implicitDefEqProofs only [push_cast, Nat.reduceAdd, Nat.reduceSub, Nat.reduceMul, Nat.reduceLT, Nat.reduceLeDiff, Nat.reduceEqDiff, Nat.reduceBEq, reduceCtorEq, reduceIte, Int.reduceLE, Int.reduceLT, Int.reduceNeg, Int.reduceToNat, c1, c2]
    refine loop_at hs (σ := Nat) (fun j => j ≤ l.length) (fun j => l.length - j)
      (fun j => [(7, .int ((l.length - j : Nat) : Int)), (6, .rsl (H.nxt + 0) 1 0 (l.reverse.take j).length), (0, .sl (l.map encI)), (1, .sl (k.map encI))]) (fun j => [some (.cells 1 (rowI (l.reverse.take j)) 0)]) [none] 0 (by omega) rfl ?_ ?_ ?_
    · (try simp -implicitDefEqProofs only [push_cast, Nat.reduceAdd, Nat.reduceSub, Nat.reduceMul, Nat.reduceLT, Nat.reduceLeDiff, Nat.reduceEqDiff, Nat.reduceBEq, reduceCtorEq, reduceIte, Int.reduceLE, Int.reduceLT, Int.reduceNeg, Int.reduceToNat, rowI_nil, List.take_zero, encIs_pure, Nat.sub_zero])
    · (try simp -implicitDefEqProofs only [push_cast, Nat.reduceAdd, Nat.reduceSub, Nat.reduceMul, Nat.reduceLT, Nat.reduceLeDiff, Nat.reduceEqDiff, Nat.reduceBEq, reduceCtorEq, reduceIte, Int.reduceLE, Int.reduceLT, Int.reduceNeg, Int.reduceToNat, rowI_nil, List.take_zero, encIs_pure])
    intro j hj2
    have hlk : (l.reverse.take j).length = j := by rw [List.length_take, List.length_reverse]; omega
    by_cases hj : j < l.length
    · obtain ⟨m, hmk⟩ : ∃ m, l.length - j = m + 1 := ⟨l.length - j - 1, by omega⟩
      have hml : m < l.length := by omega
      have hm0 : (0 ≤ (m : Int)) = True := by simp
      have hm' : ((m : Int) < (l.length : Int)) = True := by simp; omega
      have hmp : (0 < (m : Int) + 1) = True := by simp
      have hw : IntKind.wrap .i64 ((m : Int) + 1 - 1) = (m : Int) := by rw [wrap64 (by omega) (by omega)]; omega
      have hrv : l.reverse.take (j + 1) = l.reverse.take j ++ [l[m]] := by
        rw [List.take_succ_eq_append_getElem (by simp; omega)]
        congr 2
        rw [List.getElem_reverse]
        congr 1
        omega
      rw [hmk]
      simp -implicitDefEqProofs only [push_cast, Nat.reduceAdd, Nat.reduceSub, Nat.reduceMul, Nat.reduceLT, Nat.reduceLeDiff, Nat.reduceEqDiff, Nat.reduceBEq, reduceCtorEq, reduceIte, Int.reduceLE, Int.reduceLT, Int.reduceNeg, Int.reduceToNat, hmp, hw, hm0, hm', encIs_get l m hml, encI]
      have hkm : l.length - (j + 1) = m := by omega
      have hsn : rowI (l.reverse.take j) ++ [[.lit (.int .i64 l[m])]] = rowI (l.reverse.take (j + 1)) := by rw [hrv, snocI]
      have hln : (l.reverse.take (j + 1)).length = (l.reverse.take j).length + 1 := by rw [hrv, List.length_append]; rfl
      refine ⟨by omega, next_at [some 2] (j + 1) (by omega) (by omega) rfl ?_ ?_⟩
      · (try simp -implicitDefEqProofs only [push_cast, Nat.reduceAdd, Nat.reduceSub, Nat.reduceMul, Nat.reduceLT, Nat.reduceLeDiff, Nat.reduceEqDiff, Nat.reduceBEq, reduceCtorEq, reduceIte, Int.reduceLE, Int.reduceLT, Int.reduceNeg, Int.reduceToNat, hkm, hln, encIs_pure])
      · (try simp -implicitDefEqProofs only [push_cast, Nat.reduceAdd, Nat.reduceSub, Nat.reduceMul, Nat.reduceLT, Nat.reduceLeDiff, Nat.reduceEqDiff, Nat.reduceBEq, reduceCtorEq, reduceIte, Int.reduceLE, Int.reduceLT, Int.reduceNeg, Int.reduceToNat, hsn, take_rowI _ _ (Nat.le_refl _), rowI_pure, rowI_one, encIs_pure])
    · obtain rfl : j = l.length := by omega
      have hbk : l.reverse.take l.length = l.reverse := List.take_of_length_le (by simp)
      have t1 := times_ok l (by omega) hl
      rw [hbk, Nat.sub_self]
      simp -implicitDefEqProofs only [push_cast, Nat.reduceAdd, Nat.reduceSub, Nat.reduceMul, Nat.reduceLT, Nat.reduceLeDiff, Nat.reduceEqDiff, Nat.reduceBEq, reduceCtorEq, reduceIte, Int.reduceLE, Int.reduceLT, Int.reduceNeg, Int.reduceToNat]
      refine callq t1 ?_
      simp -implicitDefEqProofs only [push_cast, Nat.reduceAdd, Nat.reduceSub, Nat.reduceMul, Nat.reduceLT, Nat.reduceLeDiff, Nat.reduceEqDiff, Nat.reduceBEq, reduceCtorEq, reduceIte, Int.reduceLE, Int.reduceLT, Int.reduceNeg, Int.reduceToNat]
      have t2 := times_ok (l ++ k) (by rw [List.length_append]; omega) (fun x hx => (List.mem_append.1 hx).elim (hl x) (hk x))
      have hlt : List.take l.length (l.map encI) = l.map encI := List.take_of_length_le (by simp)
      have hma : (l ++ k).map encI = l.map encI ++ k.map encI := List.map_append
      have hpu : PureLL (l.map encI ++ k.map encI) := by rw [← hma]; exact encIs_pure _
      refine ⟨⟨encIs_len1 l, by omega⟩, ⟨encIs_len1 k, encIs_all1 k, by omega⟩, ?_⟩
      refine fzk H 2 (l.length + k.length) [.sl ((l ++ k).map encI)] (by rfl) (by omega) (by simp) ?_ ?_
      · have hlt2 : List.take (l.length + k.length) (l.map encI ++ k.map encI) = l.map encI ++ k.map encI := List.take_of_length_le (by simp)
        (try simp -implicitDefEqProofs only [push_cast, Nat.reduceAdd, Nat.reduceSub, Nat.reduceMul, Nat.reduceLT, Nat.reduceLeDiff, Nat.reduceEqDiff, Nat.reduceBEq, reduceCtorEq, reduceIte, Int.reduceLE, Int.reduceLT, Int.reduceNeg, Int.reduceToNat, hlt, hma, hlt2])
        exact sealLL_pure _ _ _ hpu
      refine callq t2 ?_
      simp -implicitDefEqProofs only [push_cast, Nat.reduceAdd, Nat.reduceSub, Nat.reduceMul, Nat.reduceLT, Nat.reduceLeDiff, Nat.reduceEqDiff, Nat.reduceBEq, reduceCtorEq, reduceIte, Int.reduceLE, Int.reduceLT, Int.reduceNeg, Int.reduceToNat]
      have t3 := times_ok l.reverse (by rw [List.length_reverse]; omega) (fun x hx => hl x (List.mem_reverse.1 hx))
      rw [times_reverse] at t3
      have t4 := times_ok k (by omega) hk
      have hrg := times_range l
      have hrk := times_range k
      have hcap : capN = 1099511627776 := rfl
      have t5 := times_ok [times l, times k] (by simp) (by intro v hv; simp at hv; unfold In64; omega)
      have happ := times_append l k
      have hmo := times_more l k
      rw [← happ] at t5
      generalize hx : times l = x at *
      generalize hy : times k = y at *
      generalize hz : times (l ++ k) = z at *
      have g1 : (0 ≤ x) = True := by simp; omega
      have g2 : (x ≤ 1099511627776) = True := by simp; omega
      refine fzk H 0 l.reverse.length [.sl (l.reverse.map encI)] (by rfl) (by omega) (by simp) ?_ ?_
      · (try simp -implicitDefEqProofs only [push_cast, Nat.reduceAdd, Nat.reduceSub, Nat.reduceMul, Nat.reduceLT, Nat.reduceLeDiff, Nat.reduceEqDiff, Nat.reduceBEq, reduceCtorEq, reduceIte, Int.reduceLE, Int.reduceLT, Int.reduceNeg, Int.reduceToNat, take_rowI _ _ (Nat.le_refl _)])
        exact sealLL_pure _ _ _ (encIs_pure _)
      refine callq t3 ?_
      simp -implicitDefEqProofs only [push_cast, Nat.reduceAdd, Nat.reduceSub, Nat.reduceMul, Nat.reduceLT, Nat.reduceLeDiff, Nat.reduceEqDiff, Nat.reduceBEq, reduceCtorEq, reduceIte, Int.reduceLE, Int.reduceLT, Int.reduceNeg, Int.reduceToNat, g1, g2]
      refine gcall trivial (callq t4 ?_)
      simp -implicitDefEqProofs only [push_cast, Nat.reduceAdd, Nat.reduceSub, Nat.reduceMul, Nat.reduceLT, Nat.reduceLeDiff, Nat.reduceEqDiff, Nat.reduceBEq, reduceCtorEq, reduceIte, Int.reduceLE, Int.reduceLT, Int.reduceNeg, Int.reduceToNat]
      refine gdo (by decide) ?_
      simp -implicitDefEqProofs only [push_cast, Nat.reduceAdd, Nat.reduceSub, Nat.reduceMul, Nat.reduceLT, Nat.reduceLeDiff, Nat.reduceEqDiff, Nat.reduceBEq, reduceCtorEq, reduceIte, Int.reduceLE, Int.reduceLT, Int.reduceNeg, Int.reduceToNat]
      refine gcall trivial ?_
      refine fzk H 3 2 [.sl ([x, y].map encI)] (by rfl) (by omega) (by simp) ?_ ?_
      · (try simp -implicitDefEqProofs only [push_cast, Nat.reduceAdd, Nat.reduceSub, Nat.reduceMul, Nat.reduceLT, Nat.reduceLeDiff, Nat.reduceEqDiff, Nat.reduceBEq, reduceCtorEq, reduceIte, Int.reduceLE, Int.reduceLT, Int.reduceNeg, Int.reduceToNat, encI, List.map_cons, List.map_nil])
      refine callq t5 ?_
      simp -implicitDefEqProofs only [push_cast, Nat.reduceAdd, Nat.reduceSub, Nat.reduceMul, Nat.reduceLT, Nat.reduceLeDiff, Nat.reduceEqDiff, Nat.reduceBEq, reduceCtorEq, reduceIte, Int.reduceLE, Int.reduceLT, Int.reduceNeg, Int.reduceToNat]
      refine gcall trivial (callq t4 ?_)
      simp -implicitDefEqProofs only [push_cast, Nat.reduceAdd, Nat.reduceSub, Nat.reduceMul, Nat.reduceLT, Nat.reduceLeDiff, Nat.reduceEqDiff, Nat.reduceBEq, reduceCtorEq, reduceIte, Int.reduceLE, Int.reduceLT, Int.reduceNeg, Int.reduceToNat]
      rw [Bool.or_eq_true, decide_eq_true_eq, decide_eq_true_eq]
      exact hmo
  · have hct : (decide (100 < (l.length : Int)) || decide (100 < (k.length : Int))) = true := by
      rw [Bool.or_eq_true, decide_eq_true_eq, decide_eq_true_eq]; omega
    simp -implicitDefEqProofs only [push_cast, Nat.reduceAdd, Nat.reduceSub, Nat.reduceMul, Nat.reduceLT, Nat.reduceLeDiff, Nat.reduceEqDiff, Nat.reduceBEq, reduceCtorEq, reduceIte, Int.reduceLE, Int.reduceLT, Int.reduceNeg, Int.reduceToNat, hct]
theorem cardTimes_law (us : List AV) (h : ToldAll Go.Proofs.Try.prog Go.Proofs.Try.f3.params.toList us) : Quiet Go.Proofs.Try.prog 3 us (.bool true) := by
  have e1 : Go.Proofs.Try.f3.params.toList = [22, 22] := by kernel_rfl
  rw [e1] at h
  obtain ⟨l, us, rfl, _, hl, h⟩ := told_L h
  obtain ⟨k, us, rfl, _, hk, h⟩ := told_L h
  obtain rfl := told_nil h
  exact cardTimes_ok l k hl hk
end Go.Sim.Try
