/- What an expression comes to, by the document. Conditions: none. -/
import Derived.Test.YtnoajklojkmonaaGreatSimRefE
set_option linter.unusedSimpArgs false
set_option linter.unusedVariables false
set_option maxRecDepth 100000
namespace Go.Sim.Tryz
open Go Go.Sim
attribute [local push_cast] aops_cons aops_nil aopG_none aopG_some aopP_eq aopE_eq aopC_eq aopE?_eq aopC?_eq gopP_eq gopL_eq ahead_cons ahead_nil ahdG_none ahdG_some ahdP_eq ahdN_eq ahdC_eq ahdN?_eq ahdS_eq ahdS?_eq astoreN ahdC?_eq ghdP_eq ghdC_eq ghdC?_eq ghdZ_eq opt_some opt_none no_eq acondT_true acondT_false acondT_lit aw_skip aw_region aw_regionD aw_seq aw_cond aw_block aw_loop aw_exit aw_label aw_ret thn_normal thn_exit thn_ret inb_normal inb_exit inb_ret qret_ret qret_normal gcond apure aeff anew acallee ares aresT aresL aresC ares1 qfin_eq ev ofV evL gokL tget tput_some tput_none initT abin aint aun aload afaddr aiaddr afield aindex aextract apick pickv_lit Bool.or_false Bool.false_or Bool.or_true Bool.true_or imp_self aslice abound aconv abuild afill splice alen aminmax abuiltin anil apart Value.oneCell' astore aappend srcEs abuildSlice asets isEq plus_obj plus_nxt plus_add plus_set plus_del IntKind.bits Option.map_some Option.map_none Option.bind_some Option.bind_none Option.join_some Option.getD_some Option.getD_none Option.toList Option.isSome_some List.getElem?_toArray List.getElem?_cons_zero List.getElem?_cons_succ List.getElem?_nil List.length_cons List.length_nil List.length_map List.head?_cons List.cons_append List.nil_append List.append_nil List.map_cons List.map_nil List.getD_cons_zero List.getD_cons_succ List.replicate_succ List.replicate_zero List.set_cons_zero List.set_cons_succ List.take_succ_cons List.take_zero List.drop_succ_cons List.drop_zero List.all_cons List.all_nil Nat.zero_add if_true if_false true_and and_true false_and and_false true_implies implies_true forall_const Bool.and_true Bool.true_and Bool.false_and Bool.and_false Bool.true_beq Bool.false_beq Bool.not_not beq_tt beq_ff Int.toNat_natCast decide_true decide_false Bool.not_true Bool.not_false Bool.true_eq_false Bool.false_eq_true false_implies exists_prop eq_self bne_self_eq_false beq_self_eq_true decide_eq_true_eq decide_eq_false_iff_not Bool.not_eq_true' Bool.not_eq_false' AV.int AV.bool AV.nilS ne_eq not_false_eq_true not_true_eq_false exists_eq_left exists_eq_left' Nat.lt_irrefl core_lit grd_lit acells_lit one_lit core_agg grd_agg acells_agg one_agg core_tup grd_tup acells_tup one_tup core_sl grd_sl acells_sl one_sl core_esl grd_esl acells_esl one_esl core_rsl grd_rsl acells_rsl one_rsl core_ptr grd_ptr acells_ptr one_ptr core_iptr grd_iptr acells_iptr one_iptr core_clo grd_clo acells_clo one_clo core_mp grd_mp acells_mp one_mp core_any grd_any acells_any one_any core_gv grd_gv fit_agg fit_lit fit_sl fit_esl fit_rsl fit_ptr fit_iptr fit_clo fit_mp retq_ret retq_normal set_nxt set_set plus_obj_set plus_set_set app_get0 app_get app_set0 app_set List.append_assoc List.length_append List.length_set Nat.lt_add_one Nat.add_lt_add_iff_right Nat.lt_add_right_iff_pos Nat.add_lt_add_iff_left List.mem_cons List.not_mem_nil or_false forall_eq forall_eq_or_imp lt_s0 lt_s1 lt_s2 lt_s3 lt_s4 lt_s5 lt_s6 lt_s7 lt_s8 pickv_t pickv_f or_nand or_nand2 imp_and_l SealT SealOs sealO_cells sl_lit sl_any sl_agg sl_tup sl_sl sl_rsl slO sl_esl sl_nil sl_eslesl sl_eslnil sl_rslrsl sl_eslrsl sl_nilrsl sl_ptr sl_iptr sl_ptri slP sl_clo sl_mp sl_gv sll_nil sll_cons slll_nil slll_cons shut_eq shutO Option.join_none Fn.func.injEq and_self sealL_self sealLL_self seal_self PureL PureLL Pure Nat.le_refl Nat.zero_le AV.lit.injEq Value.int.injEq Value.bool.injEq false_or or_true true_or Int.natCast_zero Int.ofNat_zero Int.cast_ofNat_Int Int.natCast_add Int.natCast_one Option.some.injEq piL_is sop_nil sop_cons sop_none sop_some sopO_some sop_new shut_pi shutL_nil shutL_cons exQ_exit exQ_ret exQ_normal Go.Sim.Tryz.ty_load1 Go.Sim.Tryz.ty_zero1 Go.Sim.Tryz.ty_load2 Go.Sim.Tryz.ty_zero2 Go.Sim.Tryz.ty_und2 Go.Sim.Tryz.ty_load3 Go.Sim.Tryz.ty_zero3 Go.Sim.Tryz.ty_und3 Go.Sim.Tryz.ty_load4 Go.Sim.Tryz.ty_zero4 Go.Sim.Tryz.ty_und4 Go.Sim.Tryz.ty_load5 Go.Sim.Tryz.ty_zero5 Go.Sim.Tryz.ty_und5 Go.Sim.Tryz.ty_load9 Go.Sim.Tryz.ty_zero9 Go.Sim.Tryz.ty_und9 Go.Sim.Tryz.ty_load23 Go.Sim.Tryz.ty_zero23 Go.Sim.Tryz.ty_fld23_0 Go.Sim.Tryz.ty_part23_0 Go.Sim.Tryz.ty_fld23_1 Go.Sim.Tryz.ty_part23_1 Go.Sim.Tryz.ty_struct23 Go.Sim.Tryz.ty_load24 Go.Sim.Tryz.ty_zero24 Go.Sim.Tryz.ty_el24 Go.Sim.Tryz.ty_zeroE24 Go.Sim.Tryz.ty_load26 Go.Sim.Tryz.ty_zero26 Go.Sim.Tryz.ty_fld26_0 Go.Sim.Tryz.ty_part26_0 Go.Sim.Tryz.ty_fld26_1 Go.Sim.Tryz.ty_part26_1 Go.Sim.Tryz.ty_fld26_2 Go.Sim.Tryz.ty_part26_2 Go.Sim.Tryz.ty_fld26_3 Go.Sim.Tryz.ty_part26_3 Go.Sim.Tryz.ty_struct26 Go.Sim.Tryz.ty_load27 Go.Sim.Tryz.ty_zero27 Go.Sim.Tryz.ty_el27 Go.Sim.Tryz.ty_zeroE27 Go.Sim.Tryz.ty_load28 Go.Sim.Tryz.ty_zero28 Go.Sim.Tryz.ty_el28 Go.Sim.Tryz.ty_zeroE28 Go.Sim.Tryz.ty_load30 Go.Sim.Tryz.ty_zero30 Go.Sim.Tryz.ty_load34 Go.Sim.Tryz.ty_zero34 Go.Sim.Tryz.ty_load46 Go.Sim.Tryz.ty_zero46 Go.Sim.Tryz.ty_load49 Go.Sim.Tryz.ty_zero49 Go.Sim.Tryz.ty_fld49_0 Go.Sim.Tryz.ty_part49_0 Go.Sim.Tryz.ty_fld49_1 Go.Sim.Tryz.ty_part49_1 Go.Sim.Tryz.ty_fld49_2 Go.Sim.Tryz.ty_part49_2 Go.Sim.Tryz.ty_struct49 Go.Sim.Tryz.ty_load54 Go.Sim.Tryz.ty_zero54 Go.Sim.Tryz.ty_und54 Go.Sim.Tryz.ty_load56 Go.Sim.Tryz.ty_zero56 Go.Sim.Tryz.ty_load61 Go.Sim.Tryz.ty_zero61 Go.Sim.Tryz.ty_und61 Go.Sim.Tryz.ty_load69 Go.Sim.Tryz.ty_zero69 Go.Sim.Tryz.ty_und69 Go.Sim.Tryz.ty_load71 Go.Sim.Tryz.ty_zero71 Go.Sim.Tryz.ty_und71 Go.Sim.Tryz.ty_load77 Go.Sim.Tryz.ty_zero77 Go.Sim.Tryz.ty_load84 Go.Sim.Tryz.ty_zero84 Go.Sim.Tryz.ty_und84 Go.Sim.Tryz.ty_load88 Go.Sim.Tryz.ty_zero88 encE_mk encE_take encE_len encV encE_one encEs_pure encE_pure

def Vl.wayR (op : Int) (l : List Vl) : Vl :=
  if op = 2 then (l.getD 0 .bad).reckonR (l.getD 1 .bad) addR else if op = 3 then (l.getD 0 .bad).reckonR (l.getD 1 .bad) subR else if op = 4 then (l.getD 0 .bad).reckonR (l.getD 1 .bad) mulR
  else if op = 5 then (l.getD 0 .bad).reckonR (l.getD 1 .bad) divR else if op = 6 then (l.getD 0 .bad).eqR (l.getD 1 .bad) else if op = 7 then (l.getD 0 .bad).ltR (l.getD 1 .bad)
  else if op = 8 then Vl.andR l else if op = 9 then Vl.orR l else (l.getD 0 .bad).notR
mutual
def evalR (cols : List Int) (row : List Vl) : Ex → Vl
  | .mk op col k n l => if op = 0 then ⟨k, n⟩ else if op = 1 then look cols row col else Vl.wayR op (evalRL cols row l)
def evalRL (cols : List Int) (row : List Vl) : List Ex → List Vl
  | [] => []
  | x :: l => evalR cols row x :: evalRL cols row l
end
theorem evalRL_eq (cols : List Int) (row : List Vl) : ∀ l, evalRL cols row l = l.map (evalR cols row)
  | [] => rfl
  | x :: l => by rw [evalRL, evalRL_eq cols row l, List.map_cons]
theorem getD_of {l : List Vl} {i : Nat} (h : i < l.length) : l.getD i .bad = l[i] := by rw [List.getD_eq_getElem?_getD, List.getElem?_eq_getElem h]; rfl

theorem evalR_ok (cols : List Int) (hcl : cols.length ≤ 140737488355328) (row : List Vl) (hrl : row.length ≤ 140737488355328) (e : Ex) :
    e.Ok → e.Fine → Quiet Go.Proofs.Tryz.prog 32 [.agg (encE e), .sl (cols.map encI), .sl (row.map encV)] (.agg (encV (evalR cols row e))) := by
  induction e using Ex.ind with
  | h op col k n l ih =>
  intro hok hfine
  obtain ⟨hl, hlo⟩ := hok
  obtain ⟨hp, hfl⟩ := hfine
  refine quiet_of (rs := #[.cell 6 23]) Go.Proofs.Tryz.func32 rfl rfl rfl mixed rfl rfl fun H hs => ?_
  simp only [Ex.part, Ex.op, Ex.l, Bool.and_eq_true] at hp
  have hpa : wayLo op ≤ l.length := of_decide_eq_true hp.1.1.2.1
  have hpb : (l.length : Int) ≤ wayHi op := of_decide_eq_true hp.1.1.2.2
  have hp0 : 0 ≤ op := of_decide_eq_true hp.1.1.1.1
  have hp1 : op < 11 := of_decide_eq_true hp.1.1.1.2
  clear hp
  have hl4 : l.length ≤ 4 := by
    unfold wayHi at hpb
    split at hpb
    · omega
    · split at hpb
      · omega
      · split at hpb <;> omega
  by_cases h0 : op = 0
  · simp -implicitDefEqProofs only [push_cast, Nat.reduceAdd, Nat.reduceSub, Nat.reduceMul, Nat.reduceLT, Nat.reduceLeDiff, Nat.reduceEqDiff, Nat.reduceBEq, reduceCtorEq, reduceIte, Int.reduceLE, Int.reduceLT, Int.reduceNeg, Int.reduceToNat, h0]
    (try simp -implicitDefEqProofs only [push_cast, Nat.reduceAdd, Nat.reduceSub, Nat.reduceMul, Nat.reduceLT, Nat.reduceLeDiff, Nat.reduceEqDiff, Nat.reduceBEq, reduceCtorEq, reduceIte, Int.reduceLE, Int.reduceLT, Int.reduceNeg, Int.reduceToNat, evalR, h0])
  by_cases h1 : op = 1
  · have hev : evalR cols row (Ex.mk op col k n l) = look cols row col := by rw [evalR, if_neg h0, if_pos h1]
    rw [hev]
    have e10 : ((1 : Int) = 0) = False := by simp
    simp -implicitDefEqProofs only [push_cast, Nat.reduceAdd, Nat.reduceSub, Nat.reduceMul, Nat.reduceLT, Nat.reduceLeDiff, Nat.reduceEqDiff, Nat.reduceBEq, reduceCtorEq, reduceIte, Int.reduceLE, Int.reduceLT, Int.reduceNeg, Int.reduceToNat, h0, h1, e10]
    refine loop_at hs (σ := Nat) (fun i => i ≤ cols.length ∧ ∀ (j : Nat) (h : j < cols.length), j < i → decide (col = cols[j]) = false) (fun i => cols.length - i)
      (fun i => [(1, .sl (cols.map encI)), (2, .sl (row.map encV)), (3, .ptr (H.nxt + 0) 5 0 0), (6, .ptr (H.nxt + 1) 2 0 0), (7, .int i)]) (fun _ => [some (.cells 5 [encE (.mk op col k n l)] 0), some (.cells 2 [[.int 0, .int 0]] 0)]) [some 0, some 1] 0 ⟨by omega, fun j _ h => by omega⟩ rfl ?_ ?_ ?_
    · (try simp -implicitDefEqProofs only [push_cast, Nat.reduceAdd, Nat.reduceSub, Nat.reduceMul, Nat.reduceLT, Nat.reduceLeDiff, Nat.reduceEqDiff, Nat.reduceBEq, reduceCtorEq, reduceIte, Int.reduceLE, Int.reduceLT, Int.reduceNeg, Int.reduceToNat, encVs_pure, encIs_pure])
    · (try simp -implicitDefEqProofs only [push_cast, Nat.reduceAdd, Nat.reduceSub, Nat.reduceMul, Nat.reduceLT, Nat.reduceLeDiff, Nat.reduceEqDiff, Nat.reduceBEq, reduceCtorEq, reduceIte, Int.reduceLE, Int.reduceLT, Int.reduceNeg, Int.reduceToNat, h1])
    · rintro i ⟨h2, h3⟩
      by_cases hi : i < cols.length
      · have hi' : ((i : Int) < (cols.length : Int)) = True := by simp; omega
        have hi0 : (0 ≤ (i : Int)) = True := by simp
        simp -implicitDefEqProofs only [push_cast, Nat.reduceAdd, Nat.reduceSub, Nat.reduceMul, Nat.reduceLT, Nat.reduceLeDiff, Nat.reduceEqDiff, Nat.reduceBEq, reduceCtorEq, reduceIte, Int.reduceLE, Int.reduceLT, Int.reduceNeg, Int.reduceToNat, hi', hi0]
        refine areg_at 7 (by kernel_rfl) (by kernel_rfl) ?_
        simp -implicitDefEqProofs only [push_cast, Nat.reduceAdd, Nat.reduceSub, Nat.reduceMul, Nat.reduceLT, Nat.reduceLeDiff, Nat.reduceEqDiff, Nat.reduceBEq, reduceCtorEq, reduceIte, Int.reduceLE, Int.reduceLT, Int.reduceNeg, Int.reduceToNat, hi', hi0, encIs_get cols i hi, encI]
        refine ⟨fun hc => ?_, fun hc => ?_⟩
        · have hx := idx_hit (p := fun c => decide (col = c)) hi h3 (by simp [hc])
          by_cases hr : i < row.length
          · have hr' : ((i : Int) < (row.length : Int)) = True := by simp; omega
            simp -implicitDefEqProofs only [push_cast, Nat.reduceAdd, Nat.reduceSub, Nat.reduceMul, Nat.reduceLT, Nat.reduceLeDiff, Nat.reduceEqDiff, Nat.reduceBEq, reduceCtorEq, reduceIte, Int.reduceLE, Int.reduceLT, Int.reduceNeg, Int.reduceToNat, hr', hi0, encVs_get row i hr]
            (try simp -implicitDefEqProofs only [push_cast, Nat.reduceAdd, Nat.reduceSub, Nat.reduceMul, Nat.reduceLT, Nat.reduceLeDiff, Nat.reduceEqDiff, Nat.reduceBEq, reduceCtorEq, reduceIte, Int.reduceLE, Int.reduceLT, Int.reduceNeg, Int.reduceToNat])
            have : look cols row col = row[i] := by
              rw [look, hx, if_neg (by omega), Int.toNat_natCast, getD_of hr]
            rw [this]
            exact ⟨rfl, rfl⟩
          · have hr' : ((i : Int) < (row.length : Int)) = False := by simp; omega
            simp -implicitDefEqProofs only [push_cast, Nat.reduceAdd, Nat.reduceSub, Nat.reduceMul, Nat.reduceLT, Nat.reduceLeDiff, Nat.reduceEqDiff, Nat.reduceBEq, reduceCtorEq, reduceIte, Int.reduceLE, Int.reduceLT, Int.reduceNeg, Int.reduceToNat, hr']
            (try simp -implicitDefEqProofs only [push_cast, Nat.reduceAdd, Nat.reduceSub, Nat.reduceMul, Nat.reduceLT, Nat.reduceLeDiff, Nat.reduceEqDiff, Nat.reduceBEq, reduceCtorEq, reduceIte, Int.reduceLE, Int.reduceLT, Int.reduceNeg, Int.reduceToNat])
            have : look cols row col = .bad := by rw [look, hx, if_pos (by omega)]
            rw [this]
            exact ⟨rfl, rfl⟩
        · rw [wrap64 (n := (i : Int) + 1) (by omega) (by omega)]
          refine next_at [some 0, some 1] (i + 1) ⟨by omega, fun j hj hji => ?_⟩ (by omega) rfl ?_ ?_
          · rcases Nat.lt_or_ge j i with h4 | h4
            · simpa using h3 j hj h4
            · obtain rfl : j = i := by omega
              first | exact fun e => hc e.symm | omega
          · (try simp -implicitDefEqProofs only [push_cast, Nat.reduceAdd, Nat.reduceSub, Nat.reduceMul, Nat.reduceLT, Nat.reduceLeDiff, Nat.reduceEqDiff, Nat.reduceBEq, reduceCtorEq, reduceIte, Int.reduceLE, Int.reduceLT, Int.reduceNeg, Int.reduceToNat, encVs_pure, encIs_pure])
          · (try simp -implicitDefEqProofs only [push_cast, Nat.reduceAdd, Nat.reduceSub, Nat.reduceMul, Nat.reduceLT, Nat.reduceLeDiff, Nat.reduceEqDiff, Nat.reduceBEq, reduceCtorEq, reduceIte, Int.reduceLE, Int.reduceLT, Int.reduceNeg, Int.reduceToNat, h1])
      · have hi' : ((i : Int) < (cols.length : Int)) = False := by simp; omega
        simp -implicitDefEqProofs only [push_cast, Nat.reduceAdd, Nat.reduceSub, Nat.reduceMul, Nat.reduceLT, Nat.reduceLeDiff, Nat.reduceEqDiff, Nat.reduceBEq, reduceCtorEq, reduceIte, Int.reduceLE, Int.reduceLT, Int.reduceNeg, Int.reduceToNat, hi']
        (try simp -implicitDefEqProofs only [push_cast, Nat.reduceAdd, Nat.reduceSub, Nat.reduceMul, Nat.reduceLT, Nat.reduceLeDiff, Nat.reduceEqDiff, Nat.reduceBEq, reduceCtorEq, reduceIte, Int.reduceLE, Int.reduceLT, Int.reduceNeg, Int.reduceToNat])
        have hx := idx_miss (p := fun c => decide (col = c)) (l := cols) fun j hj => h3 j hj (by omega)
        have : look cols row col = .bad := by rw [look, hx, if_pos (by omega)]
        rw [this]
        exact ⟨rfl, rfl⟩
  have hev : evalR cols row (Ex.mk op col k n l) = Vl.wayR op (l.map (evalR cols row)) := by rw [evalR, if_neg h0, if_neg h1, evalRL_eq]
  rw [hev]
  simp -implicitDefEqProofs only [push_cast, Nat.reduceAdd, Nat.reduceSub, Nat.reduceMul, Nat.reduceLT, Nat.reduceLeDiff, Nat.reduceEqDiff, Nat.reduceBEq, reduceCtorEq, reduceIte, Int.reduceLE, Int.reduceLT, Int.reduceNeg, Int.reduceToNat, h0, h1]
  refine loop_ex hs (σ := Nat) (τ := Unit) (fun i => i ≤ l.length) (fun i => l.length - i)
    (fun i => [(9, .int i), (8, .rsl (H.nxt + 2) 2 0 i), (1, .sl (cols.map encI)), (2, .sl (row.map encV)), (3, .ptr (H.nxt + 0) 5 0 0), (6, .ptr (H.nxt + 1) 2 0 0)])
    (fun i => [some (.cells 5 [encE (.mk op col k n l)] 0), some (.cells 2 [[.int 0, .int 0]] 0), some (.cells 2 (((l.take i).map (evalR cols row)).map encV) 0)]) [some 0, some 1, none] 0
    2 (fun _ => True) (fun _ => [(8, .sl ((l.map (evalR cols row)).map encV)), (3, .ptr (H.nxt + 0) 5 0 0), (6, .ptr (H.nxt + 1) 2 0 0)]) (fun _ => [some (.cells 5 [encE (.mk op col k n l)] 0), some (.cells 2 [[.int 0, .int 0]] 0)]) (by omega) rfl ?_ ?_ ?_ ?_
  · (try simp -implicitDefEqProofs only [push_cast, Nat.reduceAdd, Nat.reduceSub, Nat.reduceMul, Nat.reduceLT, Nat.reduceLeDiff, Nat.reduceEqDiff, Nat.reduceBEq, reduceCtorEq, reduceIte, Int.reduceLE, Int.reduceLT, Int.reduceNeg, Int.reduceToNat, encEs_pure, encVs_pure, encIs_pure])
  · (try simp -implicitDefEqProofs only [push_cast, Nat.reduceAdd, Nat.reduceSub, Nat.reduceMul, Nat.reduceLT, Nat.reduceLeDiff, Nat.reduceEqDiff, Nat.reduceBEq, reduceCtorEq, reduceIte, Int.reduceLE, Int.reduceLT, Int.reduceNeg, Int.reduceToNat, encEs_pure, List.map_nil, List.take_zero])
  · intro i hi2
    by_cases hi : i < l.length
    · have hi' : ((i : Int) < (l.length : Int)) = True := by simp; omega
      have hi0 : (0 ≤ (i : Int)) = True := by simp
      have hc := ih _ (List.getElem_mem hi) (hlo _ (List.getElem_mem hi)) (hfl _ (List.getElem_mem hi))
      simp -implicitDefEqProofs only [push_cast, Nat.reduceAdd, Nat.reduceSub, Nat.reduceMul, Nat.reduceLT, Nat.reduceLeDiff, Nat.reduceEqDiff, Nat.reduceBEq, reduceCtorEq, reduceIte, Int.reduceLE, Int.reduceLT, Int.reduceNeg, Int.reduceToNat, hi', hi0, encEs_get l i hi]
      refine callq hc ?_
      simp -implicitDefEqProofs only [push_cast, Nat.reduceAdd, Nat.reduceSub, Nat.reduceMul, Nat.reduceLT, Nat.reduceLeDiff, Nat.reduceEqDiff, Nat.reduceBEq, reduceCtorEq, reduceIte, Int.reduceLE, Int.reduceLT, Int.reduceNeg, Int.reduceToNat]
      refine ⟨by rw [List.length_take]; omega, ?_⟩
      rw [wrap64 (n := (i : Int) + 1) (by omega) (by omega)]
      refine next_at [some 0, some 1, some 4] (i + 1) (by omega) (by omega) rfl ?_ ?_
      · (try simp -implicitDefEqProofs only [push_cast, Nat.reduceAdd, Nat.reduceSub, Nat.reduceMul, Nat.reduceLT, Nat.reduceLeDiff, Nat.reduceEqDiff, Nat.reduceBEq, reduceCtorEq, reduceIte, Int.reduceLE, Int.reduceLT, Int.reduceNeg, Int.reduceToNat, encEs_pure, encVs_pure, encIs_pure])
      · (try simp -implicitDefEqProofs only [push_cast, Nat.reduceAdd, Nat.reduceSub, Nat.reduceMul, Nat.reduceLT, Nat.reduceLeDiff, Nat.reduceEqDiff, Nat.reduceBEq, reduceCtorEq, reduceIte, Int.reduceLE, Int.reduceLT, Int.reduceNeg, Int.reduceToNat, encEs_pure, takeV _ _ (Nat.le_of_eq (show ((l.take i).map (evalR cols row)).length = i by simp; omega)), snocV, take_snoc _ _ _ hi, encVs_pure, encVs_len])
    · have hi' : ((i : Int) < (l.length : Int)) = False := by simp; omega
      obtain rfl : i = l.length := by omega
      simp -implicitDefEqProofs only [push_cast, Nat.reduceAdd, Nat.reduceSub, Nat.reduceMul, Nat.reduceLT, Nat.reduceLeDiff, Nat.reduceEqDiff, Nat.reduceBEq, reduceCtorEq, reduceIte, Int.reduceLE, Int.reduceLT, Int.reduceNeg, Int.reduceToNat, hi']
      refine exit_at [some 0, some 1] () trivial rfl ?_ ?_
      · (try simp -implicitDefEqProofs only [push_cast, Nat.reduceAdd, Nat.reduceSub, Nat.reduceMul, Nat.reduceLT, Nat.reduceLeDiff, Nat.reduceEqDiff, Nat.reduceBEq, reduceCtorEq, reduceIte, Int.reduceLE, Int.reduceLT, Int.reduceNeg, Int.reduceToNat, List.take_length, takeV _ _ (Nat.le_of_eq (List.length_map _)), encVs_pure, List.length_map, Nat.le_refl])
      · (try simp -implicitDefEqProofs only [push_cast, Nat.reduceAdd, Nat.reduceSub, Nat.reduceMul, Nat.reduceLT, Nat.reduceLeDiff, Nat.reduceEqDiff, Nat.reduceBEq, reduceCtorEq, reduceIte, Int.reduceLE, Int.reduceLT, Int.reduceNeg, Int.reduceToNat])
  · intro _ _
    have hvl : (l.map (evalR cols row)).length = l.length := List.length_map _
    generalize l.map (evalR cols row) = vs at hvl ⊢
    simp -implicitDefEqProofs only [push_cast, Nat.reduceAdd, Nat.reduceSub, Nat.reduceMul, Nat.reduceLT, Nat.reduceLeDiff, Nat.reduceEqDiff, Nat.reduceBEq, reduceCtorEq, reduceIte, Int.reduceLE, Int.reduceLT, Int.reduceNeg, Int.reduceToNat]
    by_cases q2 : op = 2
    · subst q2
      have hlo2 : 2 ≤ vs.length := by rw [hvl]; simp [wayLo] at hpa; omega
      have e1 : Vl.wayR 2 vs = (vs.getD 0 .bad).reckonR (vs.getD 1 .bad) addR := rfl
      have p0 : ((0 : Int) < (vs.length : Int)) = True := by simp; omega
      have p1 : ((1 : Int) < (vs.length : Int)) = True := by simp; omega
      rw [e1, getD_of (by omega), getD_of (by omega)]
      simp -implicitDefEqProofs only [push_cast, Nat.reduceAdd, Nat.reduceSub, Nat.reduceMul, Nat.reduceLT, Nat.reduceLeDiff, Nat.reduceEqDiff, Nat.reduceBEq, reduceCtorEq, reduceIte, Int.reduceLE, Int.reduceLT, Int.reduceNeg, Int.reduceToNat]
      refine areg_at 7 (by kernel_rfl) (by kernel_rfl) ?_
      simp -implicitDefEqProofs only [push_cast, Nat.reduceAdd, Nat.reduceSub, Nat.reduceMul, Nat.reduceLT, Nat.reduceLeDiff, Nat.reduceEqDiff, Nat.reduceBEq, reduceCtorEq, reduceIte, Int.reduceLE, Int.reduceLT, Int.reduceNeg, Int.reduceToNat, p0, p1, encVs_get vs 0 (by omega), encVs_get vs 1 (by omega)]
      refine ahdq (addR_ok _ _) ?_
      simp -implicitDefEqProofs only [push_cast, Nat.reduceAdd, Nat.reduceSub, Nat.reduceMul, Nat.reduceLT, Nat.reduceLeDiff, Nat.reduceEqDiff, Nat.reduceBEq, reduceCtorEq, reduceIte, Int.reduceLE, Int.reduceLT, Int.reduceNeg, Int.reduceToNat]
      (try simp -implicitDefEqProofs only [push_cast, Nat.reduceAdd, Nat.reduceSub, Nat.reduceMul, Nat.reduceLT, Nat.reduceLeDiff, Nat.reduceEqDiff, Nat.reduceBEq, reduceCtorEq, reduceIte, Int.reduceLE, Int.reduceLT, Int.reduceNeg, Int.reduceToNat])
    by_cases q3 : op = 3
    · subst q3
      have hlo2 : 2 ≤ vs.length := by rw [hvl]; simp [wayLo] at hpa; omega
      have e1 : Vl.wayR 3 vs = (vs.getD 0 .bad).reckonR (vs.getD 1 .bad) subR := rfl
      have p0 : ((0 : Int) < (vs.length : Int)) = True := by simp; omega
      have p1 : ((1 : Int) < (vs.length : Int)) = True := by simp; omega
      rw [e1, getD_of (by omega), getD_of (by omega)]
      simp -implicitDefEqProofs only [push_cast, Nat.reduceAdd, Nat.reduceSub, Nat.reduceMul, Nat.reduceLT, Nat.reduceLeDiff, Nat.reduceEqDiff, Nat.reduceBEq, reduceCtorEq, reduceIte, Int.reduceLE, Int.reduceLT, Int.reduceNeg, Int.reduceToNat, show ((3 : Int) = 2) = False from by simp]
      refine areg_at 7 (by kernel_rfl) (by kernel_rfl) ?_
      simp -implicitDefEqProofs only [push_cast, Nat.reduceAdd, Nat.reduceSub, Nat.reduceMul, Nat.reduceLT, Nat.reduceLeDiff, Nat.reduceEqDiff, Nat.reduceBEq, reduceCtorEq, reduceIte, Int.reduceLE, Int.reduceLT, Int.reduceNeg, Int.reduceToNat, p0, p1, encVs_get vs 0 (by omega), encVs_get vs 1 (by omega)]
      refine ahdq (subR_ok _ _) ?_
      simp -implicitDefEqProofs only [push_cast, Nat.reduceAdd, Nat.reduceSub, Nat.reduceMul, Nat.reduceLT, Nat.reduceLeDiff, Nat.reduceEqDiff, Nat.reduceBEq, reduceCtorEq, reduceIte, Int.reduceLE, Int.reduceLT, Int.reduceNeg, Int.reduceToNat]
      (try simp -implicitDefEqProofs only [push_cast, Nat.reduceAdd, Nat.reduceSub, Nat.reduceMul, Nat.reduceLT, Nat.reduceLeDiff, Nat.reduceEqDiff, Nat.reduceBEq, reduceCtorEq, reduceIte, Int.reduceLE, Int.reduceLT, Int.reduceNeg, Int.reduceToNat])
    by_cases q4 : op = 4
    · subst q4
      have hlo2 : 2 ≤ vs.length := by rw [hvl]; simp [wayLo] at hpa; omega
      have e1 : Vl.wayR 4 vs = (vs.getD 0 .bad).reckonR (vs.getD 1 .bad) mulR := rfl
      have p0 : ((0 : Int) < (vs.length : Int)) = True := by simp; omega
      have p1 : ((1 : Int) < (vs.length : Int)) = True := by simp; omega
      rw [e1, getD_of (by omega), getD_of (by omega)]
      simp -implicitDefEqProofs only [push_cast, Nat.reduceAdd, Nat.reduceSub, Nat.reduceMul, Nat.reduceLT, Nat.reduceLeDiff, Nat.reduceEqDiff, Nat.reduceBEq, reduceCtorEq, reduceIte, Int.reduceLE, Int.reduceLT, Int.reduceNeg, Int.reduceToNat, show ((4 : Int) = 2) = False from by simp, show ((4 : Int) = 3) = False from by simp]
      refine areg_at 7 (by kernel_rfl) (by kernel_rfl) ?_
      simp -implicitDefEqProofs only [push_cast, Nat.reduceAdd, Nat.reduceSub, Nat.reduceMul, Nat.reduceLT, Nat.reduceLeDiff, Nat.reduceEqDiff, Nat.reduceBEq, reduceCtorEq, reduceIte, Int.reduceLE, Int.reduceLT, Int.reduceNeg, Int.reduceToNat, p0, p1, encVs_get vs 0 (by omega), encVs_get vs 1 (by omega)]
      refine ahdq (mulR_ok _ _) ?_
      simp -implicitDefEqProofs only [push_cast, Nat.reduceAdd, Nat.reduceSub, Nat.reduceMul, Nat.reduceLT, Nat.reduceLeDiff, Nat.reduceEqDiff, Nat.reduceBEq, reduceCtorEq, reduceIte, Int.reduceLE, Int.reduceLT, Int.reduceNeg, Int.reduceToNat]
      (try simp -implicitDefEqProofs only [push_cast, Nat.reduceAdd, Nat.reduceSub, Nat.reduceMul, Nat.reduceLT, Nat.reduceLeDiff, Nat.reduceEqDiff, Nat.reduceBEq, reduceCtorEq, reduceIte, Int.reduceLE, Int.reduceLT, Int.reduceNeg, Int.reduceToNat])
    by_cases q5 : op = 5
    · subst q5
      have hlo2 : 2 ≤ vs.length := by rw [hvl]; simp [wayLo] at hpa; omega
      have e1 : Vl.wayR 5 vs = (vs.getD 0 .bad).reckonR (vs.getD 1 .bad) divR := rfl
      have p0 : ((0 : Int) < (vs.length : Int)) = True := by simp; omega
      have p1 : ((1 : Int) < (vs.length : Int)) = True := by simp; omega
      rw [e1, getD_of (by omega), getD_of (by omega)]
      simp -implicitDefEqProofs only [push_cast, Nat.reduceAdd, Nat.reduceSub, Nat.reduceMul, Nat.reduceLT, Nat.reduceLeDiff, Nat.reduceEqDiff, Nat.reduceBEq, reduceCtorEq, reduceIte, Int.reduceLE, Int.reduceLT, Int.reduceNeg, Int.reduceToNat, show ((5 : Int) = 2) = False from by simp, show ((5 : Int) = 3) = False from by simp, show ((5 : Int) = 4) = False from by simp]
      refine areg_at 7 (by kernel_rfl) (by kernel_rfl) ?_
      simp -implicitDefEqProofs only [push_cast, Nat.reduceAdd, Nat.reduceSub, Nat.reduceMul, Nat.reduceLT, Nat.reduceLeDiff, Nat.reduceEqDiff, Nat.reduceBEq, reduceCtorEq, reduceIte, Int.reduceLE, Int.reduceLT, Int.reduceNeg, Int.reduceToNat, p0, p1, encVs_get vs 0 (by omega), encVs_get vs 1 (by omega)]
      refine ahdq (divR_ok _ _) ?_
      simp -implicitDefEqProofs only [push_cast, Nat.reduceAdd, Nat.reduceSub, Nat.reduceMul, Nat.reduceLT, Nat.reduceLeDiff, Nat.reduceEqDiff, Nat.reduceBEq, reduceCtorEq, reduceIte, Int.reduceLE, Int.reduceLT, Int.reduceNeg, Int.reduceToNat]
      (try simp -implicitDefEqProofs only [push_cast, Nat.reduceAdd, Nat.reduceSub, Nat.reduceMul, Nat.reduceLT, Nat.reduceLeDiff, Nat.reduceEqDiff, Nat.reduceBEq, reduceCtorEq, reduceIte, Int.reduceLE, Int.reduceLT, Int.reduceNeg, Int.reduceToNat])
    by_cases q6 : op = 6
    · subst q6
      have hlo2 : 2 ≤ vs.length := by rw [hvl]; simp [wayLo] at hpa; omega
      have e1 : Vl.wayR 6 vs = (vs.getD 0 .bad).eqR (vs.getD 1 .bad) := rfl
      have p0 : ((0 : Int) < (vs.length : Int)) = True := by simp; omega
      have p1 : ((1 : Int) < (vs.length : Int)) = True := by simp; omega
      rw [e1, getD_of (by omega), getD_of (by omega)]
      simp -implicitDefEqProofs only [push_cast, Nat.reduceAdd, Nat.reduceSub, Nat.reduceMul, Nat.reduceLT, Nat.reduceLeDiff, Nat.reduceEqDiff, Nat.reduceBEq, reduceCtorEq, reduceIte, Int.reduceLE, Int.reduceLT, Int.reduceNeg, Int.reduceToNat, show ((6 : Int) = 2) = False from by simp, show ((6 : Int) = 3) = False from by simp, show ((6 : Int) = 4) = False from by simp, show ((6 : Int) = 5) = False from by simp]
      refine areg_at 7 (by kernel_rfl) (by kernel_rfl) ?_
      simp -implicitDefEqProofs only [push_cast, Nat.reduceAdd, Nat.reduceSub, Nat.reduceMul, Nat.reduceLT, Nat.reduceLeDiff, Nat.reduceEqDiff, Nat.reduceBEq, reduceCtorEq, reduceIte, Int.reduceLE, Int.reduceLT, Int.reduceNeg, Int.reduceToNat, p0, p1, encVs_get vs 0 (by omega), encVs_get vs 1 (by omega)]
      refine ahdq (eqR_ok _ _) ?_
      simp -implicitDefEqProofs only [push_cast, Nat.reduceAdd, Nat.reduceSub, Nat.reduceMul, Nat.reduceLT, Nat.reduceLeDiff, Nat.reduceEqDiff, Nat.reduceBEq, reduceCtorEq, reduceIte, Int.reduceLE, Int.reduceLT, Int.reduceNeg, Int.reduceToNat]
      (try simp -implicitDefEqProofs only [push_cast, Nat.reduceAdd, Nat.reduceSub, Nat.reduceMul, Nat.reduceLT, Nat.reduceLeDiff, Nat.reduceEqDiff, Nat.reduceBEq, reduceCtorEq, reduceIte, Int.reduceLE, Int.reduceLT, Int.reduceNeg, Int.reduceToNat])
    by_cases q7 : op = 7
    · subst q7
      have hlo2 : 2 ≤ vs.length := by rw [hvl]; simp [wayLo] at hpa; omega
      have e1 : Vl.wayR 7 vs = (vs.getD 0 .bad).ltR (vs.getD 1 .bad) := rfl
      have p0 : ((0 : Int) < (vs.length : Int)) = True := by simp; omega
      have p1 : ((1 : Int) < (vs.length : Int)) = True := by simp; omega
      rw [e1, getD_of (by omega), getD_of (by omega)]
      simp -implicitDefEqProofs only [push_cast, Nat.reduceAdd, Nat.reduceSub, Nat.reduceMul, Nat.reduceLT, Nat.reduceLeDiff, Nat.reduceEqDiff, Nat.reduceBEq, reduceCtorEq, reduceIte, Int.reduceLE, Int.reduceLT, Int.reduceNeg, Int.reduceToNat, show ((7 : Int) = 2) = False from by simp, show ((7 : Int) = 3) = False from by simp, show ((7 : Int) = 4) = False from by simp, show ((7 : Int) = 5) = False from by simp, show ((7 : Int) = 6) = False from by simp]
      refine areg_at 7 (by kernel_rfl) (by kernel_rfl) ?_
      simp -implicitDefEqProofs only [push_cast, Nat.reduceAdd, Nat.reduceSub, Nat.reduceMul, Nat.reduceLT, Nat.reduceLeDiff, Nat.reduceEqDiff, Nat.reduceBEq, reduceCtorEq, reduceIte, Int.reduceLE, Int.reduceLT, Int.reduceNeg, Int.reduceToNat, p0, p1, encVs_get vs 0 (by omega), encVs_get vs 1 (by omega)]
      refine ahdq (ltR_ok _ _) ?_
      simp -implicitDefEqProofs only [push_cast, Nat.reduceAdd, Nat.reduceSub, Nat.reduceMul, Nat.reduceLT, Nat.reduceLeDiff, Nat.reduceEqDiff, Nat.reduceBEq, reduceCtorEq, reduceIte, Int.reduceLE, Int.reduceLT, Int.reduceNeg, Int.reduceToNat]
      (try simp -implicitDefEqProofs only [push_cast, Nat.reduceAdd, Nat.reduceSub, Nat.reduceMul, Nat.reduceLT, Nat.reduceLeDiff, Nat.reduceEqDiff, Nat.reduceBEq, reduceCtorEq, reduceIte, Int.reduceLE, Int.reduceLT, Int.reduceNeg, Int.reduceToNat])
    by_cases q8 : op = 8
    · subst q8
      simp -implicitDefEqProofs only [push_cast, Nat.reduceAdd, Nat.reduceSub, Nat.reduceMul, Nat.reduceLT, Nat.reduceLeDiff, Nat.reduceEqDiff, Nat.reduceBEq, reduceCtorEq, reduceIte, Int.reduceLE, Int.reduceLT, Int.reduceNeg, Int.reduceToNat, show ((8 : Int) = 2) = False from by simp, show ((8 : Int) = 3) = False from by simp, show ((8 : Int) = 4) = False from by simp, show ((8 : Int) = 5) = False from by simp, show ((8 : Int) = 6) = False from by simp, show ((8 : Int) = 7) = False from by simp]
      refine callq (andR_ok vs (by omega)) ?_
      simp -implicitDefEqProofs only [push_cast, Nat.reduceAdd, Nat.reduceSub, Nat.reduceMul, Nat.reduceLT, Nat.reduceLeDiff, Nat.reduceEqDiff, Nat.reduceBEq, reduceCtorEq, reduceIte, Int.reduceLE, Int.reduceLT, Int.reduceNeg, Int.reduceToNat]
      (try simp -implicitDefEqProofs only [push_cast, Nat.reduceAdd, Nat.reduceSub, Nat.reduceMul, Nat.reduceLT, Nat.reduceLeDiff, Nat.reduceEqDiff, Nat.reduceBEq, reduceCtorEq, reduceIte, Int.reduceLE, Int.reduceLT, Int.reduceNeg, Int.reduceToNat])
      exact ⟨rfl, rfl⟩
    by_cases q9 : op = 9
    · subst q9
      simp -implicitDefEqProofs only [push_cast, Nat.reduceAdd, Nat.reduceSub, Nat.reduceMul, Nat.reduceLT, Nat.reduceLeDiff, Nat.reduceEqDiff, Nat.reduceBEq, reduceCtorEq, reduceIte, Int.reduceLE, Int.reduceLT, Int.reduceNeg, Int.reduceToNat, show ((9 : Int) = 2) = False from by simp, show ((9 : Int) = 3) = False from by simp, show ((9 : Int) = 4) = False from by simp, show ((9 : Int) = 5) = False from by simp, show ((9 : Int) = 6) = False from by simp, show ((9 : Int) = 7) = False from by simp, show ((9 : Int) = 8) = False from by simp]
      refine callq (orR_ok vs (by omega)) ?_
      simp -implicitDefEqProofs only [push_cast, Nat.reduceAdd, Nat.reduceSub, Nat.reduceMul, Nat.reduceLT, Nat.reduceLeDiff, Nat.reduceEqDiff, Nat.reduceBEq, reduceCtorEq, reduceIte, Int.reduceLE, Int.reduceLT, Int.reduceNeg, Int.reduceToNat]
      (try simp -implicitDefEqProofs only [push_cast, Nat.reduceAdd, Nat.reduceSub, Nat.reduceMul, Nat.reduceLT, Nat.reduceLeDiff, Nat.reduceEqDiff, Nat.reduceBEq, reduceCtorEq, reduceIte, Int.reduceLE, Int.reduceLT, Int.reduceNeg, Int.reduceToNat])
      exact ⟨rfl, rfl⟩
    obtain rfl : op = 10 := by omega
    have hlo1 : 1 ≤ vs.length := by rw [hvl]; simp [wayLo] at hpa; omega
    have p0 : ((0 : Int) < (vs.length : Int)) = True := by simp; omega
    have e1 : Vl.wayR 10 vs = (vs.getD 0 .bad).notR := rfl
    rw [e1, getD_of (by omega)]
    simp -implicitDefEqProofs only [push_cast, Nat.reduceAdd, Nat.reduceSub, Nat.reduceMul, Nat.reduceLT, Nat.reduceLeDiff, Nat.reduceEqDiff, Nat.reduceBEq, reduceCtorEq, reduceIte, Int.reduceLE, Int.reduceLT, Int.reduceNeg, Int.reduceToNat, p0, encVs_get vs 0 (by omega), show ((10 : Int) = 2) = False from by simp, show ((10 : Int) = 3) = False from by simp, show ((10 : Int) = 4) = False from by simp, show ((10 : Int) = 5) = False from by simp, show ((10 : Int) = 6) = False from by simp, show ((10 : Int) = 7) = False from by simp, show ((10 : Int) = 8) = False from by simp, show ((10 : Int) = 9) = False from by simp]
    refine callq (notR_ok _) ?_
    simp -implicitDefEqProofs only [push_cast, Nat.reduceAdd, Nat.reduceSub, Nat.reduceMul, Nat.reduceLT, Nat.reduceLeDiff, Nat.reduceEqDiff, Nat.reduceBEq, reduceCtorEq, reduceIte, Int.reduceLE, Int.reduceLT, Int.reduceNeg, Int.reduceToNat]
    (try simp -implicitDefEqProofs only [push_cast, Nat.reduceAdd, Nat.reduceSub, Nat.reduceMul, Nat.reduceLT, Nat.reduceLeDiff, Nat.reduceEqDiff, Nat.reduceBEq, reduceCtorEq, reduceIte, Int.reduceLE, Int.reduceLT, Int.reduceNeg, Int.reduceToNat])
end Go.Sim.Tryz
