/- What package expr does. Conditions: none. -/
import Derived.Test.YtnoajklojkmonaaGreatSimVal2
set_option linter.unusedSimpArgs false
set_option linter.unusedVariables false
set_option maxRecDepth 100000
namespace Go.Sim.Tryz
open Go Go.Sim
attribute [local push_cast] aops_cons aops_nil aopG_none aopG_some aopP_eq aopE_eq aopC_eq aopE?_eq aopC?_eq gopP_eq gopL_eq ahead_cons ahead_nil ahdG_none ahdG_some ahdP_eq ahdN_eq ahdC_eq ahdN?_eq ahdS_eq ahdS?_eq astoreN ahdC?_eq ghdP_eq ghdC_eq ghdC?_eq ghdZ_eq opt_some opt_none no_eq acondT_true acondT_false acondT_lit aw_skip aw_region aw_regionD aw_seq aw_cond aw_block aw_loop aw_exit aw_label aw_ret thn_normal thn_exit thn_ret inb_normal inb_exit inb_ret qret_ret qret_normal gcond apure aeff anew acallee ares aresT aresL aresC ares1 qfin_eq ev ofV evL gokL tget tput_some tput_none initT abin aint aun aload afaddr aiaddr afield aindex aextract apick pickv_lit Bool.or_false Bool.false_or Bool.or_true Bool.true_or imp_self aslice abound aconv abuild afill splice alen aminmax abuiltin anil apart Value.oneCell' astore aappend srcEs abuildSlice asets isEq plus_obj plus_nxt plus_add plus_set plus_del IntKind.bits Option.map_some Option.map_none Option.bind_some Option.bind_none Option.join_some Option.getD_some Option.getD_none Option.toList Option.isSome_some List.getElem?_toArray List.getElem?_cons_zero List.getElem?_cons_succ List.getElem?_nil List.length_cons List.length_nil List.length_map List.head?_cons List.cons_append List.nil_append List.append_nil List.map_cons List.map_nil List.getD_cons_zero List.getD_cons_succ List.replicate_succ List.replicate_zero List.set_cons_zero List.set_cons_succ List.take_succ_cons List.take_zero List.drop_succ_cons List.drop_zero List.all_cons List.all_nil Nat.zero_add if_true if_false true_and and_true false_and and_false true_implies implies_true forall_const Bool.and_true Bool.true_and Bool.false_and Bool.and_false Bool.true_beq Bool.false_beq Bool.not_not beq_tt beq_ff Int.toNat_natCast decide_true decide_false Bool.not_true Bool.not_false Bool.true_eq_false Bool.false_eq_true false_implies exists_prop eq_self bne_self_eq_false beq_self_eq_true decide_eq_true_eq decide_eq_false_iff_not Bool.not_eq_true' Bool.not_eq_false' AV.int AV.bool AV.nilS ne_eq not_false_eq_true not_true_eq_false exists_eq_left exists_eq_left' Nat.lt_irrefl core_lit grd_lit acells_lit one_lit core_agg grd_agg acells_agg one_agg core_tup grd_tup acells_tup one_tup core_sl grd_sl acells_sl one_sl core_esl grd_esl acells_esl one_esl core_rsl grd_rsl acells_rsl one_rsl core_ptr grd_ptr acells_ptr one_ptr core_iptr grd_iptr acells_iptr one_iptr core_clo grd_clo acells_clo one_clo core_mp grd_mp acells_mp one_mp core_any grd_any acells_any one_any core_gv grd_gv fit_agg fit_lit fit_sl fit_esl fit_rsl fit_ptr fit_iptr fit_clo fit_mp retq_ret retq_normal set_nxt set_set plus_obj_set plus_set_set app_get0 app_get app_set0 app_set List.append_assoc List.length_append List.length_set Nat.lt_add_one Nat.add_lt_add_iff_right Nat.lt_add_right_iff_pos Nat.add_lt_add_iff_left List.mem_cons List.not_mem_nil or_false forall_eq forall_eq_or_imp lt_s0 lt_s1 lt_s2 lt_s3 lt_s4 lt_s5 lt_s6 lt_s7 lt_s8 pickv_t pickv_f or_nand or_nand2 imp_and_l SealT SealOs sealO_cells sl_lit sl_any sl_agg sl_tup sl_sl sl_rsl slO sl_esl sl_nil sl_eslesl sl_eslnil sl_rslrsl sl_eslrsl sl_nilrsl sl_ptr sl_iptr sl_ptri slP sl_clo sl_mp sl_gv sll_nil sll_cons slll_nil slll_cons shut_eq shutO Option.join_none Fn.func.injEq and_self sealL_self sealLL_self seal_self PureL PureLL Pure Nat.le_refl Nat.zero_le AV.lit.injEq Value.int.injEq Value.bool.injEq false_or or_true true_or Int.natCast_zero Int.ofNat_zero Int.cast_ofNat_Int Int.natCast_add Int.natCast_one Option.some.injEq piL_is sop_nil sop_cons sop_none sop_some sopO_some sop_new shut_pi shutL_nil shutL_cons exQ_exit exQ_ret exQ_normal Go.Sim.Tryz.ty_load1 Go.Sim.Tryz.ty_zero1 Go.Sim.Tryz.ty_load2 Go.Sim.Tryz.ty_zero2 Go.Sim.Tryz.ty_und2 Go.Sim.Tryz.ty_load3 Go.Sim.Tryz.ty_zero3 Go.Sim.Tryz.ty_und3 Go.Sim.Tryz.ty_load4 Go.Sim.Tryz.ty_zero4 Go.Sim.Tryz.ty_und4 Go.Sim.Tryz.ty_load5 Go.Sim.Tryz.ty_zero5 Go.Sim.Tryz.ty_und5 Go.Sim.Tryz.ty_load9 Go.Sim.Tryz.ty_zero9 Go.Sim.Tryz.ty_und9 Go.Sim.Tryz.ty_load23 Go.Sim.Tryz.ty_zero23 Go.Sim.Tryz.ty_fld23_0 Go.Sim.Tryz.ty_part23_0 Go.Sim.Tryz.ty_fld23_1 Go.Sim.Tryz.ty_part23_1 Go.Sim.Tryz.ty_struct23 Go.Sim.Tryz.ty_load24 Go.Sim.Tryz.ty_zero24 Go.Sim.Tryz.ty_el24 Go.Sim.Tryz.ty_zeroE24 Go.Sim.Tryz.ty_load26 Go.Sim.Tryz.ty_zero26 Go.Sim.Tryz.ty_fld26_0 Go.Sim.Tryz.ty_part26_0 Go.Sim.Tryz.ty_fld26_1 Go.Sim.Tryz.ty_part26_1 Go.Sim.Tryz.ty_fld26_2 Go.Sim.Tryz.ty_part26_2 Go.Sim.Tryz.ty_fld26_3 Go.Sim.Tryz.ty_part26_3 Go.Sim.Tryz.ty_struct26 Go.Sim.Tryz.ty_load27 Go.Sim.Tryz.ty_zero27 Go.Sim.Tryz.ty_el27 Go.Sim.Tryz.ty_zeroE27 Go.Sim.Tryz.ty_load28 Go.Sim.Tryz.ty_zero28 Go.Sim.Tryz.ty_el28 Go.Sim.Tryz.ty_zeroE28 Go.Sim.Tryz.ty_load30 Go.Sim.Tryz.ty_zero30 Go.Sim.Tryz.ty_load34 Go.Sim.Tryz.ty_zero34 Go.Sim.Tryz.ty_load46 Go.Sim.Tryz.ty_zero46 Go.Sim.Tryz.ty_load49 Go.Sim.Tryz.ty_zero49 Go.Sim.Tryz.ty_fld49_0 Go.Sim.Tryz.ty_part49_0 Go.Sim.Tryz.ty_fld49_1 Go.Sim.Tryz.ty_part49_1 Go.Sim.Tryz.ty_fld49_2 Go.Sim.Tryz.ty_part49_2 Go.Sim.Tryz.ty_struct49 Go.Sim.Tryz.ty_load54 Go.Sim.Tryz.ty_zero54 Go.Sim.Tryz.ty_und54 Go.Sim.Tryz.ty_load56 Go.Sim.Tryz.ty_zero56 Go.Sim.Tryz.ty_load61 Go.Sim.Tryz.ty_zero61 Go.Sim.Tryz.ty_und61 Go.Sim.Tryz.ty_load69 Go.Sim.Tryz.ty_zero69 Go.Sim.Tryz.ty_und69 Go.Sim.Tryz.ty_load71 Go.Sim.Tryz.ty_zero71 Go.Sim.Tryz.ty_und71 Go.Sim.Tryz.ty_load77 Go.Sim.Tryz.ty_zero77 Go.Sim.Tryz.ty_load84 Go.Sim.Tryz.ty_zero84 Go.Sim.Tryz.ty_und84 Go.Sim.Tryz.ty_load88 Go.Sim.Tryz.ty_zero88 encE_mk encE_take encE_len encV encE_one encEs_pure encE_pure

/-- What stands for a way of two. -/
def cloTwo (k : Nat) : AV := .clo (.func 79) [] [.iptr [.clo (.func k) [] []]]
theorem two_ok (k : Nat) : Quiet Go.Proofs.Tryz.prog 51 [.clo (.func k) [] []] (.agg [.int 2, .int 2, cloTwo k]) := by
  refine quiet_of (rs := #[.cell 2 49]) Go.Proofs.Tryz.func51 rfl rfl rfl mixed rfl rfl fun H hs => ?_
  simp -implicitDefEqProofs only [push_cast, Nat.reduceAdd, Nat.reduceSub, Nat.reduceMul, Nat.reduceLT, Nat.reduceLeDiff, Nat.reduceEqDiff, Nat.reduceBEq, reduceCtorEq, reduceIte, Int.reduceLE, Int.reduceLT, Int.reduceNeg, Int.reduceToNat]
  (try simp -implicitDefEqProofs only [push_cast, Nat.reduceAdd, Nat.reduceSub, Nat.reduceMul, Nat.reduceLT, Nat.reduceLeDiff, Nat.reduceEqDiff, Nat.reduceBEq, reduceCtorEq, reduceIte, Int.reduceLE, Int.reduceLT, Int.reduceNeg, Int.reduceToNat, cloTwo])
theorem two1_ok (k : Nat) (l : List Vl) (h2 : 2 ≤ l.length) (r : Vl) (hk : Quiet Go.Proofs.Tryz.prog k [.agg (encV l[0]), .agg (encV l[1])] (.agg (encV r))) :
    Quiet Go.Proofs.Tryz.prog 79 [.sl (l.map encV), .iptr [.clo (.func k) [] []]] (.agg (encV r)) := by
  refine quiet_of (rs := #[.cell 3 23]) Go.Proofs.Tryz.func79 rfl rfl rfl mixed rfl rfl fun H hs => ?_
  have h0' : ((0 : Int) < (l.length : Int)) = True := by simp; omega
  have h1' : ((1 : Int) < (l.length : Int)) = True := by simp; omega
  simp -implicitDefEqProofs only [push_cast, Nat.reduceAdd, Nat.reduceSub, Nat.reduceMul, Nat.reduceLT, Nat.reduceLeDiff, Nat.reduceEqDiff, Nat.reduceBEq, reduceCtorEq, reduceIte, Int.reduceLE, Int.reduceLT, Int.reduceNeg, Int.reduceToNat]
  refine areg_at 8 (by kernel_rfl) (by kernel_rfl) ?_
  simp -implicitDefEqProofs only [push_cast, Nat.reduceAdd, Nat.reduceSub, Nat.reduceMul, Nat.reduceLT, Nat.reduceLeDiff, Nat.reduceEqDiff, Nat.reduceBEq, reduceCtorEq, reduceIte, Int.reduceLE, Int.reduceLT, Int.reduceNeg, Int.reduceToNat, h0', h1', encVs_get l 0 (by omega), encVs_get l 1 (by omega)]
  refine ahdq hk ?_
  simp -implicitDefEqProofs only [push_cast, Nat.reduceAdd, Nat.reduceSub, Nat.reduceMul, Nat.reduceLT, Nat.reduceLeDiff, Nat.reduceEqDiff, Nat.reduceBEq, reduceCtorEq, reduceIte, Int.reduceLE, Int.reduceLT, Int.reduceNeg, Int.reduceToNat]
  (try simp -implicitDefEqProofs only [push_cast, Nat.reduceAdd, Nat.reduceSub, Nat.reduceMul, Nat.reduceLT, Nat.reduceLeDiff, Nat.reduceEqDiff, Nat.reduceBEq, reduceCtorEq, reduceIte, Int.reduceLE, Int.reduceLT, Int.reduceNeg, Int.reduceToNat])
def wayLo (op : Int) : Int := if 2 ≤ op ∧ op ≤ 7 then 2 else if op = 10 then 1 else 0
def wayHi (op : Int) : Int := if 2 ≤ op ∧ op ≤ 7 then 2 else if op = 8 ∨ op = 9 then 4 else if op = 10 then 1 else 0
def wayF (op : Int) : AV :=
  if op = 2 then cloTwo 52 else if op = 3 then cloTwo 53 else if op = 4 then cloTwo 54 else if op = 5 then cloTwo 55 else if op = 6 then cloTwo 56 else if op = 7 then cloTwo 57
  else if op = 8 then .clo (.func 58) [] [] else if op = 9 then .clo (.func 60) [] [] else if op = 10 then .clo (.func 62) [] [] else .lit .nilFunc
theorem wayF_pure (op : Int) : Pure (wayF op) := by
  unfold wayF cloTwo
  repeat' split
  all_goals simp [Pure, PureL]
theorem wayF_clo (op : Int) : (wayF op).one = true ∧ (wayF op).fit = true ∧ (wayF op).core = wayF op ∧ (wayF op).grd = true ∧ acells (wayF op) = [wayF op] := by
  unfold wayF cloTwo
  repeat' split
  all_goals exact ⟨rfl, rfl, rfl, rfl, rfl⟩
theorem wayF_one (op : Int) : (wayF op).one = true := (wayF_clo op).1
theorem wayF_fit (op : Int) : (wayF op).fit = true := (wayF_clo op).2.1
theorem wayF_core (op : Int) : (wayF op).core = wayF op := (wayF_clo op).2.2.1
theorem wayF_grd (op : Int) : (wayF op).grd = true := (wayF_clo op).2.2.2.1
theorem wayF_cells (op : Int) : acells (wayF op) = [wayF op] := (wayF_clo op).2.2.2.2
theorem two_shape (k : Nat) : (cloTwo k).one = true ∧ (cloTwo k).fit = true ∧ acells (cloTwo k) = [cloTwo k] ∧ Pure (cloTwo k) := ⟨rfl, rfl, rfl, by simp [cloTwo, Pure, PureL]⟩
theorem ways_ok (op : Int) : Quiet Go.Proofs.Tryz.prog 35 [.int op] (.agg [.int (wayLo op), .int (wayHi op), wayF op]) := by
  refine quiet_of (rs := #[.cell 2 49]) Go.Proofs.Tryz.func35 rfl rfl rfl mixed rfl rfl fun H hs => ?_
  simp -implicitDefEqProofs only [push_cast, Nat.reduceAdd, Nat.reduceSub, Nat.reduceMul, Nat.reduceLT, Nat.reduceLeDiff, Nat.reduceEqDiff, Nat.reduceBEq, reduceCtorEq, reduceIte, Int.reduceLE, Int.reduceLT, Int.reduceNeg, Int.reduceToNat]
  refine ⟨fun h => callq (two_ok _) ?_, fun h => ⟨fun h => callq (two_ok _) ?_, fun h => ⟨fun h => callq (two_ok _) ?_, fun h => ⟨fun h => callq (two_ok _) ?_, fun h => ⟨fun h => callq (two_ok _) ?_, fun h => ⟨fun h => callq (two_ok _) ?_, fun h => ⟨fun h => ?_, fun h => ⟨fun h => ?_, fun h => ⟨fun h => ?_, fun h => ?_⟩⟩⟩⟩⟩⟩⟩⟩⟩
  all_goals (try simp -implicitDefEqProofs only [push_cast, Nat.reduceAdd, Nat.reduceSub, Nat.reduceMul, Nat.reduceLT, Nat.reduceLeDiff, Nat.reduceEqDiff, Nat.reduceBEq, reduceCtorEq, reduceIte, Int.reduceLE, Int.reduceLT, Int.reduceNeg, Int.reduceToNat, two_shape])
  all_goals ((try simp -implicitDefEqProofs only [push_cast, Nat.reduceAdd, Nat.reduceSub, Nat.reduceMul, Nat.reduceLT, Nat.reduceLeDiff, Nat.reduceEqDiff, Nat.reduceBEq, reduceCtorEq, reduceIte, Int.reduceLE, Int.reduceLT, Int.reduceNeg, Int.reduceToNat]))
  all_goals (first | subst h | skip)
  all_goals simp [wayLo, wayHi, wayF, *]
  all_goals first | exact seal_pure _ _ _ (by simp [cloTwo, Pure, PureL]) | exact ⟨by omega, seal_pure _ _ _ (by simp [Pure])⟩
def Vl.way (op : Int) (l : List Vl) : Vl :=
  if op = 2 then (l.getD 0 .bad).reckon (l.getD 1 .bad) addF else if op = 3 then (l.getD 0 .bad).reckon (l.getD 1 .bad) subF else if op = 4 then (l.getD 0 .bad).reckon (l.getD 1 .bad) mulF
  else if op = 5 then (l.getD 0 .bad).reckon (l.getD 1 .bad) divF else if op = 6 then (l.getD 0 .bad).eq (l.getD 1 .bad) else if op = 7 then (l.getD 0 .bad).lt (l.getD 1 .bad)
  else if op = 8 then Vl.and l else if op = 9 then Vl.or l else (l.getD 0 .bad).not

theorem ways1_ok (l : List Vl) (hl : l.length ≤ 140737488355328) : Quiet Go.Proofs.Tryz.prog 58 [.sl (l.map encV)] (.agg (encV (Vl.and l))) := by
  refine quiet_of (rs := #[.cell 2 23]) Go.Proofs.Tryz.func58 rfl rfl rfl mixed rfl rfl fun H hs => ?_
  simp -implicitDefEqProofs only [push_cast, Nat.reduceAdd, Nat.reduceSub, Nat.reduceMul, Nat.reduceLT, Nat.reduceLeDiff, Nat.reduceEqDiff, Nat.reduceBEq, reduceCtorEq, reduceIte, Int.reduceLE, Int.reduceLT, Int.reduceNeg, Int.reduceToNat]
  refine callq (and_ok l hl) ?_
  simp -implicitDefEqProofs only [push_cast, Nat.reduceAdd, Nat.reduceSub, Nat.reduceMul, Nat.reduceLT, Nat.reduceLeDiff, Nat.reduceEqDiff, Nat.reduceBEq, reduceCtorEq, reduceIte, Int.reduceLE, Int.reduceLT, Int.reduceNeg, Int.reduceToNat]
  (try simp -implicitDefEqProofs only [push_cast, Nat.reduceAdd, Nat.reduceSub, Nat.reduceMul, Nat.reduceLT, Nat.reduceLeDiff, Nat.reduceEqDiff, Nat.reduceBEq, reduceCtorEq, reduceIte, Int.reduceLE, Int.reduceLT, Int.reduceNeg, Int.reduceToNat])
theorem ways2_ok (l : List Vl) (hl : l.length ≤ 140737488355328) : Quiet Go.Proofs.Tryz.prog 60 [.sl (l.map encV)] (.agg (encV (Vl.or l))) := by
  refine quiet_of (rs := #[.cell 2 23]) Go.Proofs.Tryz.func60 rfl rfl rfl mixed rfl rfl fun H hs => ?_
  simp -implicitDefEqProofs only [push_cast, Nat.reduceAdd, Nat.reduceSub, Nat.reduceMul, Nat.reduceLT, Nat.reduceLeDiff, Nat.reduceEqDiff, Nat.reduceBEq, reduceCtorEq, reduceIte, Int.reduceLE, Int.reduceLT, Int.reduceNeg, Int.reduceToNat]
  refine callq (or_ok l hl) ?_
  simp -implicitDefEqProofs only [push_cast, Nat.reduceAdd, Nat.reduceSub, Nat.reduceMul, Nat.reduceLT, Nat.reduceLeDiff, Nat.reduceEqDiff, Nat.reduceBEq, reduceCtorEq, reduceIte, Int.reduceLE, Int.reduceLT, Int.reduceNeg, Int.reduceToNat]
  (try simp -implicitDefEqProofs only [push_cast, Nat.reduceAdd, Nat.reduceSub, Nat.reduceMul, Nat.reduceLT, Nat.reduceLeDiff, Nat.reduceEqDiff, Nat.reduceBEq, reduceCtorEq, reduceIte, Int.reduceLE, Int.reduceLT, Int.reduceNeg, Int.reduceToNat])
theorem ways3_ok (l : List Vl) (h1 : 1 ≤ l.length) : Quiet Go.Proofs.Tryz.prog 62 [.sl (l.map encV)] (.agg (encV (l.getD 0 .bad).not)) := by
  refine quiet_of (rs := #[.cell 2 23]) Go.Proofs.Tryz.func62 rfl rfl rfl mixed rfl rfl fun H hs => ?_
  have h0' : ((0 : Int) < (l.length : Int)) = True := by simp; omega
  have hg : l.getD 0 .bad = l[0] := by rw [List.getD_eq_getElem?_getD, List.getElem?_eq_getElem (by omega)]; rfl
  simp -implicitDefEqProofs only [push_cast, Nat.reduceAdd, Nat.reduceSub, Nat.reduceMul, Nat.reduceLT, Nat.reduceLeDiff, Nat.reduceEqDiff, Nat.reduceBEq, reduceCtorEq, reduceIte, Int.reduceLE, Int.reduceLT, Int.reduceNeg, Int.reduceToNat, h0', encVs_get l 0 (by omega)]
  refine callq (not_ok _) ?_
  simp -implicitDefEqProofs only [push_cast, Nat.reduceAdd, Nat.reduceSub, Nat.reduceMul, Nat.reduceLT, Nat.reduceLeDiff, Nat.reduceEqDiff, Nat.reduceBEq, reduceCtorEq, reduceIte, Int.reduceLE, Int.reduceLT, Int.reduceNeg, Int.reduceToNat]
  (try simp -implicitDefEqProofs only [push_cast, Nat.reduceAdd, Nat.reduceSub, Nat.reduceMul, Nat.reduceLT, Nat.reduceLeDiff, Nat.reduceEqDiff, Nat.reduceBEq, reduceCtorEq, reduceIte, Int.reduceLE, Int.reduceLT, Int.reduceNeg, Int.reduceToNat, hg])
/-- The way of 'op', at values of which there are enough. -/
theorem way_ok (op : Int) (l : List Vl) (hl : l.length ≤ 140737488355328) (h1 : 2 ≤ op) (h2 : op ≤ 10) (hlo : wayLo op ≤ l.length) :
    ∃ k caps, wayF op = .clo (.func k) [] caps ∧ Quiet Go.Proofs.Tryz.prog k (.sl (l.map encV) :: caps) (.agg (encV (Vl.way op l))) := by
  have two : ∀ k (f : Vl → Vl → Vl), (∀ a b, Quiet Go.Proofs.Tryz.prog k [.agg (encV a), .agg (encV b)] (.agg (encV (f a b)))) → 2 ≤ l.length →
      Quiet Go.Proofs.Tryz.prog 79 [.sl (l.map encV), .iptr [.clo (.func k) [] []]] (.agg (encV (f (l.getD 0 .bad) (l.getD 1 .bad)))) := by
    intro k f hf h2
    have hg0 : l.getD 0 .bad = l[0] := by rw [List.getD_eq_getElem?_getD, List.getElem?_eq_getElem (by omega)]; rfl
    have hg1 : l.getD 1 .bad = l[1] := by rw [List.getD_eq_getElem?_getD, List.getElem?_eq_getElem (by omega)]; rfl
    rw [hg0, hg1]
    exact two1_ok k l h2 _ (hf _ _)
  have hc : op = 2 ∨ op = 3 ∨ op = 4 ∨ op = 5 ∨ op = 6 ∨ op = 7 ∨ op = 8 ∨ op = 9 ∨ op = 10 := by omega
  rcases hc with rfl | rfl | rfl | rfl | rfl | rfl | rfl | rfl | rfl
  · exact ⟨_, _, rfl, two _ (fun a b => a.reckon b addF) add_ok (by simp [wayLo] at hlo; omega)⟩
  · exact ⟨_, _, rfl, two _ (fun a b => a.reckon b subF) sub_ok (by simp [wayLo] at hlo; omega)⟩
  · exact ⟨_, _, rfl, two _ (fun a b => a.reckon b mulF) mul_ok (by simp [wayLo] at hlo; omega)⟩
  · exact ⟨_, _, rfl, two _ (fun a b => a.reckon b divF) div_ok (by simp [wayLo] at hlo; omega)⟩
  · exact ⟨_, _, rfl, two _ Vl.eq eq_ok (by simp [wayLo] at hlo; omega)⟩
  · exact ⟨_, _, rfl, two _ Vl.lt lt_ok (by simp [wayLo] at hlo; omega)⟩
  · exact ⟨_, _, rfl, ways1_ok l hl⟩
  · exact ⟨_, _, rfl, ways2_ok l hl⟩
  · exact ⟨_, _, rfl, ways3_ok l (by simp [wayLo] at hlo; omega)⟩

/-! ### A part that may be -/
def Ex.op : Ex → Int | .mk op _ _ _ _ => op
def Ex.col : Ex → Int | .mk _ col _ _ _ => col
def Ex.v : Ex → Vl | .mk _ _ k n _ => ⟨k, n⟩
def Ex.l : Ex → List Ex | .mk _ _ _ _ l => l
def Ex.part (e : Ex) : Bool :=
  decide (0 ≤ e.op) && decide (e.op < 11) && (decide (wayLo e.op ≤ e.l.length) && decide (e.l.length ≤ wayHi e.op)) && (decide (e.col = 0) || (decide (e.op = 1) && decide (0 < e.col) && decide (e.col ≤ 15)))
    && ((decide (e.v.k = 0) && decide (e.v.n = 0)) || (decide (e.op = 0) && e.v.may))
theorem part_ok (e : Ex) : Quiet Go.Proofs.Tryz.prog 23 [.agg (encE e)] (.bool e.part) := by
  obtain ⟨op, col, k, n, l⟩ := e
  refine quiet_of (rs := #[.tmp 2]) Go.Proofs.Tryz.func23 rfl rfl rfl mixed rfl rfl fun H hs => ?_
  simp -implicitDefEqProofs only [push_cast, Nat.reduceAdd, Nat.reduceSub, Nat.reduceMul, Nat.reduceLT, Nat.reduceLeDiff, Nat.reduceEqDiff, Nat.reduceBEq, reduceCtorEq, reduceIte, Int.reduceLE, Int.reduceLT, Int.reduceNeg, Int.reduceToNat]
  refine callq (ways_ok op) ?_
  have hw := wayF_clo op
  generalize wayF op = wf at hw ⊢
  obtain ⟨q1, q2, q3, q4, q5⟩ := hw
  simp -implicitDefEqProofs only [push_cast, Nat.reduceAdd, Nat.reduceSub, Nat.reduceMul, Nat.reduceLT, Nat.reduceLeDiff, Nat.reduceEqDiff, Nat.reduceBEq, reduceCtorEq, reduceIte, Int.reduceLE, Int.reduceLT, Int.reduceNeg, Int.reduceToNat, lits, cellsEq, cellEq, cmpV, q1, q2, q3, q4, q5]
  refine ⟨?_, ?_, gcallq' (.bool (Vl.may ⟨k, n⟩)) (fun h => h) (fun _ => may_ok ⟨k, n⟩) ?_⟩
  · grind
  · grind
  · simp -implicitDefEqProofs only [push_cast, Nat.reduceAdd, Nat.reduceSub, Nat.reduceMul, Nat.reduceLT, Nat.reduceLeDiff, Nat.reduceEqDiff, Nat.reduceBEq, reduceCtorEq, reduceIte, Int.reduceLE, Int.reduceLT, Int.reduceNeg, Int.reduceToNat, lits, cellsEq, cellEq, cmpV, q1, q2, q3, q4, q5]
    (try simp -implicitDefEqProofs only [push_cast, Nat.reduceAdd, Nat.reduceSub, Nat.reduceMul, Nat.reduceLT, Nat.reduceLeDiff, Nat.reduceEqDiff, Nat.reduceBEq, reduceCtorEq, reduceIte, Int.reduceLE, Int.reduceLT, Int.reduceNeg, Int.reduceToNat])
    simp only [Ex.part, Ex.op, Ex.col, Ex.v, Ex.l]
    grind

end Go.Sim.Tryz
