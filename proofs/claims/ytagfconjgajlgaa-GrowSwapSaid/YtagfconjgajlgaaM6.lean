/- What the row rests on, part 6. Conditions: none. -/
import Derived.Test.YtagfconjgajlgaaM5
set_option linter.unusedSimpArgs false
set_option linter.unusedVariables false
set_option maxRecDepth 100000
namespace Go.Sim.Try
open Go Go.Sim
attribute [local push_cast] aops_cons aops_nil aopG_none aopG_some aopP_eq aopE_eq aopC_eq aopE?_eq aopC?_eq aopB_eq aopB?_eq aopN_eq aopN?_eq anxt anext amrange alast amapNil abr anilq gopP_eq gopL_eq ahead_cons ahead_nil ahdG_none ahdG_some ahdP_eq ahdN_eq ahdC_eq ahdN?_eq ahdS_eq ahdS?_eq astoreN ahdC?_eq ghdP_eq ghdC_eq ghdC?_eq ghdZ_f ghdZ_t ahdI_eq ahdI?_eq ghdN?_eq aim_nil aim_cons isIn_nil isIn_none isIn_cons aimm aheP_eq aheA_eq aheC_eq aheC?_eq aheI?_eq aheA?_eq gheP_eq gheC_eq gheC?_eq gheZ_eq aheG_none aheG_some aheff_cons aheff_nil aapp gro_rsl gro_lit gro_esl opt_some opt_none no_eq acondT_true acondT_false acondT_lit aw_skip aw_region aw_regionD aw_seq aw_cond aw_block aw_loop aw_exit aw_label aw_ret thn_normal thn_exit thn_ret inb_normal inb_exit inb_ret qret_ret qret_normal gcond apure aeff anew acallee ares aresT aresL aresC ares1 qfin_eq ev ofV evL gokL tget tput_some tput_none initT abin aint aun aload afaddr aiaddr afield aindex aextract apick pickv_lit Bool.or_false Bool.false_or Bool.or_true Bool.true_or imp_self aslice chunk roomB abound aconv abuild afill splice alen aminmax abuiltin anil apart Value.oneCell' astore aappend srcEs abuildSlice amakeSlice amapPut aclear aentry aestore alookup aput afind mget keyV sameV_int Option.isSome_some Option.isSome_none cond_true cond_false asets isEq plus_obj plus_nxt plus_add plus_set plus_del IntKind.bits Option.map_some Option.map_none Option.bind_some Option.bind_none Option.join_some Option.getD_some Option.getD_none Option.toList List.getElem?_toArray List.getElem?_cons_zero List.getElem?_cons_succ List.getElem?_nil List.length_cons List.length_nil List.length_map List.head?_cons List.cons_append List.nil_append List.append_nil List.map_cons List.map_nil List.getD_cons_zero List.getD_cons_succ List.replicate_succ List.replicate_zero List.set_cons_zero List.set_cons_succ List.take_succ_cons List.take_zero List.drop_succ_cons List.drop_zero List.all_cons List.all_nil Nat.zero_add if_true if_false true_and and_true false_and and_false true_implies implies_true forall_const Bool.and_true Bool.true_and Bool.false_and Bool.and_false Bool.true_beq Bool.false_beq Bool.not_not beq_tt beq_ff Int.toNat_natCast decide_true decide_false Bool.not_true Bool.not_false Bool.true_eq_false Bool.false_eq_true false_implies exists_prop eq_self bne_self_eq_false beq_self_eq_true decide_eq_true_eq decide_eq_false_iff_not Bool.not_eq_true' Bool.not_eq_false' AV.int AV.bool AV.nilS ne_eq not_false_eq_true not_true_eq_false exists_eq_left exists_eq_left' Nat.lt_irrefl core_lit grd_lit acells_lit one_lit core_agg grd_agg acells_agg one_agg core_tup grd_tup acells_tup one_tup core_sl grd_sl acells_sl one_sl core_esl grd_esl acells_esl one_esl core_rsl grd_rsl acells_rsl one_rsl core_ptr grd_ptr acells_ptr one_ptr core_iptr grd_iptr acells_iptr one_iptr core_clo grd_clo acells_clo one_clo core_mp grd_mp acells_mp one_mp core_any grd_any acells_any one_any core_gv grd_gv fit_agg fit_lit fit_sl fit_esl fit_rsl fit_ptr fit_iptr fit_clo fit_mp retq_ret retq_normal set_nxt set_set plus_obj_set plus_set_set app_get0 app_get app_set0 app_set List.append_assoc List.length_append List.length_set Nat.lt_add_one Nat.add_lt_add_iff_right Nat.lt_add_right_iff_pos Nat.add_lt_add_iff_left List.mem_cons List.not_mem_nil or_false forall_eq forall_eq_or_imp lt_s0 lt_s1 lt_s2 lt_s3 lt_s4 lt_s5 lt_s6 lt_s7 lt_s8 pickv_t pickv_f or_nand or_nand2 imp_and_l SealT SealOs sealO_cells sl_lit sl_any sl_agg sl_tup sl_sl sl_rsl slO sl_esl sl_nil sl_eslesl sl_eslnil sl_rslrsl sl_eslrsl sl_nilrsl sl_ptr sl_iptr sl_ptri slP sl_clo sl_mp sl_gv sll_nil sll_cons slll_nil slll_cons shut_eq shutO Option.join_none Fn.func.injEq and_self sealL_self sealLL_self seal_self PureL PureLL Pure Nat.le_refl Nat.zero_le AV.lit.injEq Value.int.injEq Value.bool.injEq false_or or_true true_or Int.natCast_zero Int.ofNat_zero Int.cast_ofNat_Int Int.natCast_add Int.natCast_one Option.some.injEq piL_is sop_nil sop_cons sop_none sop_some sopO_some sop_new shut_pi shutL_nil shutL_cons exQ_exit exQ_ret exQ_normal Go.Sim.Try.ty_load1 Go.Sim.Try.ty_zero1 Go.Sim.Try.ty_load2 Go.Sim.Try.ty_zero2 Go.Sim.Try.ty_und2 Go.Sim.Try.ty_load3 Go.Sim.Try.ty_zero3 Go.Sim.Try.ty_und3 Go.Sim.Try.ty_load4 Go.Sim.Try.ty_zero4 Go.Sim.Try.ty_und4 Go.Sim.Try.ty_load5 Go.Sim.Try.ty_zero5 Go.Sim.Try.ty_und5 Go.Sim.Try.ty_load9 Go.Sim.Try.ty_zero9 Go.Sim.Try.ty_und9 Go.Sim.Try.ty_load21 Go.Sim.Try.ty_zero21 Go.Sim.Try.ty_und21 Go.Sim.Try.ty_load22 Go.Sim.Try.ty_zero22 Go.Sim.Try.ty_el22 Go.Sim.Try.ty_zeroE22 Go.Sim.Try.ty_load23 Go.Sim.Try.ty_zero23 Go.Sim.Try.ty_el23 Go.Sim.Try.ty_zeroE23 Go.Sim.Try.ty_load25 Go.Sim.Try.ty_zero25 Go.Sim.Try.ty_fld25_0 Go.Sim.Try.ty_part25_0 Go.Sim.Try.ty_fld25_1 Go.Sim.Try.ty_part25_1 Go.Sim.Try.ty_fld25_2 Go.Sim.Try.ty_part25_2 Go.Sim.Try.ty_struct25 Go.Sim.Try.ty_load29 Go.Sim.Try.ty_zero29 Go.Sim.Try.ty_el29 Go.Sim.Try.ty_zeroE29 Go.Sim.Try.ty_load34 Go.Sim.Try.ty_zero34 Go.Sim.Try.ty_und34 Go.Sim.Try.ty_load41 Go.Sim.Try.ty_zero41 Go.Sim.Try.ty_fld41_0 Go.Sim.Try.ty_part41_0 Go.Sim.Try.ty_fld41_1 Go.Sim.Try.ty_part41_1 Go.Sim.Try.ty_fld41_2 Go.Sim.Try.ty_part41_2 Go.Sim.Try.ty_struct41 Go.Sim.Try.ty_load47 Go.Sim.Try.ty_zero47 Go.Sim.Try.ty_el47 Go.Sim.Try.ty_zeroE47 Go.Sim.Try.ty_load55 Go.Sim.Try.ty_zero55 Go.Sim.Try.ty_fld55_0 Go.Sim.Try.ty_part55_0 Go.Sim.Try.ty_fld55_1 Go.Sim.Try.ty_part55_1 Go.Sim.Try.ty_fld55_2 Go.Sim.Try.ty_part55_2 Go.Sim.Try.ty_fld55_3 Go.Sim.Try.ty_part55_3 Go.Sim.Try.ty_struct55 Go.Sim.Try.ty_load56 Go.Sim.Try.ty_zero56 Go.Sim.Try.ty_load58 Go.Sim.Try.ty_zero58 Go.Sim.Try.ty_fld58_0 Go.Sim.Try.ty_part58_0 Go.Sim.Try.ty_fld58_1 Go.Sim.Try.ty_part58_1 Go.Sim.Try.ty_struct58 Go.Sim.Try.ty_load60 Go.Sim.Try.ty_zero60 Go.Sim.Try.ty_load67 Go.Sim.Try.ty_zero67 Go.Sim.Try.ty_el67 Go.Sim.Try.ty_zeroE67 Go.Sim.Try.ty_load68 Go.Sim.Try.ty_zero68 Go.Sim.Try.ty_und68 Go.Sim.Try.ty_vzero58 Go.Sim.Try.ty_load72 Go.Sim.Try.ty_zero72 Go.Sim.Try.ty_el72 Go.Sim.Try.ty_zeroE72 Go.Sim.Try.ty_load79 Go.Sim.Try.ty_zero79 Go.Sim.Try.ty_load80 Go.Sim.Try.ty_zero80 Go.Sim.Try.ty_und80 Go.Sim.Try.ty_vzero4 Go.Sim.Try.ty_load82 Go.Sim.Try.ty_zero82 Go.Sim.Try.ty_fld82_0 Go.Sim.Try.ty_part82_0 Go.Sim.Try.ty_fld82_1 Go.Sim.Try.ty_part82_1 Go.Sim.Try.ty_fld82_2 Go.Sim.Try.ty_part82_2 Go.Sim.Try.ty_struct82 Go.Sim.Try.ty_load86 Go.Sim.Try.ty_zero86 Go.Sim.Try.ty_und86 Go.Sim.Try.ty_vzero3 Go.Sim.Try.ty_load87 Go.Sim.Try.ty_zero87 Go.Sim.Try.ty_arr87 Go.Sim.Try.ty_part87_0 Go.Sim.Try.ty_part87_1 Go.Sim.Try.ty_struct87 Go.Sim.Try.ty_load98 Go.Sim.Try.ty_zero98 Go.Sim.Try.ty_und98 Go.Sim.Try.ty_load100 Go.Sim.Try.ty_zero100 Go.Sim.Try.ty_el100 Go.Sim.Try.ty_zeroE100 Go.Sim.Try.ty_load104 Go.Sim.Try.ty_zero104 Go.Sim.Try.ty_load109 Go.Sim.Try.ty_zero109 Go.Sim.Try.ty_load112 Go.Sim.Try.ty_zero112 Go.Sim.Try.ty_und112 Go.Sim.Try.ty_load119 Go.Sim.Try.ty_zero119 Go.Sim.Try.ty_und119 Go.Sim.Try.ty_load121 Go.Sim.Try.ty_zero121 Go.Sim.Try.ty_und121 Go.Sim.Try.ty_load129 Go.Sim.Try.ty_zero129 Go.Sim.Try.ty_und129 Go.Sim.Try.ty_load133 Go.Sim.Try.ty_zero133
section
attribute [local push_cast] encT_mk encT_take encT_len encT_one encTs_pure encT_pure
theorem bytesI : Program.bytesOf Go.Proofs.Try.prog 3 = 8 := by kernel_rfl
theorem shp_Is {n : Nat} {vs : List AV} (h : Shp Go.Proofs.Try.prog n 23 vs) : ∃ l : List Int, vs = [.sl (l.map encI)] ∧ l.length ≤ 140737488355328 := by
  obtain ⟨m, es, _, rfl, hl, hp⟩ := shp_slice Go.Proofs.Try.underlying23 h
  rw [bytesI] at hl
  obtain ⟨l, rfl, hq⟩ := map_of (f := encI) (q := fun x => In64 x) fun x hx => let ⟨v, hv, hw⟩ := shp_int Go.Proofs.Try.underlying3 (hp x hx).2; ⟨v, hv, wf64 hw⟩
  exact ⟨l, rfl, by simp [reachBytes] at hl; omega⟩
theorem shp_N {n : Nat} {vs : List AV} (h : Shp Go.Proofs.Try.prog n 55 vs) : ∃ d : Nd, vs = encN d ∧ True := by
  obtain ⟨m, parts, _, rfl, hl, hp⟩ := shp_struct Go.Proofs.Try.underlying55 h
  match parts, hl with
  | [p0, p1, p2, p3], _ =>
    obtain ⟨j, rfl⟩ := shp_bool Go.Proofs.Try.underlying4 (hp 0 _ p0 rfl rfl).2
    obtain ⟨o, rfl, _⟩ := shp_int Go.Proofs.Try.underlying3 (hp 1 _ p1 rfl rfl).2
    obtain ⟨a, rfl, _⟩ := shp_int Go.Proofs.Try.underlying3 (hp 2 _ p2 rfl rfl).2
    obtain ⟨b, rfl, _⟩ := shp_int Go.Proofs.Try.underlying3 (hp 3 _ p3 rfl rfl).2
    exact ⟨⟨j, o, a, b⟩, rfl, trivial⟩
theorem shp_Ns {n : Nat} {vs : List AV} (h : Shp Go.Proofs.Try.prog n 22 vs) : ∃ l : List Nd, vs = [.sl (l.map encN)] := by
  obtain ⟨m, es, _, rfl, hl, hp⟩ := shp_slice Go.Proofs.Try.underlying22 h
  obtain ⟨l, rfl, hq⟩ := map_of (f := encN) (q := fun _ => True) fun x hx => shp_N (hp x hx).2
  exact ⟨l, rfl⟩
theorem shp_M {n : Nat} {vs : List AV} (h : Shp Go.Proofs.Try.prog n 25 vs) : ∃ m : Mm, vs = [.sl (m.N.map encN), .sl (m.G.map encI), .sl (m.P.map encI)] := by
  obtain ⟨m, parts, _, rfl, hl, hp⟩ := shp_struct Go.Proofs.Try.underlying25 h
  match parts, hl with
  | [p0, p1, p2], _ =>
    obtain ⟨N, rfl⟩ := shp_Ns (hp 0 _ p0 rfl rfl).2
    obtain ⟨G, rfl, _⟩ := shp_Is (hp 1 _ p1 rfl rfl).2
    obtain ⟨Q, rfl, _⟩ := shp_Is (hp 2 _ p2 rfl rfl).2
    exact ⟨⟨N, G, Q⟩, rfl⟩
theorem shp_J {n : Nat} {vs : List AV} (h : Shp Go.Proofs.Try.prog n 41 vs) : ∃ j : Jb, vs = encJ j := by
  obtain ⟨m, parts, _, rfl, hl, hp⟩ := shp_struct Go.Proofs.Try.underlying41 h
  match parts, hl with
  | [p0, p1, p2], _ =>
    obtain ⟨j, rfl⟩ := shp_bool Go.Proofs.Try.underlying4 (hp 0 _ p0 rfl rfl).2
    obtain ⟨o, rfl, _⟩ := shp_int Go.Proofs.Try.underlying3 (hp 1 _ p1 rfl rfl).2
    obtain ⟨a, rfl, _⟩ := shp_int Go.Proofs.Try.underlying3 (hp 2 _ p2 rfl rfl).2
    exact ⟨⟨j, o, a⟩, rfl⟩
theorem asV_M (vs : List AV) : asV Go.Proofs.Try.prog 25 vs = .agg vs := by simp only [asV, Go.Proofs.Try.underlying25]
theorem asV_J (vs : List AV) : asV Go.Proofs.Try.prog 41 vs = .agg vs := by simp only [asV, Go.Proofs.Try.underlying41]
theorem told_M {ts : List TypeId} {us : List AV} (h : ToldAll Go.Proofs.Try.prog (25 :: ts) us) : ∃ (m : Mm) (us' : List AV), us = encM m :: us' ∧ ToldAll Go.Proofs.Try.prog ts us' := by
  simp only [ToldAll] at h
  obtain ⟨n, vs, us1, rfl, h1, h3⟩ := h
  obtain ⟨m, rfl⟩ := shp_M h1
  exact ⟨m, us1, by rw [asV_M]; rfl, h3⟩
theorem told_J {ts : List TypeId} {us : List AV} (h : ToldAll Go.Proofs.Try.prog (41 :: ts) us) : ∃ (j : Jb) (us' : List AV), us = .agg (encJ j) :: us' ∧ ToldAll Go.Proofs.Try.prog ts us' := by
  simp only [ToldAll] at h
  obtain ⟨n, vs, us1, rfl, h1, h3⟩ := h
  obtain ⟨m, rfl⟩ := shp_J h1
  exact ⟨m, us1, by rw [asV_J], h3⟩
theorem sameT_self (t : Tr) : sameT t t = true := by
  induction t using Tr.ind with
  | h o l ih =>
    rw [sameT, decide_eq_true rfl, Bool.true_and]
    exact sameTL_all rfl fun i h h' => ih _ (List.getElem_mem h)
end
section
attribute [local push_cast] encT_mk encT_take encT_len encT_one encTs_pure encT_pure
theorem lvsT_len : ∀ (d : Nat) (t : Tr), d ≤ 4 → (lvsT d t).1.length ≤ 2 ^ d
  | 0, _, _ => by simp [lvsT]
  | d + 1, .mk o [], _ => by rw [lvsT_nil]; simp; exact Nat.one_le_two_pow
  | d + 1, .mk o [a, b], h => by
    rw [lvsT_two]
    have ha := lvsT_len d a (by omega)
    have hb := lvsT_len d b (by omega)
    split
    · rw [List.length_append, Nat.pow_succ]; omega
    · simp
  | d + 1, .mk o [a], _ => by rw [lvsT_one]; simp
  | d + 1, .mk o (a :: b :: c :: l), _ => by rw [lvsT_more]; simp
theorem pow_16 {d : Nat} (h : d ≤ 4) : 2 ^ d ≤ 16 := by
  have hc : d = 0 ∨ d = 1 ∨ d = 2 ∨ d = 3 ∨ d = 4 := by omega
  rcases hc with rfl | rfl | rfl | rfl | rfl <;> decide
theorem isL1 (l : List Int) : ∀ e ∈ l.map encI, e.length = 1 := by
  simp only [List.mem_map]
  rintro _ ⟨x, _, rfl⟩
  rfl
theorem isA1 (l : List Int) : ∀ e ∈ l.map encI, e.all AV.one = true := by
  simp only [List.mem_map]
  rintro _ ⟨x, _, rfl⟩
  rfl
set_option maxHeartbeats 4000000 in
theorem leaves_ok : ∀ (d : Nat) (t : Tr), d ≤ 4 → t.Ok → Quiet Go.Proofs.Try.prog 113 [.agg (encT t), .int ((5 - d : Nat) : Int)] (.tup [.sl ((lvsT d t).1.map encI), .bool (lvsT d t).2])
  | 0, .mk o l, _, _ => by
    refine quiet_of (rs := #[.tmp 4, .tmp 5]) Go.Proofs.Try.func113 rfl rfl rfl mixed rfl rfl fun H hs => ?_
    simp -implicitDefEqProofs only [push_cast, Nat.reduceAdd, Nat.reduceSub, Nat.reduceMul, Nat.reduceLT, Nat.reduceLeDiff, Nat.reduceEqDiff, Nat.reduceBEq, reduceCtorEq, reduceIte, Int.reduceLE, Int.reduceLT, Int.reduceNeg, Int.reduceToNat, lvsT, List.map_nil, Int.reduceAdd]
  | d + 1, .mk o [], hd, ht => by
    have hd0 : (4 < ((5 - (d + 1) : Nat) : Int)) = False := by simp; omega
    refine quiet_of (rs := #[.tmp 4, .tmp 5]) Go.Proofs.Try.func113 rfl rfl rfl mixed rfl rfl fun H hs => ?_
    rw [lvsT_nil]
    simp -implicitDefEqProofs only [push_cast, Nat.reduceAdd, Nat.reduceSub, Nat.reduceMul, Nat.reduceLT, Nat.reduceLeDiff, Nat.reduceEqDiff, Nat.reduceBEq, reduceCtorEq, reduceIte, Int.reduceLE, Int.reduceLT, Int.reduceNeg, Int.reduceToNat, hd0, List.length_nil, List.map_nil, Int.reduceEq]
    refine areg_at 12 (by kernel_rfl) (by kernel_rfl) ?_
    simp -implicitDefEqProofs only [push_cast, Nat.reduceAdd, Nat.reduceSub, Nat.reduceMul, Nat.reduceLT, Nat.reduceLeDiff, Nat.reduceEqDiff, Nat.reduceBEq, reduceCtorEq, reduceIte, Int.reduceLE, Int.reduceLT, Int.reduceNeg, Int.reduceToNat]
    exact sealL_pure _ _ _ (by simp [PureL, Pure])
  | d + 1, .mk o [a], hd, ht => by
    have hd0 : (4 < ((5 - (d + 1) : Nat) : Int)) = False := by simp; omega
    refine quiet_of (rs := #[.tmp 4, .tmp 5]) Go.Proofs.Try.func113 rfl rfl rfl mixed rfl rfl fun H hs => ?_
    rw [lvsT_one]
    simp -implicitDefEqProofs only [push_cast, Nat.reduceAdd, Nat.reduceSub, Nat.reduceMul, Nat.reduceLT, Nat.reduceLeDiff, Nat.reduceEqDiff, Nat.reduceBEq, reduceCtorEq, reduceIte, Int.reduceLE, Int.reduceLT, Int.reduceNeg, Int.reduceToNat, hd0, List.length_cons, List.length_nil, List.map_nil, List.map_cons, Int.reduceEq, Int.reduceAdd]
  | d + 1, .mk o (a :: b :: c :: l), hd, ht => by
    have hd0 : (4 < ((5 - (d + 1) : Nat) : Int)) = False := by simp; omega
    have e0 : ((l.length : Int) + 1 + 1 + 1 = 0) = False := by simp; omega
    have e2 : ((l.length : Int) + 1 + 1 + 1 = 2) = False := by simp; omega
    refine quiet_of (rs := #[.tmp 4, .tmp 5]) Go.Proofs.Try.func113 rfl rfl rfl mixed rfl rfl fun H hs => ?_
    rw [lvsT_more]
    simp -implicitDefEqProofs only [push_cast, Nat.reduceAdd, Nat.reduceSub, Nat.reduceMul, Nat.reduceLT, Nat.reduceLeDiff, Nat.reduceEqDiff, Nat.reduceBEq, reduceCtorEq, reduceIte, Int.reduceLE, Int.reduceLT, Int.reduceNeg, Int.reduceToNat, hd0, List.length_cons, List.length_nil, List.map_nil, List.map_cons, e0, e2]
  | d + 1, .mk o [a, b], hd, ht => by
    have hd0 : (4 < ((5 - (d + 1) : Nat) : Int)) = False := by simp; omega
    obtain ⟨_, hlo⟩ := ht
    have ha := leaves_ok d a (by omega) (hlo _ (by simp))
    have hb := leaves_ok d b (by omega) (hlo _ (by simp))
    have la := lvsT_len d a (by omega)
    have lb := lvsT_len d b (by omega)
    have hp := pow_16 (d := d) (by omega)
    have hw : IntKind.wrap .i64 (((5 - (d + 1) : Nat) : Int) + 1) = ((5 - d : Nat) : Int) := by rw [wrap64 (by omega) (by omega)]; omega
    refine quiet_of (rs := #[.tmp 4, .tmp 5]) Go.Proofs.Try.func113 rfl rfl rfl mixed rfl rfl fun H hs => ?_
    rw [lvsT_two]
    by_cases ho : o = 0
    · have ho' : (o = 0) = True := by simp [ho]
      rw [if_pos ho]
      simp -implicitDefEqProofs only [push_cast, Nat.reduceAdd, Nat.reduceSub, Nat.reduceMul, Nat.reduceLT, Nat.reduceLeDiff, Nat.reduceEqDiff, Nat.reduceBEq, reduceCtorEq, reduceIte, Int.reduceLE, Int.reduceLT, Int.reduceNeg, Int.reduceToNat, hd0, hw, ho', List.length_cons, List.length_nil, List.map_nil, List.map_cons, Int.reduceEq, Int.reduceAdd]
      refine callq ha ?_
      simp -implicitDefEqProofs only [push_cast, Nat.reduceAdd, Nat.reduceSub, Nat.reduceMul, Nat.reduceLT, Nat.reduceLeDiff, Nat.reduceEqDiff, Nat.reduceBEq, reduceCtorEq, reduceIte, Int.reduceLE, Int.reduceLT, Int.reduceNeg, Int.reduceToNat, hd0, hw, List.length_cons, List.length_nil, Int.reduceEq, Int.reduceAdd]
      refine callq hb ?_
      simp -implicitDefEqProofs only [push_cast, Nat.reduceAdd, Nat.reduceSub, Nat.reduceMul, Nat.reduceLT, Nat.reduceLeDiff, Nat.reduceEqDiff, Nat.reduceBEq, reduceCtorEq, reduceIte, Int.reduceLE, Int.reduceLT, Int.reduceNeg, Int.reduceToNat]
      refine ⟨⟨isL1 _, by omega⟩, ⟨isL1 _, isA1 _, by omega⟩, by simp, ?_⟩
      rw [List.take_of_length_le (l := (lvsT d a).1.map encI) (by simp), List.take_of_length_le (by simp), ← List.map_append]
      exact sealLL_pure _ _ _ (encIs_pure _)
    · have ho' : (o = 0) = False := by simp [ho]
      rw [if_neg ho]
      simp -implicitDefEqProofs only [push_cast, Nat.reduceAdd, Nat.reduceSub, Nat.reduceMul, Nat.reduceLT, Nat.reduceLeDiff, Nat.reduceEqDiff, Nat.reduceBEq, reduceCtorEq, reduceIte, Int.reduceLE, Int.reduceLT, Int.reduceNeg, Int.reduceToNat, hd0, hw, ho', List.length_cons, List.length_nil, List.map_nil, List.map_cons, Int.reduceEq, Int.reduceAdd]
end
section
attribute [local push_cast] encT_mk encT_take encT_len encT_one encTs_pure encT_pure encJ_eq encJs_pure
theorem Lists_ok (l m : List Tr) (hl : l.length ≤ 1000) (hm : m.length ≤ 1000) (hlo : ∀ x ∈ l, x.Ok) (he : l = m) : Quiet Go.Proofs.Try.prog 14 [.sl (l.map encT), .sl (m.map encT)] (.bool true) := by
  subst he
  refine quiet_of (rs := #[.tmp 4]) Go.Proofs.Try.func14 rfl rfl rfl mixed rfl rfl fun H hs => ?_
  push_cast -implicitDefEqProofs [eq_self, iff_self]
  refine loop_at hs (σ := Nat) (fun i => i ≤ l.length) (fun i => l.length - i)
    (fun i => [(5, .int i), (0, .sl (l.map encT)), (1, .sl (l.map encT))]) (fun i => []) [] 0 (by omega) rfl ?_ ?_ ?_
  · (try push_cast -implicitDefEqProofs [eq_self, iff_self, encTs_pure])
  · (try push_cast -implicitDefEqProofs [eq_self, iff_self])
  intro i hi2
  by_cases hi : i < l.length
  · have hi' : ((i : Int) < (l.length : Int)) = True := by simp; omega
    have hi0 : (0 ≤ (i : Int)) = True := by simp
    have hget := encTs_get l i hi
    have hS := tree_sameR_ok l[i] l[i] (hlo _ (List.getElem_mem hi)) (hlo _ (List.getElem_mem hi))
    rw [sameT_self] at hS
    generalize l[i] = x at hget hS
    push_cast -implicitDefEqProofs [eq_self, iff_self, hi', hi0, hget]
    refine areg_at 9 (by kernel_rfl) (by kernel_rfl) ?_
    push_cast -implicitDefEqProofs [eq_self, iff_self, hi', hi0, hget]
    refine ahdq hS ?_
    push_cast -implicitDefEqProofs [eq_self, iff_self, hi', hi0]
    rw [wrap64 (n := (i : Int) + 1) (by omega) (by omega)]
    refine next_at [] (i + 1) (by omega) (by omega) rfl ?_ ?_
    · (try push_cast -implicitDefEqProofs [eq_self, iff_self])
    · (try push_cast -implicitDefEqProofs [eq_self, iff_self])
  · have hi' : ((i : Int) < (l.length : Int)) = False := by simp; omega
    push_cast -implicitDefEqProofs [eq_self, iff_self, hi']
end
section
attribute [local push_cast] encIs_pure encNs_pure encN_eq encM_eq encJ_eq encJs_pure plus_obj0 plus_set0 piL_is00 piL_is0 piL_isk encIs_one encNs_four
theorem far_small {m : Mm} {k : Int} (hk : k ≤ 1000) (h : farM m k = true) : m.Small ∧ (m.N.length : Int) ≤ k ∧ (m.G.length : Int) ≤ k ∧ (m.P.length : Int) ≤ k := by
  unfold farM at h
  simp only [Bool.and_eq_true, decide_eq_true_eq] at h
  exact ⟨⟨by omega, by omega, by omega⟩, h.1.1, h.1.2, h.2⟩
theorem small_of {m : Mm} (h : m.may = true) : m.Small := form_small (may_f h)
end
section
attribute [local push_cast] encT_mk encT_take encT_len encT_one encTs_pure encT_pure encIs_pure encNs_pure encN_eq encM_eq encJ_eq encJs_pure plus_obj0 plus_set0 piL_is00 piL_is0 piL_isk encIs_one encNs_four
theorem treesM_short (m : Mm) (g : Int) : (treesM m g).length ≤ 184 := by
  by_cases h : m.may = true ∧ 0 ≤ g ∧ g < m.P.length
  · obtain ⟨k, rfl⟩ : ∃ k : Nat, g = k := ⟨g.toNat, by omega⟩
    rw [treesM_len ⟨h.1, by omega⟩, ← allTs_len]
    exact List.length_filter_le _ _
  · rw [treesM_out h]; simp
theorem treesM_ok {m : Mm} {g : Int} : ∀ t ∈ treesM m g, t.Ok := fun t ht => by
  rw [treesM_mem] at ht
  exact may_ok ht.2.1
end
section
attribute [local push_cast] encT_mk encT_take encT_len encT_one encTs_pure encT_pure encIs_pure encNs_pure encN_eq encM_eq encJ_eq encJs_pure plus_obj0 plus_set0 piL_is00 piL_is0 piL_isk encIs_one encNs_four
set_option maxHeartbeats 4000000 in
theorem growSwap_ok (m : Mm) (j k : Jb) (g : Int) : Quiet Go.Proofs.Try.prog 6 [encM m, .agg (encJ j), .agg (encJ k), .int g] (.bool true) := by
  have hFar := Far_ok m 10
  refine quiet_of (rs := #[.tmp 8]) Go.Proofs.Try.func6 rfl rfl rfl mixed rfl rfl fun H hs => ?_
  push_cast -implicitDefEqProofs [eq_self, iff_self]
  refine callq Awake_ok ?_
  push_cast -implicitDefEqProofs [eq_self, iff_self]
  refine gcallq' (.int (if farM m 10 then 0 else 1)) (fun _ => trivial) (fun _ => hFar) ?_
  cases hfar : farM m 10 with
  | false =>
    push_cast -implicitDefEqProofs [eq_self, iff_self, hfar, Bool.false_eq_true, if_false]
    repeat (refine gskip ?_; push_cast -implicitDefEqProofs [eq_self, iff_self, hfar, Bool.false_eq_true, if_false])
  | true =>
    obtain ⟨hsm, hN, hG, hP⟩ := far_small (by decide) hfar
    have hDj := Do_ok m hsm j
    have hDk := Do_ok m hsm k
    cases hg0 : decide (g < 0) with
    | true =>
      push_cast -implicitDefEqProofs [eq_self, iff_self, hfar, if_true, hg0]
      repeat (refine gskip ?_; push_cast -implicitDefEqProofs [eq_self, iff_self, hfar, if_true, hg0])
    | false =>
      cases hg1 : decide ((m.P.length : Int) ≤ g) with
      | true =>
        push_cast -implicitDefEqProofs [eq_self, iff_self, hfar, if_true, hg0, hg1]
      | false =>
        have hg0' := of_decide_eq_false hg0
        have hg1' := of_decide_eq_false hg1
        push_cast -implicitDefEqProofs [eq_self, iff_self, hfar, if_true, hg0, hg1]
        refine callq hDj ?_
        push_cast -implicitDefEqProofs [eq_self, iff_self]
        refine callq hDk ?_
        rcases doJ_ok m j with ⟨h1, h2⟩ | ⟨h1, hm, hj, ha⟩
        · generalize (m.doJ j).2 = c at h1
          have hc : decide (c = 0) = false := decide_eq_false h1
          push_cast -implicitDefEqProofs [eq_self, iff_self, hc]
          repeat (refine gskip ?_; push_cast -implicitDefEqProofs [eq_self, iff_self, hc])
        rcases doJ_ok m k with ⟨h3, h4⟩ | ⟨h3, _, hk, hb⟩
        · rw [h1]
          generalize (m.doJ k).2 = c at h3
          have hc : decide (c = 0) = false := decide_eq_false h3
          push_cast -implicitDefEqProofs [eq_self, iff_self, hc]
        have hf := may_f hm
        have a1 := ha.nlen
        have a2 := ha.pn
        have a3 := ha.ext.nlen
        have b1 := hb.nlen
        have b2 := hb.pn
        have b3 := hb.ext.nlen
        obtain ⟨x1, hx⟩ := doJ_few ha.may (job_kept hf (may_f ha.may) ha.ext hk) (by omega) (by omega)
        obtain ⟨y1, hy⟩ := doJ_few hb.may (job_kept hf (may_f hb.may) hb.ext hj) (by omega) (by omega)
        have hTx := Trees_ok _ (small_of hx.may) g
        have hTy := Trees_ok _ (small_of hy.may) g
        have hE : treesM ((m.doJ j).1.doJ k).1 g = treesM ((m.doJ k).1.doJ j).1 g := by
          obtain ⟨k, rfl⟩ : ∃ k : Nat, g = k := ⟨g.toNat, by omega⟩
          exact swap_trees hm hj hk ha hb hx hy (by omega)
        have hL := Lists_ok (treesM ((m.doJ j).1.doJ k).1 g) (treesM ((m.doJ k).1.doJ j).1 g) (Nat.le_trans (treesM_short _ _) (by omega)) (Nat.le_trans (treesM_short _ _) (by omega)) treesM_ok hE
        have hD3 := Do_ok (m.doJ j).1 (small_of ha.may) k
        have hD4 := Do_ok (m.doJ k).1 (small_of hb.may) j
        rw [x1] at hD3
        rw [y1] at hD4
        rw [h1, h3]
        generalize treesM ((m.doJ j).1.doJ k).1 g = l1 at hTx hL
        generalize treesM ((m.doJ k).1.doJ j).1 g = l2 at hTy hL
        generalize ((m.doJ j).1.doJ k).1 = x at hTx hD3
        generalize ((m.doJ k).1.doJ j).1 = y at hTy hD4
        generalize (m.doJ j).1 = a at hD3
        generalize (m.doJ k).1 = b at hD4
        push_cast -implicitDefEqProofs [eq_self, iff_self]
        refine callq hD3 ?_
        push_cast -implicitDefEqProofs [eq_self, iff_self]
        refine callq hD4 ?_
        push_cast -implicitDefEqProofs [eq_self, iff_self]
        refine areg_at 15 (by kernel_rfl) (by kernel_rfl) ?_
        push_cast -implicitDefEqProofs [eq_self, iff_self]
        refine gcallq (.sl (l1.map encT)) (fun _ => hTx) ?_
        push_cast -implicitDefEqProofs [eq_self, iff_self]
        refine gcallq (.sl (l2.map encT)) (fun _ => hTy) ?_
        push_cast -implicitDefEqProofs [eq_self, iff_self]
        refine gcallq (.bool true) (fun _ => hL) ?_
        push_cast -implicitDefEqProofs [eq_self, iff_self]
theorem growSwap_law (us : List AV) (h : ToldAll Go.Proofs.Try.prog Go.Proofs.Try.f6.params.toList us) : Quiet Go.Proofs.Try.prog 6 us (.bool true) := by
  have e1 : Go.Proofs.Try.f6.params.toList = [25, 41, 41, 3] := by kernel_rfl
  rw [e1] at h
  obtain ⟨m, u1, rfl, h1⟩ := told_M h
  obtain ⟨j, u2, rfl, h2⟩ := told_J h1
  obtain ⟨i, u3, rfl, h3⟩ := told_J h2
  obtain ⟨k, u4, rfl, _, h4⟩ := told_I h3
  obtain rfl := told_nil h4
  exact growSwap_ok m j i k
end
end Go.Sim.Try
