/- What the row rests on, part 5. Conditions: none. -/
import Derived.Test.YtojfhjejenaclaaGreatM4
set_option linter.unusedSimpArgs false
set_option linter.unusedVariables false
set_option maxRecDepth 100000
namespace Go.Sim.Tryz
open Go Go.Sim

theorem bytesD : Program.bytesOf Go.Proofs.Tryz.prog 59 = 16 := by kernel_rfl
theorem shp_D {n : Nat} {vs : List AV} (h : Shp Go.Proofs.Tryz.prog n 59 vs) : ∃ d : Df, vs = encD d ∧ (In64 d.cols ∧ In64 d.rows) := by
  obtain ⟨m, parts, _, rfl, hl, hp⟩ := shp_struct Go.Proofs.Tryz.underlying59 h
  match parts, hl with
  | [p0, p1], _ =>
    obtain ⟨k, rfl, hk⟩ := shp_int Go.Proofs.Tryz.underlying3 (hp 0 _ p0 rfl rfl).2
    obtain ⟨n, rfl, hn⟩ := shp_int Go.Proofs.Tryz.underlying3 (hp 1 _ p1 rfl rfl).2
    exact ⟨⟨k, n⟩, rfl, wf64 hk, wf64 hn⟩
theorem shp_Ds {n : Nat} {vs : List AV} (h : Shp Go.Proofs.Tryz.prog n 22 vs) : ∃ l : List Df, vs = [.sl (l.map encD)] ∧ l.length ≤ 140737488355328 ∧ ∀ d ∈ l, In64 d.cols ∧ In64 d.rows := by
  obtain ⟨m, es, _, rfl, hl, hp⟩ := shp_slice Go.Proofs.Tryz.underlying22 h
  rw [bytesD] at hl
  obtain ⟨l, rfl, hq⟩ := map_of (f := encD) (q := fun d => In64 d.cols ∧ In64 d.rows) fun x hx => shp_D (hp x hx).2
  exact ⟨l, rfl, by simp [reachBytes] at hl; omega, hq⟩
theorem shp_C {n : Nat} {vs : List AV} (h : Shp Go.Proofs.Tryz.prog n 24 vs) : ∃ l : List Df, vs = [.sl (l.map encD)] ∧ l.length ≤ 140737488355328 ∧ ∀ d ∈ l, In64 d.cols ∧ In64 d.rows := by
  obtain ⟨m, parts, _, rfl, hl, hp⟩ := shp_struct Go.Proofs.Tryz.underlying24 h
  match parts, hl with
  | [p0], _ =>
    obtain ⟨l, rfl, h1, h2⟩ := shp_Ds (hp 0 _ p0 rfl rfl).2
    exact ⟨l, rfl, h1, h2⟩
theorem shp_Is2 {n : Nat} {vs : List AV} (h : Shp Go.Proofs.Tryz.prog n 25 vs) : ∃ l : List Int, vs = [.sl (l.map encI)] ∧ l.length ≤ 140737488355328 ∧ ∀ x ∈ l, In64 x := by
  obtain ⟨m, es, _, rfl, hl, hp⟩ := shp_slice Go.Proofs.Tryz.underlying25 h
  rw [bytesI] at hl
  obtain ⟨l, rfl, hq⟩ := map_of (f := encI) (q := fun x => In64 x) fun x hx => let ⟨v, hv, hw⟩ := shp_int Go.Proofs.Tryz.underlying3 (hp x hx).2; ⟨v, hv, wf64 hw⟩
  exact ⟨l, rfl, by simp [reachBytes] at hl; omega, hq⟩
theorem shp_Es {n : Nat} {vs : List AV} (h : Shp Go.Proofs.Tryz.prog n 26 vs) : ∃ l : List Ex, vs = [.sl (l.map encE)] ∧ l.length ≤ 140737488355328 ∧ ∀ e ∈ l, e.Ok ∧ e.In := by
  obtain ⟨m, es, _, rfl, hl, hp⟩ := shp_slice Go.Proofs.Tryz.underlying26 h
  rw [bytesE] at hl
  obtain ⟨l, rfl, hq⟩ := map_of (f := encE) (q := fun e => e.Ok ∧ e.In) fun x hx => shp_E2 m (hp x hx).2
  exact ⟨l, rfl, by simp [reachBytes] at hl; omega, hq⟩
/-- Numbers of 64 bits. -/
def Qy.In2 (q : Qy) : Prop := q.In ∧ (∀ x ∈ q.occ, In64 x) ∧ In64 q.ord
theorem shp_Q {n : Nat} {vs : List AV} (h : Shp Go.Proofs.Tryz.prog n 28 vs) (c : List Df) (hc : c.length ≤ 140737488355328) : ∃ q : Qy, vs = encQ q ∧ q.Raw c ∧ q.In2 := by
  obtain ⟨m, parts, _, rfl, hl, hp⟩ := shp_struct Go.Proofs.Tryz.underlying28 h
  match parts, hl with
  | [p0, p1, p2, p3, p4, p5], _ =>
    obtain ⟨occ, rfl, h0, i0⟩ := shp_Is2 (hp 0 _ p0 rfl rfl).2
    obtain ⟨p, rfl, h1, i1⟩ := shp_Es (hp 1 _ p1 rfl rfl).2
    obtain ⟨by_, rfl, i2⟩ := shp_int Go.Proofs.Tryz.underlying3 (hp 2 _ p2 rfl rfl).2
    obtain ⟨sums, rfl, h3, i3⟩ := shp_Is2 (hp 3 _ p3 rfl rfl).2
    obtain ⟨out, rfl, h4, i4⟩ := shp_Is2 (hp 4 _ p4 rfl rfl).2
    obtain ⟨ord, rfl, i5⟩ := shp_int Go.Proofs.Tryz.underlying3 (hp 5 _ p5 rfl rfl).2
    exact ⟨⟨occ, p, by_, sums, out, ord⟩, rfl, ⟨hc, h0, h1, h3, h4, fun e he => (i1 e he).1⟩, ⟨i4, i3, wf64 i2⟩, i0, wf64 i5⟩
theorem asV_C (vs : List AV) : asV Go.Proofs.Tryz.prog 24 vs = .agg vs := by simp only [asV, Go.Proofs.Tryz.underlying24]
theorem asV_Q (vs : List AV) : asV Go.Proofs.Tryz.prog 28 vs = .agg vs := by simp only [asV, Go.Proofs.Tryz.underlying28]
theorem told_CQ {ts : List TypeId} {us : List AV} (h : ToldAll Go.Proofs.Tryz.prog (24 :: 28 :: ts) us) :
    ∃ (c : List Df) (q : Qy) (us' : List AV), us = .agg [.sl (c.map encD)] :: .agg (encQ q) :: us' ∧ (c.length ≤ 140737488355328 ∧ ∀ d ∈ c, In64 d.cols ∧ In64 d.rows) ∧ q.Raw c ∧ q.In2 ∧ ToldAll Go.Proofs.Tryz.prog ts us' := by
  simp only [ToldAll] at h
  obtain ⟨n, vs, us1, rfl, h1, n2, vs2, us2, rfl, h2, h3⟩ := h
  obtain ⟨c, rfl, hc, hc2⟩ := shp_C h1
  obtain ⟨q, rfl, hq, hq2⟩ := shp_Q h2 c hc
  exact ⟨c, q, us2, by rw [asV_C, asV_Q], ⟨hc, hc2⟩, hq, hq2, h3⟩
theorem told_I {ts : List TypeId} {us : List AV} (h : ToldAll Go.Proofs.Tryz.prog (3 :: ts) us) : ∃ (n : Int) (us' : List AV), us = .int n :: us' ∧ In64 n ∧ ToldAll Go.Proofs.Tryz.prog ts us' := by
  simp only [ToldAll] at h
  obtain ⟨n, vs, us1, rfl, h1, h3⟩ := h
  obtain ⟨k, rfl, hk⟩ := shp_int Go.Proofs.Tryz.underlying3 h1
  exact ⟨k, us1, by rw [asV_I]; rfl, wf64 hk, h3⟩
theorem told_nil {us : List AV} (h : ToldAll Go.Proofs.Tryz.prog [] us) : us = [] := by simpa only [ToldAll] using h
end Go.Sim.Tryz
set_option linter.unusedSimpArgs false
set_option linter.unusedVariables false
set_option maxRecDepth 100000
namespace Go.Sim.Tryz
open Go Go.Sim
attribute [local push_cast] aops_cons aops_nil aopG_none aopG_some aopP_eq aopE_eq aopC_eq aopE?_eq aopC?_eq aopB_eq aopB?_eq abr anilq gopP_eq gopL_eq ahead_cons ahead_nil ahdG_none ahdG_some ahdP_eq ahdN_eq ahdC_eq ahdN?_eq ahdS_eq ahdS?_eq astoreN ahdC?_eq ghdP_eq ghdC_eq ghdC?_eq ghdZ_f ghdZ_t ahdI_eq ahdI?_eq ghdN?_eq aim_nil aim_cons isIn_nil isIn_cons aimm aheP_eq aheA_eq aheC_eq aheC?_eq aheI?_eq aheA?_eq gheP_eq gheC_eq gheC?_eq gheZ_eq aheG_none aheG_some aheff_cons aheff_nil aapp gro_rsl gro_lit gro_esl opt_some opt_none no_eq acondT_true acondT_false acondT_lit aw_skip aw_region aw_regionD aw_seq aw_cond aw_block aw_loop aw_exit aw_label aw_ret thn_normal thn_exit thn_ret inb_normal inb_exit inb_ret qret_ret qret_normal gcond apure aeff anew acallee ares aresT aresL aresC ares1 qfin_eq ev ofV evL gokL tget tput_some tput_none initT abin aint aun aload afaddr aiaddr afield aindex aextract apick pickv_lit Bool.or_false Bool.false_or Bool.or_true Bool.true_or imp_self aslice chunk abound aconv abuild afill splice alen aminmax abuiltin anil apart Value.oneCell' astore aappend srcEs abuildSlice asets isEq plus_obj plus_nxt plus_add plus_set plus_del IntKind.bits Option.map_some Option.map_none Option.bind_some Option.bind_none Option.join_some Option.getD_some Option.getD_none Option.toList Option.isSome_some List.getElem?_toArray List.getElem?_cons_zero List.getElem?_cons_succ List.getElem?_nil List.length_cons List.length_nil List.length_map List.head?_cons List.cons_append List.nil_append List.append_nil List.map_cons List.map_nil List.getD_cons_zero List.getD_cons_succ List.replicate_succ List.replicate_zero List.set_cons_zero List.set_cons_succ List.take_succ_cons List.take_zero List.drop_succ_cons List.drop_zero List.all_cons List.all_nil Nat.zero_add if_true if_false true_and and_true false_and and_false true_implies implies_true forall_const Bool.and_true Bool.true_and Bool.false_and Bool.and_false Bool.true_beq Bool.false_beq Bool.not_not beq_tt beq_ff Int.toNat_natCast decide_true decide_false Bool.not_true Bool.not_false Bool.true_eq_false Bool.false_eq_true false_implies exists_prop eq_self bne_self_eq_false beq_self_eq_true decide_eq_true_eq decide_eq_false_iff_not Bool.not_eq_true' Bool.not_eq_false' AV.int AV.bool AV.nilS ne_eq not_false_eq_true not_true_eq_false exists_eq_left exists_eq_left' Nat.lt_irrefl core_lit grd_lit acells_lit one_lit core_agg grd_agg acells_agg one_agg core_tup grd_tup acells_tup one_tup core_sl grd_sl acells_sl one_sl core_esl grd_esl acells_esl one_esl core_rsl grd_rsl acells_rsl one_rsl core_ptr grd_ptr acells_ptr one_ptr core_iptr grd_iptr acells_iptr one_iptr core_clo grd_clo acells_clo one_clo core_mp grd_mp acells_mp one_mp core_any grd_any acells_any one_any core_gv grd_gv fit_agg fit_lit fit_sl fit_esl fit_rsl fit_ptr fit_iptr fit_clo fit_mp retq_ret retq_normal set_nxt set_set plus_obj_set plus_set_set app_get0 app_get app_set0 app_set List.append_assoc List.length_append List.length_set Nat.lt_add_one Nat.add_lt_add_iff_right Nat.lt_add_right_iff_pos Nat.add_lt_add_iff_left List.mem_cons List.not_mem_nil or_false forall_eq forall_eq_or_imp lt_s0 lt_s1 lt_s2 lt_s3 lt_s4 lt_s5 lt_s6 lt_s7 lt_s8 pickv_t pickv_f or_nand or_nand2 imp_and_l SealT SealOs sealO_cells sl_lit sl_any sl_agg sl_tup sl_sl sl_rsl slO sl_esl sl_nil sl_eslesl sl_eslnil sl_rslrsl sl_eslrsl sl_nilrsl sl_ptr sl_iptr sl_ptri slP sl_clo sl_mp sl_gv sll_nil sll_cons slll_nil slll_cons shut_eq shutO Option.join_none Fn.func.injEq and_self sealL_self sealLL_self seal_self PureL PureLL Pure Nat.le_refl Nat.zero_le AV.lit.injEq Value.int.injEq Value.bool.injEq false_or or_true true_or Int.natCast_zero Int.ofNat_zero Int.cast_ofNat_Int Int.natCast_add Int.natCast_one Option.some.injEq piL_is sop_nil sop_cons sop_none sop_some sopO_some sop_new shut_pi shutL_nil shutL_cons exQ_exit exQ_ret exQ_normal Go.Sim.Tryz.ty_load1 Go.Sim.Tryz.ty_zero1 Go.Sim.Tryz.ty_load2 Go.Sim.Tryz.ty_zero2 Go.Sim.Tryz.ty_und2 Go.Sim.Tryz.ty_load3 Go.Sim.Tryz.ty_zero3 Go.Sim.Tryz.ty_und3 Go.Sim.Tryz.ty_load4 Go.Sim.Tryz.ty_zero4 Go.Sim.Tryz.ty_und4 Go.Sim.Tryz.ty_load5 Go.Sim.Tryz.ty_zero5 Go.Sim.Tryz.ty_und5 Go.Sim.Tryz.ty_load9 Go.Sim.Tryz.ty_zero9 Go.Sim.Tryz.ty_und9 Go.Sim.Tryz.ty_load22 Go.Sim.Tryz.ty_zero22 Go.Sim.Tryz.ty_el22 Go.Sim.Tryz.ty_zeroE22 Go.Sim.Tryz.ty_load24 Go.Sim.Tryz.ty_zero24 Go.Sim.Tryz.ty_fld24_0 Go.Sim.Tryz.ty_part24_0 Go.Sim.Tryz.ty_struct24 Go.Sim.Tryz.ty_load25 Go.Sim.Tryz.ty_zero25 Go.Sim.Tryz.ty_el25 Go.Sim.Tryz.ty_zeroE25 Go.Sim.Tryz.ty_load26 Go.Sim.Tryz.ty_zero26 Go.Sim.Tryz.ty_el26 Go.Sim.Tryz.ty_zeroE26 Go.Sim.Tryz.ty_load28 Go.Sim.Tryz.ty_zero28 Go.Sim.Tryz.ty_fld28_0 Go.Sim.Tryz.ty_part28_0 Go.Sim.Tryz.ty_fld28_1 Go.Sim.Tryz.ty_part28_1 Go.Sim.Tryz.ty_fld28_2 Go.Sim.Tryz.ty_part28_2 Go.Sim.Tryz.ty_fld28_3 Go.Sim.Tryz.ty_part28_3 Go.Sim.Tryz.ty_fld28_4 Go.Sim.Tryz.ty_part28_4 Go.Sim.Tryz.ty_fld28_5 Go.Sim.Tryz.ty_part28_5 Go.Sim.Tryz.ty_struct28 Go.Sim.Tryz.ty_load36 Go.Sim.Tryz.ty_zero36 Go.Sim.Tryz.ty_fld36_0 Go.Sim.Tryz.ty_part36_0 Go.Sim.Tryz.ty_fld36_1 Go.Sim.Tryz.ty_part36_1 Go.Sim.Tryz.ty_struct36 Go.Sim.Tryz.ty_load38 Go.Sim.Tryz.ty_zero38 Go.Sim.Tryz.ty_fld38_0 Go.Sim.Tryz.ty_part38_0 Go.Sim.Tryz.ty_fld38_1 Go.Sim.Tryz.ty_part38_1 Go.Sim.Tryz.ty_fld38_2 Go.Sim.Tryz.ty_part38_2 Go.Sim.Tryz.ty_fld38_3 Go.Sim.Tryz.ty_part38_3 Go.Sim.Tryz.ty_struct38 Go.Sim.Tryz.ty_load48 Go.Sim.Tryz.ty_zero48 Go.Sim.Tryz.ty_el48 Go.Sim.Tryz.ty_zeroE48 Go.Sim.Tryz.ty_load51 Go.Sim.Tryz.ty_zero51 Go.Sim.Tryz.ty_arr51 Go.Sim.Tryz.ty_part51_0 Go.Sim.Tryz.ty_part51_1 Go.Sim.Tryz.ty_struct51 Go.Sim.Tryz.ty_load59 Go.Sim.Tryz.ty_zero59 Go.Sim.Tryz.ty_fld59_0 Go.Sim.Tryz.ty_part59_0 Go.Sim.Tryz.ty_fld59_1 Go.Sim.Tryz.ty_part59_1 Go.Sim.Tryz.ty_struct59 Go.Sim.Tryz.ty_load60 Go.Sim.Tryz.ty_zero60 Go.Sim.Tryz.ty_el60 Go.Sim.Tryz.ty_zeroE60 Go.Sim.Tryz.ty_load62 Go.Sim.Tryz.ty_zero62 Go.Sim.Tryz.ty_fld62_0 Go.Sim.Tryz.ty_part62_0 Go.Sim.Tryz.ty_struct62 Go.Sim.Tryz.ty_load67 Go.Sim.Tryz.ty_zero67 Go.Sim.Tryz.ty_load68 Go.Sim.Tryz.ty_zero68 Go.Sim.Tryz.ty_load75 Go.Sim.Tryz.ty_zero75 Go.Sim.Tryz.ty_load76 Go.Sim.Tryz.ty_zero76 Go.Sim.Tryz.ty_und76 Go.Sim.Tryz.ty_load82 Go.Sim.Tryz.ty_zero82 Go.Sim.Tryz.ty_und82 Go.Sim.Tryz.ty_load85 Go.Sim.Tryz.ty_zero85 Go.Sim.Tryz.ty_und85 Go.Sim.Tryz.ty_load89 Go.Sim.Tryz.ty_zero89 Go.Sim.Tryz.ty_el89 Go.Sim.Tryz.ty_zeroE89 Go.Sim.Tryz.ty_load90 Go.Sim.Tryz.ty_zero90 Go.Sim.Tryz.ty_el90 Go.Sim.Tryz.ty_zeroE90 Go.Sim.Tryz.ty_load93 Go.Sim.Tryz.ty_zero93 Go.Sim.Tryz.ty_load98 Go.Sim.Tryz.ty_zero98 Go.Sim.Tryz.ty_fld98_0 Go.Sim.Tryz.ty_part98_0 Go.Sim.Tryz.ty_fld98_1 Go.Sim.Tryz.ty_part98_1 Go.Sim.Tryz.ty_fld98_2 Go.Sim.Tryz.ty_part98_2 Go.Sim.Tryz.ty_struct98 Go.Sim.Tryz.ty_load100 Go.Sim.Tryz.ty_zero100 Go.Sim.Tryz.ty_load106 Go.Sim.Tryz.ty_zero106 Go.Sim.Tryz.ty_load110 Go.Sim.Tryz.ty_zero110 Go.Sim.Tryz.ty_und110 Go.Sim.Tryz.ty_load118 Go.Sim.Tryz.ty_zero118 Go.Sim.Tryz.ty_und118 Go.Sim.Tryz.ty_load121 Go.Sim.Tryz.ty_zero121 Go.Sim.Tryz.ty_load128 Go.Sim.Tryz.ty_zero128 Go.Sim.Tryz.ty_und128 Go.Sim.Tryz.ty_load132 Go.Sim.Tryz.ty_zero132 encE_mk encE_take encE_len encV encE_one encEs_pure encE_pure

theorem rowPs_pure (l : List (Int × Int)) : PureLL (l.map encP) := rowP_pure l
set_option maxHeartbeats 1000000 in
theorem queryPairs_ok (c : List Df) (q : Qy) (a b : Int) (hr : q.Raw c) : Quiet Go.Proofs.Tryz.prog 6 [.agg [.sl (c.map encD)], .agg (encQ q), .int a, .int b] (.bool true) := by
  have hf5 := few5_ok c q hr
  refine quiet_of (rs := #[.tmp 8]) Go.Proofs.Tryz.func6 rfl rfl rfl mixed rfl rfl fun H hs => ?_
  simp -implicitDefEqProofs only [push_cast, Nat.reduceAdd, Nat.reduceSub, Nat.reduceMul, Nat.reduceLT, Nat.reduceLeDiff, Nat.reduceEqDiff, Nat.reduceBEq, reduceCtorEq, reduceIte, Int.reduceLE, Int.reduceLT, Int.reduceNeg, Int.reduceToNat, encQ]
  refine callq awake5_ok ?_
  simp -implicitDefEqProofs only [push_cast, Nat.reduceAdd, Nat.reduceSub, Nat.reduceMul, Nat.reduceLT, Nat.reduceLeDiff, Nat.reduceEqDiff, Nat.reduceBEq, reduceCtorEq, reduceIte, Int.reduceLE, Int.reduceLT, Int.reduceNeg, Int.reduceToNat, encQ]
  refine callq hf5 ?_
  cases hf : fewQ c q
  · simp -implicitDefEqProofs only [push_cast, Nat.reduceAdd, Nat.reduceSub, Nat.reduceMul, Nat.reduceLT, Nat.reduceLeDiff, Nat.reduceEqDiff, Nat.reduceBEq, reduceCtorEq, reduceIte, Int.reduceLE, Int.reduceLT, Int.reduceNeg, Int.reduceToNat, encQ]
    refine gcallq' (.bool true) (fun h => by cases h) (fun h => by cases h) ?_
    simp -implicitDefEqProofs only [push_cast, Nat.reduceAdd, Nat.reduceSub, Nat.reduceMul, Nat.reduceLT, Nat.reduceLeDiff, Nat.reduceEqDiff, Nat.reduceBEq, reduceCtorEq, reduceIte, Int.reduceLE, Int.reduceLT, Int.reduceNeg, Int.reduceToNat]
  have hcl : c.length ≤ 1000000 := by have := (fewQ_split hf).1; omega
  have hq := ok_of_few hr hf
  obtain ⟨h10, h20, h8, _⟩ := fewQ_split hf
  have hP := hq.1
  simp -implicitDefEqProofs only [push_cast, Nat.reduceAdd, Nat.reduceSub, Nat.reduceMul, Nat.reduceLT, Nat.reduceLeDiff, Nat.reduceEqDiff, Nat.reduceBEq, reduceCtorEq, reduceIte, Int.reduceLE, Int.reduceLT, Int.reduceNeg, Int.reduceToNat, encQ]
  refine gcall trivial (callq (MayQ_ok c hcl q hq) ?_)
  simp -implicitDefEqProofs only [push_cast, Nat.reduceAdd, Nat.reduceSub, Nat.reduceMul, Nat.reduceLT, Nat.reduceLeDiff, Nat.reduceEqDiff, Nat.reduceBEq, reduceCtorEq, reduceIte, Int.reduceLE, Int.reduceLT, Int.reduceNeg, Int.reduceToNat, encQ]
  intro h
  simp only [Bool.or_eq_false_iff, Bool.not_eq_false', decide_eq_false_iff_not, decide_eq_true_eq] at h
  have hm : q.may c = true := by obtain ⟨⟨⟨⟨⟨h1, _⟩, _⟩, _⟩, _⟩, _⟩ := h; exact h1
  have hab := apart_band (a := a) (b := b) (by obtain ⟨_, h2⟩ := h; exact h2)
  have hsw := pairs_swap q hab
  have hpn := pairs_len q a b
  have hnl : (q.new a b).length ≤ 8 := Nat.le_trans (idxF_lt _ _) h8
  obtain ⟨ol, hol⟩ := orders_head q
  have hpm := fun p => pairs_mem (q := q) (p := p) hab
  have hnd : q.orders.Nodup := pw_nodup (uniq_pw _)
  have hor : q.orders.length ≤ 17 := by
    rw [← orders_R]
    have := ordUp_len q 16
    rw [ordUp] at this
    omega
  have hab2 : (q.pairs b a).length = (q.pairs a b).length := by rw [hsw, List.length_map]
  have hgt : ∀ i, (h1 : i < (q.pairs a b).length) → (h2 : i < (q.pairs b a).length) → (q.pairs b a)[i] = ((q.pairs a b)[i].2, (q.pairs a b)[i].1) := fun i h1 h2 => by
    simp only [hsw, List.getElem_map]
    rfl
  refine callq (Pairs_ok q hq a b) ?_
  simp -implicitDefEqProofs only [push_cast, Nat.reduceAdd, Nat.reduceSub, Nat.reduceMul, Nat.reduceLT, Nat.reduceLeDiff, Nat.reduceEqDiff, Nat.reduceBEq, reduceCtorEq, reduceIte, Int.reduceLE, Int.reduceLT, Int.reduceNeg, Int.reduceToNat, encQ]
  refine callq (Pairs_ok q hq b a) ?_
  simp -implicitDefEqProofs only [push_cast, Nat.reduceAdd, Nat.reduceSub, Nat.reduceMul, Nat.reduceLT, Nat.reduceLeDiff, Nat.reduceEqDiff, Nat.reduceBEq, reduceCtorEq, reduceIte, Int.reduceLE, Int.reduceLT, Int.reduceNeg, Int.reduceToNat, encQ]
  refine callq (Orders_ok q hq) ?_
  simp -implicitDefEqProofs only [push_cast, Nat.reduceAdd, Nat.reduceSub, Nat.reduceMul, Nat.reduceLT, Nat.reduceLeDiff, Nat.reduceEqDiff, Nat.reduceBEq, reduceCtorEq, reduceIte, Int.reduceLE, Int.reduceLT, Int.reduceNeg, Int.reduceToNat, encQ]
  generalize q.pairs a b = p at hpn hpm hab2 hgt ⊢
  generalize q.pairs b a = s at hab2 hgt ⊢
  generalize q.orders = o at hol hnd hor hpm ⊢
  have hlt : (((q.new a b).length : Int) < (p.length : Int)) = False := by simp; omega
  simp -implicitDefEqProofs only [push_cast, Nat.reduceAdd, Nat.reduceSub, Nat.reduceMul, Nat.reduceLT, Nat.reduceLeDiff, Nat.reduceEqDiff, Nat.reduceBEq, reduceCtorEq, reduceIte, Int.reduceLE, Int.reduceLT, Int.reduceNeg, Int.reduceToNat, encQ, hab2]
  refine gcall trivial (callq (New_ok q hq a b) ?_)
  have ho0 : ((o.map encI).getD 0 []) = encI (-1) := by rw [hol]; rfl
  have hne : ((o.length : Int) = 0) = False := by rw [hol]; simp; omega
  have hopos : ((0 : Int) < (o.length : Int)) = True := by rw [hol]; simp
  simp -implicitDefEqProofs only [push_cast, Nat.reduceAdd, Nat.reduceSub, Nat.reduceMul, Nat.reduceLT, Nat.reduceLeDiff, Nat.reduceEqDiff, Nat.reduceBEq, reduceCtorEq, reduceIte, Int.reduceLE, Int.reduceLT, Int.reduceNeg, Int.reduceToNat, encQ, hlt, hne, hopos, ho0, encI]
  refine loop_at hs (σ := Nat) (fun i => i ≤ p.length) (fun i => p.length - i)
    (fun i => [(14, .int i), (11, .sl (p.map encP)), (12, .sl (s.map encP)), (13, .sl (o.map encI)), (2, .int a), (3, .int b)]) (fun i => []) [] 0 (by omega) rfl ?_ ?_ ?_
  · (try simp -implicitDefEqProofs only [push_cast, Nat.reduceAdd, Nat.reduceSub, Nat.reduceMul, Nat.reduceLT, Nat.reduceLeDiff, Nat.reduceEqDiff, Nat.reduceBEq, reduceCtorEq, reduceIte, Int.reduceLE, Int.reduceLT, Int.reduceNeg, Int.reduceToNat, rowPs_pure, encIs_pure])
  · (try simp -implicitDefEqProofs only [push_cast, Nat.reduceAdd, Nat.reduceSub, Nat.reduceMul, Nat.reduceLT, Nat.reduceLeDiff, Nat.reduceEqDiff, Nat.reduceBEq, reduceCtorEq, reduceIte, Int.reduceLE, Int.reduceLT, Int.reduceNeg, Int.reduceToNat])
  intro i hi2
  by_cases hi : i < p.length
  · have hi' : ((i : Int) < (p.length : Int)) = True := by simp; omega
    have hi0 : (0 ≤ (i : Int)) = True := by simp
    obtain ⟨hx, hy, hxa, hyb, hne2, hxo, hyo⟩ := hpm _ (List.getElem_mem hi)
    have his : i < s.length := by omega
    have hsi := hgt i hi his
    have hct := count_two hnd hne2 hxo hyo
    rw [bitC] at hxa hyb
    have hps := encPs_get p i hi
    have hss := encPs_get s i his
    rw [hsi] at hss
    rw [encP] at hps hss
    generalize p[i].1 = x at hx hxa hps hss hct ⊢
    generalize p[i].2 = y at hy hyb hps hss hct ⊢
    obtain ⟨u, hu⟩ : ∃ u : Nat, x / 4 = u := ⟨(x / 4).toNat, by omega⟩
    obtain ⟨v, hv⟩ : ∃ v : Nat, y / 4 = v := ⟨(y / 4).toNat, by omega⟩
    have hqx : IntKind.wrap .i64 (Int.tdiv x 4) = (u : Int) := by rw [Int.tdiv_eq_ediv_of_nonneg (by omega), wrap64 (by omega) (by omega), hu]
    have hqy : IntKind.wrap .i64 (Int.tdiv y 4) = (v : Int) := by rw [Int.tdiv_eq_ediv_of_nonneg (by omega), wrap64 (by omega) (by omega), hv]
    rw [hu, Int.toNat_natCast] at hxa
    rw [hv, Int.toNat_natCast] at hyb
    simp -implicitDefEqProofs only [push_cast, Nat.reduceAdd, Nat.reduceSub, Nat.reduceMul, Nat.reduceLT, Nat.reduceLeDiff, Nat.reduceEqDiff, Nat.reduceBEq, reduceCtorEq, reduceIte, Int.reduceLE, Int.reduceLT, Int.reduceNeg, Int.reduceToNat, hi', hi0, hps, hqx]
    refine ⟨by decide, by decide, callq (Bit_ok a u (by omega)) ?_⟩
    simp -implicitDefEqProofs only [push_cast, Nat.reduceAdd, Nat.reduceSub, Nat.reduceMul, Nat.reduceLT, Nat.reduceLeDiff, Nat.reduceEqDiff, Nat.reduceBEq, reduceCtorEq, reduceIte, Int.reduceLE, Int.reduceLT, Int.reduceNeg, Int.reduceToNat, hi', hi0, hps, hqy, hxa]
    refine ⟨by decide, by decide, callq (Bit_ok b v (by omega)) ?_⟩
    simp -implicitDefEqProofs only [push_cast, Nat.reduceAdd, Nat.reduceSub, Nat.reduceMul, Nat.reduceLT, Nat.reduceLeDiff, Nat.reduceEqDiff, Nat.reduceBEq, reduceCtorEq, reduceIte, Int.reduceLE, Int.reduceLT, Int.reduceNeg, Int.reduceToNat, hi', hi0, hyb]
    refine loop_at hs (σ := Nat) (fun j => j ≤ o.length) (fun j => o.length - j)
      (fun j => [(18, .int j), (17, .int ((o.take j).countP fun k => decide (k = x) || decide (k = y))), (15, .bool true), (16, .bool true), (14, .int i), (11, .sl (p.map encP)), (12, .sl (s.map encP)), (13, .sl (o.map encI)), (2, .int a), (3, .int b)]) (fun i => []) [] 0 (by omega) rfl ?_ ?_ ?_
    · (try simp -implicitDefEqProofs only [push_cast, Nat.reduceAdd, Nat.reduceSub, Nat.reduceMul, Nat.reduceLT, Nat.reduceLeDiff, Nat.reduceEqDiff, Nat.reduceBEq, reduceCtorEq, reduceIte, Int.reduceLE, Int.reduceLT, Int.reduceNeg, Int.reduceToNat, rowPs_pure, encIs_pure, List.take_zero, List.countP_nil])
    · (try simp -implicitDefEqProofs only [push_cast, Nat.reduceAdd, Nat.reduceSub, Nat.reduceMul, Nat.reduceLT, Nat.reduceLeDiff, Nat.reduceEqDiff, Nat.reduceBEq, reduceCtorEq, reduceIte, Int.reduceLE, Int.reduceLT, Int.reduceNeg, Int.reduceToNat])
    intro j hj2
    have hcl2 : (o.take j).countP (fun k => decide (k = x) || decide (k = y)) ≤ j := Nat.le_trans List.countP_le_length (by rw [List.length_take]; omega)
    by_cases hj : j < o.length
    · have hj' : ((j : Int) < (o.length : Int)) = True := by simp; omega
      have hj0 : (0 ≤ (j : Int)) = True := by simp
      have hcs : (o.take (j + 1)).countP (fun k => decide (k = x) || decide (k = y)) = (o.take j).countP (fun k => decide (k = x) || decide (k = y)) + (if (decide (o[j] = x) || decide (o[j] = y)) = true then 1 else 0) := by
        rw [List.take_succ_eq_append_getElem hj, List.countP_append, List.countP_cons, List.countP_nil, Nat.zero_add]
      simp -implicitDefEqProofs only [push_cast, Nat.reduceAdd, Nat.reduceSub, Nat.reduceMul, Nat.reduceLT, Nat.reduceLeDiff, Nat.reduceEqDiff, Nat.reduceBEq, reduceCtorEq, reduceIte, Int.reduceLE, Int.reduceLT, Int.reduceNeg, Int.reduceToNat, hj', hj0]
      refine areg_at 22 (by kernel_rfl) (by kernel_rfl) ?_
      simp -implicitDefEqProofs only [push_cast, Nat.reduceAdd, Nat.reduceSub, Nat.reduceMul, Nat.reduceLT, Nat.reduceLeDiff, Nat.reduceEqDiff, Nat.reduceBEq, reduceCtorEq, reduceIte, Int.reduceLE, Int.reduceLT, Int.reduceNeg, Int.reduceToNat, hj', hj0, hi', hi0, hps, encIs_get o j hj, encI]
      refine ⟨by decide, fun _ => by decide, fun h => ?_, fun h => ?_⟩
      · rw [h, if_pos rfl] at hcs
        rw [wrap64 (n := (j : Int) + 1) (by omega) (by omega), wrap64 (by omega) (by omega)]
        refine next_at [] (j + 1) (by omega) (by omega) rfl ?_ ?_
        · (try simp -implicitDefEqProofs only [push_cast, Nat.reduceAdd, Nat.reduceSub, Nat.reduceMul, Nat.reduceLT, Nat.reduceLeDiff, Nat.reduceEqDiff, Nat.reduceBEq, reduceCtorEq, reduceIte, Int.reduceLE, Int.reduceLT, Int.reduceNeg, Int.reduceToNat, hcs, rowPs_pure, encIs_pure])
        · (try simp -implicitDefEqProofs only [push_cast, Nat.reduceAdd, Nat.reduceSub, Nat.reduceMul, Nat.reduceLT, Nat.reduceLeDiff, Nat.reduceEqDiff, Nat.reduceBEq, reduceCtorEq, reduceIte, Int.reduceLE, Int.reduceLT, Int.reduceNeg, Int.reduceToNat])
      · replace hcs : (o.take (j + 1)).countP (fun k => decide (k = x) || decide (k = y)) = (o.take j).countP (fun k => decide (k = x) || decide (k = y)) := by rw [hcs, h]; rfl
        rw [wrap64 (n := (j : Int) + 1) (by omega) (by omega)]
        refine next_at [] (j + 1) (by omega) (by omega) rfl ?_ ?_
        · (try simp -implicitDefEqProofs only [push_cast, Nat.reduceAdd, Nat.reduceSub, Nat.reduceMul, Nat.reduceLT, Nat.reduceLeDiff, Nat.reduceEqDiff, Nat.reduceBEq, reduceCtorEq, reduceIte, Int.reduceLE, Int.reduceLT, Int.reduceNeg, Int.reduceToNat, hcs, rowPs_pure, encIs_pure])
        · (try simp -implicitDefEqProofs only [push_cast, Nat.reduceAdd, Nat.reduceSub, Nat.reduceMul, Nat.reduceLT, Nat.reduceLeDiff, Nat.reduceEqDiff, Nat.reduceBEq, reduceCtorEq, reduceIte, Int.reduceLE, Int.reduceLT, Int.reduceNeg, Int.reduceToNat])
    · have hj' : ((j : Int) < (o.length : Int)) = False := by simp; omega
      rw [List.take_of_length_le (by omega), hct]
      simp -implicitDefEqProofs only [push_cast, Nat.reduceAdd, Nat.reduceSub, Nat.reduceMul, Nat.reduceLT, Nat.reduceLeDiff, Nat.reduceEqDiff, Nat.reduceBEq, reduceCtorEq, reduceIte, Int.reduceLE, Int.reduceLT, Int.reduceNeg, Int.reduceToNat, hj']
      refine areg_at 28 (by kernel_rfl) (by kernel_rfl) ?_
      have hcm : CmpAt Go.Proofs.Tryz.prog 51 [.int .i64 y, .int .i64 x] [.int .i64 y, .int .i64 x] (decide (y = y) && decide (x = x)) := cmpP y x y x
      simp -implicitDefEqProofs only [push_cast, Nat.reduceAdd, Nat.reduceSub, Nat.reduceMul, Nat.reduceLT, Nat.reduceLeDiff, Nat.reduceEqDiff, Nat.reduceBEq, reduceCtorEq, reduceIte, Int.reduceLE, Int.reduceLT, Int.reduceNeg, Int.reduceToNat, hi', hi0, hps, hss, hab2, lits, cellsEq, cellEq, Int.reduceAdd, Int.reduceEq]
      have hcm' : CmpAt Go.Proofs.Tryz.prog 51 [.int .i64 y, .int .i64 x] [.int .i64 y, .int .i64 x] true := by simpa using hcm
      rw [wrap64 (n := (i : Int) + 1) (by omega) (by omega)]
      refine ⟨hcm', next_at [] (i + 1) (by omega) (by omega) rfl ?_ ?_⟩
      · (try simp -implicitDefEqProofs only [push_cast, Nat.reduceAdd, Nat.reduceSub, Nat.reduceMul, Nat.reduceLT, Nat.reduceLeDiff, Nat.reduceEqDiff, Nat.reduceBEq, reduceCtorEq, reduceIte, Int.reduceLE, Int.reduceLT, Int.reduceNeg, Int.reduceToNat, rowPs_pure, encIs_pure])
      · (try simp -implicitDefEqProofs only [push_cast, Nat.reduceAdd, Nat.reduceSub, Nat.reduceMul, Nat.reduceLT, Nat.reduceLeDiff, Nat.reduceEqDiff, Nat.reduceBEq, reduceCtorEq, reduceIte, Int.reduceLE, Int.reduceLT, Int.reduceNeg, Int.reduceToNat])
  · have hi' : ((i : Int) < (p.length : Int)) = False := by simp; omega
    simp -implicitDefEqProofs only [push_cast, Nat.reduceAdd, Nat.reduceSub, Nat.reduceMul, Nat.reduceLT, Nat.reduceLeDiff, Nat.reduceEqDiff, Nat.reduceBEq, reduceCtorEq, reduceIte, Int.reduceLE, Int.reduceLT, Int.reduceNeg, Int.reduceToNat, hi']
    (try simp -implicitDefEqProofs only [push_cast, Nat.reduceAdd, Nat.reduceSub, Nat.reduceMul, Nat.reduceLT, Nat.reduceLeDiff, Nat.reduceEqDiff, Nat.reduceBEq, reduceCtorEq, reduceIte, Int.reduceLE, Int.reduceLT, Int.reduceNeg, Int.reduceToNat])
theorem queryPairs_law (us : List AV) (h : ToldAll Go.Proofs.Tryz.prog Go.Proofs.Tryz.f6.params.toList us) : Quiet Go.Proofs.Tryz.prog 6 us (.bool true) := by
  have e1 : Go.Proofs.Tryz.f6.params.toList = [24, 28, 3, 3] := by kernel_rfl
  rw [e1] at h
  obtain ⟨c, q, us, rfl, _, hr, hin, h⟩ := told_CQ h
  obtain ⟨a, us, rfl, ha, h⟩ := told_I h
  obtain ⟨b, us, rfl, _, h⟩ := told_I h
  obtain rfl := told_nil h
  exact queryPairs_ok c q a b hr
end Go.Sim.Tryz
