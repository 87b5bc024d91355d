/- Each part of an expression, in turn: what a function that is called back leaves. Conditions: none. -/
import Derived.Test.YtnoajklojkmonaaGreatSimExpr
set_option linter.unusedSimpArgs false
set_option linter.unusedVariables false
set_option maxRecDepth 100000
namespace Go.Sim.Tryz
open Go Go.Sim
attribute [local push_cast] aops_cons aops_nil aopG_none aopG_some aopP_eq aopE_eq aopC_eq aopE?_eq aopC?_eq gopP_eq gopL_eq ahead_cons ahead_nil ahdG_none ahdG_some ahdP_eq ahdN_eq ahdC_eq ahdN?_eq ahdS_eq ahdS?_eq astoreN ahdC?_eq ghdP_eq ghdC_eq ghdC?_eq ghdZ_eq opt_some opt_none no_eq acondT_true acondT_false acondT_lit aw_skip aw_region aw_regionD aw_seq aw_cond aw_block aw_loop aw_exit aw_label aw_ret thn_normal thn_exit thn_ret inb_normal inb_exit inb_ret qret_ret qret_normal gcond apure aeff anew acallee ares aresT aresL aresC ares1 qfin_eq ev ofV evL gokL tget tput_some tput_none initT abin aint aun aload afaddr aiaddr afield aindex aextract apick pickv_lit Bool.or_false Bool.false_or Bool.or_true Bool.true_or imp_self aslice abound aconv abuild afill splice alen aminmax abuiltin anil apart Value.oneCell' astore aappend srcEs abuildSlice asets isEq plus_obj plus_nxt plus_add plus_set plus_del IntKind.bits Option.map_some Option.map_none Option.bind_some Option.bind_none Option.join_some Option.getD_some Option.getD_none Option.toList Option.isSome_some List.getElem?_toArray List.getElem?_cons_zero List.getElem?_cons_succ List.getElem?_nil List.length_cons List.length_nil List.length_map List.head?_cons List.cons_append List.nil_append List.append_nil List.map_cons List.map_nil List.getD_cons_zero List.getD_cons_succ List.replicate_succ List.replicate_zero List.set_cons_zero List.set_cons_succ List.take_succ_cons List.take_zero List.drop_succ_cons List.drop_zero List.all_cons List.all_nil Nat.zero_add if_true if_false true_and and_true false_and and_false true_implies implies_true forall_const Bool.and_true Bool.true_and Bool.false_and Bool.and_false Bool.true_beq Bool.false_beq Bool.not_not beq_tt beq_ff Int.toNat_natCast decide_true decide_false Bool.not_true Bool.not_false Bool.true_eq_false Bool.false_eq_true false_implies exists_prop eq_self bne_self_eq_false beq_self_eq_true decide_eq_true_eq decide_eq_false_iff_not Bool.not_eq_true' Bool.not_eq_false' AV.int AV.bool AV.nilS ne_eq not_false_eq_true not_true_eq_false exists_eq_left exists_eq_left' Nat.lt_irrefl core_lit grd_lit acells_lit one_lit core_agg grd_agg acells_agg one_agg core_tup grd_tup acells_tup one_tup core_sl grd_sl acells_sl one_sl core_esl grd_esl acells_esl one_esl core_rsl grd_rsl acells_rsl one_rsl core_ptr grd_ptr acells_ptr one_ptr core_iptr grd_iptr acells_iptr one_iptr core_clo grd_clo acells_clo one_clo core_mp grd_mp acells_mp one_mp core_any grd_any acells_any one_any core_gv grd_gv fit_agg fit_lit fit_sl fit_esl fit_rsl fit_ptr fit_iptr fit_clo fit_mp retq_ret retq_normal set_nxt set_set plus_obj_set plus_set_set app_get0 app_get app_set0 app_set List.append_assoc List.length_append List.length_set Nat.lt_add_one Nat.add_lt_add_iff_right Nat.lt_add_right_iff_pos Nat.add_lt_add_iff_left List.mem_cons List.not_mem_nil or_false forall_eq forall_eq_or_imp lt_s0 lt_s1 lt_s2 lt_s3 lt_s4 lt_s5 lt_s6 lt_s7 lt_s8 pickv_t pickv_f or_nand or_nand2 imp_and_l SealT SealOs sealO_cells sl_lit sl_any sl_agg sl_tup sl_sl sl_rsl slO sl_esl sl_nil sl_eslesl sl_eslnil sl_rslrsl sl_eslrsl sl_nilrsl sl_ptr sl_iptr sl_ptri slP sl_clo sl_mp sl_gv sll_nil sll_cons slll_nil slll_cons shut_eq shutO Option.join_none Fn.func.injEq and_self sealL_self sealLL_self seal_self PureL PureLL Pure Nat.le_refl Nat.zero_le AV.lit.injEq Value.int.injEq Value.bool.injEq false_or or_true true_or Int.natCast_zero Int.ofNat_zero Int.cast_ofNat_Int Int.natCast_add Int.natCast_one Option.some.injEq piL_is sop_nil sop_cons sop_none sop_some sopO_some sop_new shut_pi shutL_nil shutL_cons exQ_exit exQ_ret exQ_normal Go.Sim.Tryz.ty_load1 Go.Sim.Tryz.ty_zero1 Go.Sim.Tryz.ty_load2 Go.Sim.Tryz.ty_zero2 Go.Sim.Tryz.ty_und2 Go.Sim.Tryz.ty_load3 Go.Sim.Tryz.ty_zero3 Go.Sim.Tryz.ty_und3 Go.Sim.Tryz.ty_load4 Go.Sim.Tryz.ty_zero4 Go.Sim.Tryz.ty_und4 Go.Sim.Tryz.ty_load5 Go.Sim.Tryz.ty_zero5 Go.Sim.Tryz.ty_und5 Go.Sim.Tryz.ty_load9 Go.Sim.Tryz.ty_zero9 Go.Sim.Tryz.ty_und9 Go.Sim.Tryz.ty_load23 Go.Sim.Tryz.ty_zero23 Go.Sim.Tryz.ty_fld23_0 Go.Sim.Tryz.ty_part23_0 Go.Sim.Tryz.ty_fld23_1 Go.Sim.Tryz.ty_part23_1 Go.Sim.Tryz.ty_struct23 Go.Sim.Tryz.ty_load24 Go.Sim.Tryz.ty_zero24 Go.Sim.Tryz.ty_el24 Go.Sim.Tryz.ty_zeroE24 Go.Sim.Tryz.ty_load26 Go.Sim.Tryz.ty_zero26 Go.Sim.Tryz.ty_fld26_0 Go.Sim.Tryz.ty_part26_0 Go.Sim.Tryz.ty_fld26_1 Go.Sim.Tryz.ty_part26_1 Go.Sim.Tryz.ty_fld26_2 Go.Sim.Tryz.ty_part26_2 Go.Sim.Tryz.ty_fld26_3 Go.Sim.Tryz.ty_part26_3 Go.Sim.Tryz.ty_struct26 Go.Sim.Tryz.ty_load27 Go.Sim.Tryz.ty_zero27 Go.Sim.Tryz.ty_el27 Go.Sim.Tryz.ty_zeroE27 Go.Sim.Tryz.ty_load28 Go.Sim.Tryz.ty_zero28 Go.Sim.Tryz.ty_el28 Go.Sim.Tryz.ty_zeroE28 Go.Sim.Tryz.ty_load30 Go.Sim.Tryz.ty_zero30 Go.Sim.Tryz.ty_load34 Go.Sim.Tryz.ty_zero34 Go.Sim.Tryz.ty_load46 Go.Sim.Tryz.ty_zero46 Go.Sim.Tryz.ty_load49 Go.Sim.Tryz.ty_zero49 Go.Sim.Tryz.ty_fld49_0 Go.Sim.Tryz.ty_part49_0 Go.Sim.Tryz.ty_fld49_1 Go.Sim.Tryz.ty_part49_1 Go.Sim.Tryz.ty_fld49_2 Go.Sim.Tryz.ty_part49_2 Go.Sim.Tryz.ty_struct49 Go.Sim.Tryz.ty_load54 Go.Sim.Tryz.ty_zero54 Go.Sim.Tryz.ty_und54 Go.Sim.Tryz.ty_load56 Go.Sim.Tryz.ty_zero56 Go.Sim.Tryz.ty_load61 Go.Sim.Tryz.ty_zero61 Go.Sim.Tryz.ty_und61 Go.Sim.Tryz.ty_load69 Go.Sim.Tryz.ty_zero69 Go.Sim.Tryz.ty_und69 Go.Sim.Tryz.ty_load71 Go.Sim.Tryz.ty_zero71 Go.Sim.Tryz.ty_und71 Go.Sim.Tryz.ty_load77 Go.Sim.Tryz.ty_zero77 Go.Sim.Tryz.ty_load84 Go.Sim.Tryz.ty_zero84 Go.Sim.Tryz.ty_und84 Go.Sim.Tryz.ty_load88 Go.Sim.Tryz.ty_zero88 encE_mk encE_take encE_len encV encE_one encEs_pure encE_pure

/- What the parts leave of a state, until one stops it. -/
mutual
def eachS {σ : Type} (step : σ → Ex → Int → σ × Bool) : Ex → Int → σ → σ × Bool
  | .mk op col k n l, d, s =>
    if (step s (.mk op col k n l) d).2 then eachL step l (IntKind.wrap .i64 (d + 1)) (step s (.mk op col k n l) d).1 else ((step s (.mk op col k n l) d).1, false)
def eachL {σ : Type} (step : σ → Ex → Int → σ × Bool) : List Ex → Int → σ → σ × Bool
  | [], _, s => (s, true)
  | x :: l, d, s => if (eachS step x d s).2 then eachL step l d (eachS step x d s).1 else ((eachS step x d s).1, false)
end

mutual
theorem eachS_wt {σ : Type} (step : σ → Ex → Int → σ × Bool) (wt : σ → Nat) (hwt : ∀ s e d, wt (step s e d).1 ≤ wt s + 1) : ∀ (e : Ex) (d : Int) (s : σ), wt (eachS step e d s).1 ≤ wt s + cnt e
  | .mk op col k n l, d, s => by
    have h1 := hwt s (.mk op col k n l) d
    rw [eachS, cnt]
    split
    · have h2 := eachL_wt step wt hwt l (IntKind.wrap .i64 (d + 1)) (step s (.mk op col k n l) d).1
      omega
    · simp only []
      omega
theorem eachL_wt {σ : Type} (step : σ → Ex → Int → σ × Bool) (wt : σ → Nat) (hwt : ∀ s e d, wt (step s e d).1 ≤ wt s + 1) : ∀ (l : List Ex) (d : Int) (s : σ), wt (eachL step l d s).1 ≤ wt s + cntL l
  | [], d, s => by rw [eachL, cntL]; simp
  | x :: l, d, s => by
    have h1 := eachS_wt step wt hwt x d s
    rw [eachL, cntL]
    split
    · have h2 := eachL_wt step wt hwt l d (eachS step x d s).1
      omega
    · simp only []
      omega
end
theorem each_ok {σ : Type} (I : St σ) (step : σ → Ex → Int → σ × Bool) (k : Nat) (caps : List AV) (wt : σ → Nat) (hwt : ∀ s e d, wt (step s e d).1 ≤ wt s + 1) (M : Nat)
    (hstep : ∀ s e d H B, e.Ok → wt s < M → I.inv s H B → ACalls Go.Proofs.Tryz.prog k (.agg (encE e) :: .int d :: caps) H (fun r H' => r = .bool (step s e d).2 ∧ Moves I (step s e d).1 H B H')) (e : Ex) :
    ∀ (d : Int) (s : σ) (H : AH) (B : Nat → Prop), e.Ok → wt s + cnt e ≤ M → I.inv s H B → ACalls Go.Proofs.Tryz.prog 21 [.agg (encE e), .int d, .clo (.func k) [] caps] H (fun r H' => r = .bool (eachS step e d s).2 ∧ Moves I (eachS step e d s).1 H B H') := by
  induction e using Ex.ind with
  | h op col kk n l ih =>
  intro d s H B hok hw hI
  rw [cnt] at hw
  refine acalls_sc (rs := #[.tmp 6]) Go.Proofs.Tryz.func21 rfl rfl rfl mixed rfl (Nat.le_of_ble_eq_true rfl) fun hs _ => ?_
  have hlow := I.low hI
  have hok' := hok
  obtain ⟨hl, hlo⟩ := hok
  simp -implicitDefEqProofs only [push_cast, Nat.reduceAdd, Nat.reduceSub, Nat.reduceMul, Nat.reduceLT, Nat.reduceLeDiff, Nat.reduceEqDiff, Nat.reduceBEq, reduceCtorEq, reduceIte, Int.reduceLE, Int.reduceLT, Int.reduceNeg, Int.reduceToNat]
  have hc := (hstep s (.mk op col kk n l) d _ B hok' (by omega) (St.grow hI [some (.cells 5 [encE (.mk op col kk n l)] 0)])).hsc
  simp only [encE_mk] at hc
  refine hc.mono ?_
  rintro r H2 ⟨⟨rfl, hm⟩, hsc2, hle2, -⟩
  have hown := hm.own hlow (k := 0) (by simp)
  rw [← plus_nil hsc2]
  simp -implicitDefEqProofs only [push_cast, Nat.reduceAdd, Nat.reduceSub, Nat.reduceMul, Nat.reduceLT, Nat.reduceLeDiff, Nat.reduceEqDiff, Nat.reduceBEq, reduceCtorEq, reduceIte, Int.reduceLE, Int.reduceLT, Int.reduceNeg, Int.reduceToNat, hown]
  generalize hst : step s (Ex.mk op col kk n l) d = st at hm ⊢
  obtain ⟨s1, b1⟩ := st
  dsimp only at hm
  have hw1 : wt s1 ≤ wt s + 1 := by have := hwt s (.mk op col kk n l) d; rw [hst] at this; exact this
  refine ⟨fun hb => ?_, fun hb => ?_⟩
  · dsimp only at hb
    rw [plus_nil hsc2]
    refine retk trivial ⟨?_, ?_⟩
    · simp [eachS, hst, hb]
    · simp only [eachS, hst, hb, Bool.false_eq_true, if_false]
      exact hm.grow hlow
  · dsimp only at hb
    have hE : eachS step (Ex.mk op col kk n l) d s = eachL step l (IntKind.wrap .i64 (d + 1)) s1 := by simp only [eachS, hst, hb, if_true]
    rw [hE]
    refine loop_ruleD (fun m T' H' => ∃ (i : Nat) (s' : σ), m = l.length - i ∧ i ≤ l.length ∧ tget T' 17 = .int i ∧ tget T' 16 = .int l.length ∧ tget T' 15 = .sl (l.map encE) ∧ tget T' 1 = .int d ∧ tget T' 2 = .clo (.func k) [] caps ∧
      Moves I s' H B H' ∧ HSc H' ∧ wt s' + cntL (l.drop i) ≤ M ∧ eachL step (l.drop i) (IntKind.wrap .i64 (d + 1)) s' = eachL step l (IntKind.wrap .i64 (d + 1)) s1) l.length ⟨0, s1, by simp, by simp, rfl, rfl, rfl, rfl, rfl, ?_, ?_, by rw [List.drop_zero]; omega, rfl⟩ ?_
    · rw [plus_nil hsc2]; exact hm.grow hlow
    · rw [plus_nil hsc2]; exact hsc2
    · rintro m T' H' ⟨i, s', rfl, hi2, t17, t16, t15, t1, t2, hm', hsc', hw', heq⟩
      rw [← plus_nil hsc']
      obtain ⟨B', hB', hBB⟩ := hm'.2.2
      have hlow' := I.low hB'
      by_cases hi : i < l.length
      · have hi' : ((i : Int) < (l.length : Int)) = True := by simp; omega
        have hi0 : (0 ≤ (i : Int)) = True := by simp
        simp -implicitDefEqProofs only [push_cast, Nat.reduceAdd, Nat.reduceSub, Nat.reduceMul, Nat.reduceLT, Nat.reduceLeDiff, Nat.reduceEqDiff, Nat.reduceBEq, reduceCtorEq, reduceIte, Int.reduceLE, Int.reduceLT, Int.reduceNeg, Int.reduceToNat, t17, t16, t15, t1, t2, hi', hi0, encEs_get l i hi]
        have hd := List.drop_eq_getElem_cons hi
        rw [hd, cntL] at hw'
        have hc := (ih l[i] (List.getElem_mem hi) (IntKind.wrap .i64 (d + 1)) s' _ B' (hlo _ (List.getElem_mem hi)) (by omega) (St.grow hB' [some (.cells 5 [encE l[i]] 0)])).hsc
        refine hc.mono ?_
        rintro r H3 ⟨⟨rfl, hm3⟩, hsc3, hle3, -⟩
        rw [← plus_nil hsc3]
        simp -implicitDefEqProofs only [push_cast, Nat.reduceAdd, Nat.reduceSub, Nat.reduceMul, Nat.reduceLT, Nat.reduceLeDiff, Nat.reduceEqDiff, Nat.reduceBEq, reduceCtorEq, reduceIte, Int.reduceLE, Int.reduceLT, Int.reduceNeg, Int.reduceToNat, t17, t16, t15, t1, t2]
        have hw2 := eachS_wt step wt hwt l[i] (IntKind.wrap .i64 (d + 1)) s'
        have hv := Moves.via hm'.1 hm'.2.1 hBB (hm3.grow hlow')
        refine ⟨fun hb2 => ?_, fun hb2 => ?_⟩
        · rw [plus_nil hsc3]
          have he : eachL step l (IntKind.wrap .i64 (d + 1)) s1 = ((eachS step l[i] (IntKind.wrap .i64 (d + 1)) s').1, false) := by
            rw [← heq, hd, eachL]
            simp only [hb2, Bool.false_eq_true, if_false]
          rw [he]
          exact retk trivial ⟨rfl, hv⟩
        · rw [wrap64 (n := (i : Int) + 1) (by omega) (by omega)]
          refine ⟨l.length - (i + 1), by omega, i + 1, _, rfl, by omega, rfl, ?_, ?_, ?_, ?_, by rw [plus_nil hsc3]; exact hv, by rw [plus_nil hsc3]; exact hsc3, by omega, ?_⟩
          · simp -implicitDefEqProofs only [push_cast, Nat.reduceAdd, Nat.reduceSub, Nat.reduceMul, Nat.reduceLT, Nat.reduceLeDiff, Nat.reduceEqDiff, Nat.reduceBEq, reduceCtorEq, reduceIte, Int.reduceLE, Int.reduceLT, Int.reduceNeg, Int.reduceToNat, t16]
          · simp -implicitDefEqProofs only [push_cast, Nat.reduceAdd, Nat.reduceSub, Nat.reduceMul, Nat.reduceLT, Nat.reduceLeDiff, Nat.reduceEqDiff, Nat.reduceBEq, reduceCtorEq, reduceIte, Int.reduceLE, Int.reduceLT, Int.reduceNeg, Int.reduceToNat, t15]
          · simp -implicitDefEqProofs only [push_cast, Nat.reduceAdd, Nat.reduceSub, Nat.reduceMul, Nat.reduceLT, Nat.reduceLeDiff, Nat.reduceEqDiff, Nat.reduceBEq, reduceCtorEq, reduceIte, Int.reduceLE, Int.reduceLT, Int.reduceNeg, Int.reduceToNat, t1]
          · simp -implicitDefEqProofs only [push_cast, Nat.reduceAdd, Nat.reduceSub, Nat.reduceMul, Nat.reduceLT, Nat.reduceLeDiff, Nat.reduceEqDiff, Nat.reduceBEq, reduceCtorEq, reduceIte, Int.reduceLE, Int.reduceLT, Int.reduceNeg, Int.reduceToNat, t2]
          · rw [← heq, hd, eachL]
            simp only [hb2, if_true]
      · have hi' : ((i : Int) < (l.length : Int)) = False := by simp; omega
        simp -implicitDefEqProofs only [push_cast, Nat.reduceAdd, Nat.reduceSub, Nat.reduceMul, Nat.reduceLT, Nat.reduceLeDiff, Nat.reduceEqDiff, Nat.reduceBEq, reduceCtorEq, reduceIte, Int.reduceLE, Int.reduceLT, Int.reduceNeg, Int.reduceToNat, t17, t16, t15, t1, t2, hi']
        rw [plus_nil hsc']
        have he : eachL step l (IntKind.wrap .i64 (d + 1)) s1 = (s', true) := by
          rw [← heq, List.drop_eq_nil_of_le (by omega), eachL]
        rw [he]
        exact retk trivial ⟨rfl, hm'⟩
end Go.Sim.Tryz
