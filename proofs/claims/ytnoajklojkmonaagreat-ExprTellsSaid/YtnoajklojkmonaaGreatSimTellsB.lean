/- The law ExprTells. Conditions: none. -/
import Derived.Test.YtnoajklojkmonaaGreatSimTells
import Derived.Test.YtnoajklojkmonaaGreatPurMul
set_option linter.unusedSimpArgs false
set_option linter.unusedVariables false
set_option maxRecDepth 100000
namespace Go.Sim.Tryz
open Go Go.Sim
attribute [local push_cast] aops_cons aops_nil aopG_none aopG_some aopP_eq aopE_eq aopC_eq aopE?_eq aopC?_eq gopP_eq gopL_eq ahead_cons ahead_nil ahdG_none ahdG_some ahdP_eq ahdN_eq ahdC_eq ahdN?_eq ahdS_eq ahdS?_eq astoreN ahdC?_eq ghdP_eq ghdC_eq ghdC?_eq ghdZ_eq opt_some opt_none no_eq acondT_true acondT_false acondT_lit aw_skip aw_region aw_regionD aw_seq aw_cond aw_block aw_loop aw_exit aw_label aw_ret thn_normal thn_exit thn_ret inb_normal inb_exit inb_ret qret_ret qret_normal gcond apure aeff anew acallee ares aresT aresL aresC ares1 qfin_eq ev ofV evL gokL tget tput_some tput_none initT abin aint aun aload afaddr aiaddr afield aindex aextract apick pickv_lit Bool.or_false Bool.false_or Bool.or_true Bool.true_or imp_self aslice abound aconv abuild afill splice alen aminmax abuiltin anil apart Value.oneCell' astore aappend srcEs abuildSlice asets isEq plus_obj plus_nxt plus_add plus_set plus_del IntKind.bits Option.map_some Option.map_none Option.bind_some Option.bind_none Option.join_some Option.getD_some Option.getD_none Option.toList Option.isSome_some List.getElem?_toArray List.getElem?_cons_zero List.getElem?_cons_succ List.getElem?_nil List.length_cons List.length_nil List.length_map List.head?_cons List.cons_append List.nil_append List.append_nil List.map_cons List.map_nil List.getD_cons_zero List.getD_cons_succ List.replicate_succ List.replicate_zero List.set_cons_zero List.set_cons_succ List.take_succ_cons List.take_zero List.drop_succ_cons List.drop_zero List.all_cons List.all_nil Nat.zero_add if_true if_false true_and and_true false_and and_false true_implies implies_true forall_const Bool.and_true Bool.true_and Bool.false_and Bool.and_false Bool.true_beq Bool.false_beq Bool.not_not beq_tt beq_ff Int.toNat_natCast decide_true decide_false Bool.not_true Bool.not_false Bool.true_eq_false Bool.false_eq_true false_implies exists_prop eq_self bne_self_eq_false beq_self_eq_true decide_eq_true_eq decide_eq_false_iff_not Bool.not_eq_true' Bool.not_eq_false' AV.int AV.bool AV.nilS ne_eq not_false_eq_true not_true_eq_false exists_eq_left exists_eq_left' Nat.lt_irrefl core_lit grd_lit acells_lit one_lit core_agg grd_agg acells_agg one_agg core_tup grd_tup acells_tup one_tup core_sl grd_sl acells_sl one_sl core_esl grd_esl acells_esl one_esl core_rsl grd_rsl acells_rsl one_rsl core_ptr grd_ptr acells_ptr one_ptr core_iptr grd_iptr acells_iptr one_iptr core_clo grd_clo acells_clo one_clo core_mp grd_mp acells_mp one_mp core_any grd_any acells_any one_any core_gv grd_gv fit_agg fit_lit fit_sl fit_esl fit_rsl fit_ptr fit_iptr fit_clo fit_mp retq_ret retq_normal set_nxt set_set plus_obj_set plus_set_set app_get0 app_get app_set0 app_set List.append_assoc List.length_append List.length_set Nat.lt_add_one Nat.add_lt_add_iff_right Nat.lt_add_right_iff_pos Nat.add_lt_add_iff_left List.mem_cons List.not_mem_nil or_false forall_eq forall_eq_or_imp lt_s0 lt_s1 lt_s2 lt_s3 lt_s4 lt_s5 lt_s6 lt_s7 lt_s8 pickv_t pickv_f or_nand or_nand2 imp_and_l SealT SealOs sealO_cells sl_lit sl_any sl_agg sl_tup sl_sl sl_rsl slO sl_esl sl_nil sl_eslesl sl_eslnil sl_rslrsl sl_eslrsl sl_nilrsl sl_ptr sl_iptr sl_ptri slP sl_clo sl_mp sl_gv sll_nil sll_cons slll_nil slll_cons shut_eq shutO Option.join_none Fn.func.injEq and_self sealL_self sealLL_self seal_self PureL PureLL Pure Nat.le_refl Nat.zero_le AV.lit.injEq Value.int.injEq Value.bool.injEq false_or or_true true_or Int.natCast_zero Int.ofNat_zero Int.cast_ofNat_Int Int.natCast_add Int.natCast_one Option.some.injEq piL_is sop_nil sop_cons sop_none sop_some sopO_some sop_new shut_pi shutL_nil shutL_cons exQ_exit exQ_ret exQ_normal Go.Sim.Tryz.ty_load1 Go.Sim.Tryz.ty_zero1 Go.Sim.Tryz.ty_load2 Go.Sim.Tryz.ty_zero2 Go.Sim.Tryz.ty_und2 Go.Sim.Tryz.ty_load3 Go.Sim.Tryz.ty_zero3 Go.Sim.Tryz.ty_und3 Go.Sim.Tryz.ty_load4 Go.Sim.Tryz.ty_zero4 Go.Sim.Tryz.ty_und4 Go.Sim.Tryz.ty_load5 Go.Sim.Tryz.ty_zero5 Go.Sim.Tryz.ty_und5 Go.Sim.Tryz.ty_load9 Go.Sim.Tryz.ty_zero9 Go.Sim.Tryz.ty_und9 Go.Sim.Tryz.ty_load23 Go.Sim.Tryz.ty_zero23 Go.Sim.Tryz.ty_fld23_0 Go.Sim.Tryz.ty_part23_0 Go.Sim.Tryz.ty_fld23_1 Go.Sim.Tryz.ty_part23_1 Go.Sim.Tryz.ty_struct23 Go.Sim.Tryz.ty_load24 Go.Sim.Tryz.ty_zero24 Go.Sim.Tryz.ty_el24 Go.Sim.Tryz.ty_zeroE24 Go.Sim.Tryz.ty_load26 Go.Sim.Tryz.ty_zero26 Go.Sim.Tryz.ty_fld26_0 Go.Sim.Tryz.ty_part26_0 Go.Sim.Tryz.ty_fld26_1 Go.Sim.Tryz.ty_part26_1 Go.Sim.Tryz.ty_fld26_2 Go.Sim.Tryz.ty_part26_2 Go.Sim.Tryz.ty_fld26_3 Go.Sim.Tryz.ty_part26_3 Go.Sim.Tryz.ty_struct26 Go.Sim.Tryz.ty_load27 Go.Sim.Tryz.ty_zero27 Go.Sim.Tryz.ty_el27 Go.Sim.Tryz.ty_zeroE27 Go.Sim.Tryz.ty_load28 Go.Sim.Tryz.ty_zero28 Go.Sim.Tryz.ty_el28 Go.Sim.Tryz.ty_zeroE28 Go.Sim.Tryz.ty_load30 Go.Sim.Tryz.ty_zero30 Go.Sim.Tryz.ty_load34 Go.Sim.Tryz.ty_zero34 Go.Sim.Tryz.ty_load46 Go.Sim.Tryz.ty_zero46 Go.Sim.Tryz.ty_load49 Go.Sim.Tryz.ty_zero49 Go.Sim.Tryz.ty_fld49_0 Go.Sim.Tryz.ty_part49_0 Go.Sim.Tryz.ty_fld49_1 Go.Sim.Tryz.ty_part49_1 Go.Sim.Tryz.ty_fld49_2 Go.Sim.Tryz.ty_part49_2 Go.Sim.Tryz.ty_struct49 Go.Sim.Tryz.ty_load54 Go.Sim.Tryz.ty_zero54 Go.Sim.Tryz.ty_und54 Go.Sim.Tryz.ty_load56 Go.Sim.Tryz.ty_zero56 Go.Sim.Tryz.ty_load61 Go.Sim.Tryz.ty_zero61 Go.Sim.Tryz.ty_und61 Go.Sim.Tryz.ty_load69 Go.Sim.Tryz.ty_zero69 Go.Sim.Tryz.ty_und69 Go.Sim.Tryz.ty_load71 Go.Sim.Tryz.ty_zero71 Go.Sim.Tryz.ty_und71 Go.Sim.Tryz.ty_load77 Go.Sim.Tryz.ty_zero77 Go.Sim.Tryz.ty_load84 Go.Sim.Tryz.ty_zero84 Go.Sim.Tryz.ty_und84 Go.Sim.Tryz.ty_load88 Go.Sim.Tryz.ty_zero88 encE_mk encE_take encE_len encV encE_one encEs_pure encE_pure

theorem odd_R (l : List Vl) : (Vl.oddR l).2 = (Vl.odd l).2 ∧ ((Vl.odd l).2 = true → (Vl.oddR l).1 = (Vl.odd l).1) := by
  unfold Vl.oddR Vl.odd
  split
  · exact ⟨rfl, fun _ => rfl⟩
  · split
    · rename_i h; exact ⟨h, fun _ => rfl⟩
    · rename_i h; exact ⟨Bool.eq_false_iff.2 h, fun h => by cases h⟩
theorem reckon_R (a b : Vl) (f g : Int → Int → Int × Bool) (h : (f a.n b.n).2 = (g a.n b.n).2 ∧ ((g a.n b.n).2 = true → (f a.n b.n).1 = (g a.n b.n).1)) : a.reckonR b f = a.reckon b g := by
  unfold Vl.reckonR Vl.reckon
  obtain ⟨h1, h2⟩ := odd_R [a, b]
  rw [h1]
  split
  · rename_i h3; exact h2 h3
  · rw [h.1]
    split
    · rename_i h4; rw [h.2 h4]
    · rfl
theorem fine_k2 (v : Vl) : (v.k = 0 ∧ v.fine = v) ∨ v.fine.k = 1 ∨ v.fine.k = 2 := by
  unfold Vl.fine
  split
  · rename_i h
    simp only [Vl.may, Bool.and_eq_true, decide_eq_true_eq] at h
    by_cases h0 : v.k = 0
    · exact .inl ⟨h0, rfl⟩
    · right; omega
  · exact .inr (.inr rfl)
theorem odd_no {l : List Vl} (h : ¬ (Vl.odd l).2 = true) : ∀ v ∈ l, v.k = 0 ∧ v.fine = v := by
  intro v hv
  rcases fine_k2 v with h1 | h1 | h1
  · exact h1
  · exfalso; apply h
    unfold Vl.odd
    split
    · rfl
    · rw [if_pos (List.any_eq_true.2 ⟨v, hv, by simp [h1]⟩)]
  · exfalso; apply h
    unfold Vl.odd
    rw [if_pos (List.any_eq_true.2 ⟨v, hv, by simp [h1]⟩)]
theorem eq_R (a b : Vl) : a.eqR b = a.eq b := by
  unfold Vl.eqR Vl.eq
  obtain ⟨h1, h2⟩ := odd_R [a, b]
  rw [h1]
  split
  · rename_i h3; exact h2 h3
  · rename_i h3
    have ha := (odd_no h3 a (by simp)).1
    have hb := (odd_no h3 b (by simp)).1
    rw [ha, hb]
    simp
theorem lt_R (a b : Vl) : a.ltR b = a.lt b := by
  unfold Vl.ltR Vl.lt
  obtain ⟨h1, h2⟩ := odd_R [a, b]
  rw [h1]
  split
  · rename_i h3; exact h2 h3
  · rfl
theorem and_R (l : List Vl) : Vl.andR l = Vl.and l := by
  unfold Vl.andR Vl.and Vl.three
  obtain ⟨h1, h2⟩ := odd_R l
  rw [h1]
  split
  · rfl
  · split
    · rename_i h3; exact h2 h3
    · rfl
theorem or_R (l : List Vl) : Vl.orR l = Vl.or l := by
  unfold Vl.orR Vl.or Vl.three
  obtain ⟨h1, h2⟩ := odd_R l
  rw [h1]
  split
  · rfl
  · split
    · rename_i h3; exact h2 h3
    · rfl
theorem not_R (a : Vl) : a.notR = a.not := by
  unfold Vl.notR Vl.not
  by_cases h : (Vl.odd [a]).2 = true
  · rw [if_pos h]
    rcases fine_k2 a with ⟨h1, h2⟩ | h1 | h1
    · exfalso
      unfold Vl.odd at h
      simp [h2, h1] at h
    · rw [if_neg (by omega)]
      have h3 : a.fine = .null := by
        unfold Vl.fine at h1 ⊢
        split
        · rename_i hm
          rw [if_pos hm] at h1
          obtain ⟨k, n⟩ := a
          simp only [Vl.may, Bool.and_eq_true, Bool.or_eq_true, decide_eq_true_eq] at hm h1
          have : n = 0 := by omega
          subst h1 this
          rfl
        · rename_i hm
          rw [if_neg hm] at h1
          simp [Vl.bad] at h1
      simp [Vl.odd, h3, Vl.null]
    · rw [if_neg (by omega)]
      have h3 := fine_bad2 a h1
      simp [Vl.odd, h3, Vl.bad]
  · rw [if_neg h]
    obtain ⟨h1, h2⟩ := odd_no h a (by simp)
    rw [h2, if_pos h1]
theorem way_R (op : Int) (l : List Vl) (hop : op ≤ 10) (h2 : 2 ≤ op) (hw : ∀ v ∈ l, In64 v.n) : Vl.wayR op l = Vl.way op l := by
  have hg : ∀ i, In64 (l.getD i .bad).n := fun i => by
    rw [List.getD_eq_getElem?_getD]
    cases h : l[i]? with
    | none => simp [Vl.bad, In64]
    | some v => exact hw v (List.mem_of_getElem? h)
  unfold Vl.wayR Vl.way
  rw [reckon_R _ _ addR addF (add_eq _ _ (hg 0) (hg 1)), reckon_R _ _ subR subF (sub_eq _ _ (hg 0) (hg 1)), reckon_R _ _ mulR mulF (mul_eq _ _ (hg 0) (hg 1)),
    reckon_R _ _ divR divF ⟨by rw [div_eq], fun _ => by rw [div_eq]⟩, eq_R, lt_R, and_R, or_R, not_R]
theorem odd_in (l : List Vl) : In64 (Vl.odd l).1.n := by
  unfold Vl.odd
  split
  · simp [Vl.bad, In64]
  · split <;> simp [Vl.null, In64]
theorem ofB_in (b : Bool) : In64 (Vl.ofB b).n := by cases b <;> simp [Vl.ofB, Vl.of, In64]
theorem reckon_in (a b : Vl) (f : Int → Int → Int × Bool) (h : In64 (f a.n b.n).1) : In64 (a.reckon b f).n := by
  unfold Vl.reckon
  split
  · exact odd_in _
  · split
    · exact h
    · simp [Vl.bad, In64]
theorem way_in (op : Int) (l : List Vl) : In64 (Vl.way op l).n := by
  unfold Vl.way
  have hdiv : ∀ x y, In64 (divF x y).1 := fun x y => by
    unfold divF
    split
    · simp [In64]
    · exact wrap_is _
  repeat' split
  · exact reckon_in _ _ _ (wrap_is _)
  · exact reckon_in _ _ _ (wrap_is _)
  · exact reckon_in _ _ _ (wrap_is _)
  · exact reckon_in _ _ _ (hdiv _ _)
  · unfold Vl.eq
    split
    · exact odd_in _
    · exact ofB_in _
  · unfold Vl.lt
    split
    · exact odd_in _
    · exact ofB_in _
  · unfold Vl.and Vl.three
    split
    · simp [Vl.of, In64]
    · split
      · exact odd_in _
      · simp [Vl.of, In64]
  · unfold Vl.or Vl.three
    split
    · simp [Vl.of, In64]
    · split
      · exact odd_in _
      · simp [Vl.of, In64]
  · unfold Vl.not
    split
    · exact odd_in _
    · exact ofB_in _

/-- Each number of it is one of 64 bits. -/
inductive Ex.In : Ex → Prop
  | mk {op col k n : Int} {l : List Ex} (h1 : In64 n) (h2 : ∀ x ∈ l, x.In) : Ex.In (.mk op col k n l)
theorem look_in (cols : List Int) (row : List Vl) (hr : ∀ v ∈ row, In64 v.n) (c : Int) : In64 (look cols row c).n := by
  unfold look
  split
  · simp [Vl.bad, In64]
  · rw [List.getD_eq_getElem?_getD]
    cases h : row[(idx (fun x => decide (c = x)) cols).toNat]? with
    | none => simp [Vl.bad, In64]
    | some v => exact hr v (List.mem_of_getElem? h)
theorem eval_R (cols : List Int) (row : List Vl) (hr : ∀ v ∈ row, In64 v.n) (e : Ex) : e.Fine → e.In → evalR cols row e = evalE cols row e ∧ In64 (evalE cols row e).n := by
  induction e using Ex.ind with
  | h op col k n l ih =>
  intro hf hi
  obtain ⟨hp, hfl⟩ := hf
  obtain ⟨hn, hil⟩ := hi
  obtain ⟨p1, p2, _⟩ := (part_iff _ _ _ _ _).1 hp
  rw [evalR, evalE]
  by_cases h0 : op = 0
  · rw [if_pos h0, if_pos h0]
    exact ⟨rfl, hn⟩
  · rw [if_neg h0, if_neg h0]
    by_cases h1 : op = 1
    · rw [if_pos h1, if_pos h1]
      exact ⟨rfl, look_in cols row hr col⟩
    · rw [if_neg h1, if_neg h1]
      have he : evalRL cols row l = evalL cols row l := by
        rw [evalRL_eq, evalL_eq]
        exact List.map_congr_left fun x hx => (ih x hx (hfl x hx) (hil x hx)).1
      rw [he]
      refine ⟨way_R op _ (by omega) (by omega) fun v hv => ?_, way_in _ _⟩
      rw [evalL_eq, List.mem_map] at hv
      obtain ⟨x, hx, rfl⟩ := hv
      exact (ih x hx (hfl x hx) (hil x hx)).2

/-! ### What the document tells is what the program tells -/
theorem MayR_ok2 (e : Ex) (hok : e.Ok) : Quiet Go.Proofs.Tryz.prog 9 [.agg (encE e)] (.bool e.may) := by
  have := MayR_ok e hok
  rwa [mayR_eq] at this
theorem ColsR_ok2 (e : Ex) (hok : e.Ok) : Quiet Go.Proofs.Tryz.prog 14 [.agg (encE e)] (.sl (e.cols.map encI)) := by
  have := ColsR_ok e hok
  rwa [colsR_eq] at this
theorem EvalR_ok (cols : List Int) (hcl : cols.length ≤ 140737488355328) (row : List Vl) (hrl : row.length ≤ 140737488355328) (hr : ∀ v ∈ row, In64 v.n) (e : Ex) (hok : e.Ok) (hin : e.In) :
    Quiet Go.Proofs.Tryz.prog 16 [.agg (encE e), .sl (cols.map encI), .sl (row.map encV)] (.agg (encV (e.eval cols row))) := by
  refine quiet_of (rs := #[.cell 6 23]) Go.Proofs.Tryz.func16 rfl rfl rfl mixed rfl rfl fun H hs => ?_
  simp -implicitDefEqProofs only [push_cast, Nat.reduceAdd, Nat.reduceSub, Nat.reduceMul, Nat.reduceLT, Nat.reduceLeDiff, Nat.reduceEqDiff, Nat.reduceBEq, reduceCtorEq, reduceIte, Int.reduceLE, Int.reduceLT, Int.reduceNeg, Int.reduceToNat]
  refine callq (MayR_ok2 e hok) ?_
  simp -implicitDefEqProofs only [push_cast, Nat.reduceAdd, Nat.reduceSub, Nat.reduceMul, Nat.reduceLT, Nat.reduceLeDiff, Nat.reduceEqDiff, Nat.reduceBEq, reduceCtorEq, reduceIte, Int.reduceLE, Int.reduceLT, Int.reduceNeg, Int.reduceToNat]
  refine ⟨fun h => ?_, fun h => ?_⟩
  · (try simp -implicitDefEqProofs only [push_cast, Nat.reduceAdd, Nat.reduceSub, Nat.reduceMul, Nat.reduceLT, Nat.reduceLeDiff, Nat.reduceEqDiff, Nat.reduceBEq, reduceCtorEq, reduceIte, Int.reduceLE, Int.reduceLT, Int.reduceNeg, Int.reduceToNat])
    simp [Ex.eval, h, Vl.bad]
  · have hq := evalR_ok cols hcl row hrl e hok (may_fine h)
    rw [(eval_R cols row hr e (may_fine h) hin).1] at hq
    refine callq hq ?_
    simp -implicitDefEqProofs only [push_cast, Nat.reduceAdd, Nat.reduceSub, Nat.reduceMul, Nat.reduceLT, Nat.reduceLeDiff, Nat.reduceEqDiff, Nat.reduceBEq, reduceCtorEq, reduceIte, Int.reduceLE, Int.reduceLT, Int.reduceNeg, Int.reduceToNat]
    (try simp -implicitDefEqProofs only [push_cast, Nat.reduceAdd, Nat.reduceSub, Nat.reduceMul, Nat.reduceLT, Nat.reduceLeDiff, Nat.reduceEqDiff, Nat.reduceBEq, reduceCtorEq, reduceIte, Int.reduceLE, Int.reduceLT, Int.reduceNeg, Int.reduceToNat])
    simp [Ex.eval, h]
theorem KeepsR_ok (cols : List Int) (hcl : cols.length ≤ 140737488355328) (row : List Vl) (hrl : row.length ≤ 140737488355328) (hr : ∀ v ∈ row, In64 v.n) (e : Ex) (hok : e.Ok) (hin : e.In) :
    Quiet Go.Proofs.Tryz.prog 18 [.agg (encE e), .sl (cols.map encI), .sl (row.map encV)] (.bool (e.keeps cols row)) := by
  refine quiet_of (rs := #[.tmp 6]) Go.Proofs.Tryz.func18 rfl rfl rfl mixed rfl rfl fun H hs => ?_
  simp -implicitDefEqProofs only [push_cast, Nat.reduceAdd, Nat.reduceSub, Nat.reduceMul, Nat.reduceLT, Nat.reduceLeDiff, Nat.reduceEqDiff, Nat.reduceBEq, reduceCtorEq, reduceIte, Int.reduceLE, Int.reduceLT, Int.reduceNeg, Int.reduceToNat]
  refine callq (EvalR_ok cols hcl row hrl hr e hok hin) ?_
  simp -implicitDefEqProofs only [push_cast, Nat.reduceAdd, Nat.reduceSub, Nat.reduceMul, Nat.reduceLT, Nat.reduceLeDiff, Nat.reduceEqDiff, Nat.reduceBEq, reduceCtorEq, reduceIte, Int.reduceLE, Int.reduceLT, Int.reduceNeg, Int.reduceToNat]
  refine callq (trueR_ok _) ?_
  simp -implicitDefEqProofs only [push_cast, Nat.reduceAdd, Nat.reduceSub, Nat.reduceMul, Nat.reduceLT, Nat.reduceLeDiff, Nat.reduceEqDiff, Nat.reduceBEq, reduceCtorEq, reduceIte, Int.reduceLE, Int.reduceLT, Int.reduceNeg, Int.reduceToNat]
  (try simp -implicitDefEqProofs only [push_cast, Nat.reduceAdd, Nat.reduceSub, Nat.reduceMul, Nat.reduceLT, Nat.reduceLeDiff, Nat.reduceEqDiff, Nat.reduceBEq, reduceCtorEq, reduceIte, Int.reduceLE, Int.reduceLT, Int.reduceNeg, Int.reduceToNat, Ex.keeps])
theorem PairR_ok (e : Ex) (hok : e.Ok) : Quiet Go.Proofs.Tryz.prog 7 [.agg (encE e)] (.tup [.int e.pair.1, .int e.pair.2.1, .bool e.pair.2.2]) := by
  obtain ⟨op, col, k, n, l⟩ := e
  refine quiet_of (rs := #[.tmp 2, .tmp 3, .tmp 4]) Go.Proofs.Tryz.func7 rfl rfl rfl mixed rfl rfl fun H hs => ?_
  have hm := MayR_ok2 _ hok
  simp only [encE_mk] at hm
  simp -implicitDefEqProofs only [push_cast, Nat.reduceAdd, Nat.reduceSub, Nat.reduceMul, Nat.reduceLT, Nat.reduceLeDiff, Nat.reduceEqDiff, Nat.reduceBEq, reduceCtorEq, reduceIte, Int.reduceLE, Int.reduceLT, Int.reduceNeg, Int.reduceToNat]
  refine callq hm ?_
  by_cases h6 : (Ex.mk op col k n l).may = true ∧ op = 6
  · obtain ⟨hmay, hop⟩ := h6
    have h2 : l.length = 2 := by
      obtain ⟨hp, _⟩ := may_fine hmay
      obtain ⟨_, _, ⟨h3, h4⟩, _⟩ := (part_iff _ _ _ _ _).1 hp
      rw [hop] at h3 h4
      simp [wayLo, wayHi] at h3 h4
      omega
    obtain ⟨a, b, rfl⟩ : ∃ a b, l = [a, b] := by
      match l, h2 with
      | [a, b], _ => exact ⟨a, b, rfl⟩
    obtain ⟨ao, ac, ak, an, al⟩ := a
    obtain ⟨bo, bc, bk, bn, bl⟩ := b
    rw [hmay]
    simp -implicitDefEqProofs only [push_cast, Nat.reduceAdd, Nat.reduceSub, Nat.reduceMul, Nat.reduceLT, Nat.reduceLeDiff, Nat.reduceEqDiff, Nat.reduceBEq, reduceCtorEq, reduceIte, Int.reduceLE, Int.reduceLT, Int.reduceNeg, Int.reduceToNat]
    refine areg_at 35 (by kernel_rfl) (by kernel_rfl) ?_
    simp -implicitDefEqProofs only [push_cast, Nat.reduceAdd, Nat.reduceSub, Nat.reduceMul, Nat.reduceLT, Nat.reduceLeDiff, Nat.reduceEqDiff, Nat.reduceBEq, reduceCtorEq, reduceIte, Int.reduceLE, Int.reduceLT, Int.reduceNeg, Int.reduceToNat, hop, List.map_cons, List.map_nil]
    refine ⟨by omega, fun _ => by omega, fun _ => by omega, fun _ => by omega, fun h1 => ?_, fun h1 => ?_⟩
    · have hz : (Ex.mk op col k n [Ex.mk ao ac ak an al, Ex.mk bo bc bk bn bl]).pair = (ac, bc, true) := by
        simp only [Ex.pair, hmay, hop, Ex.op, Ex.col]
        rw [if_pos (by grind)]
      rw [hop] at hz
      rw [hz]
      refine areg_at 11 (by kernel_rfl) (by kernel_rfl) ?_
      simp -implicitDefEqProofs only [push_cast, Nat.reduceAdd, Nat.reduceSub, Nat.reduceMul, Nat.reduceLT, Nat.reduceLeDiff, Nat.reduceEqDiff, Nat.reduceBEq, reduceCtorEq, reduceIte, Int.reduceLE, Int.reduceLT, Int.reduceNeg, Int.reduceToNat, List.map_cons, List.map_nil]
      omega
    · have hz : (Ex.mk op col k n [Ex.mk ao ac ak an al, Ex.mk bo bc bk bn bl]).pair = (0, 0, false) := by
        simp only [Ex.pair, hmay, hop, Ex.op, Ex.col]
        rw [if_neg (by grind)]
      rw [hop] at hz
      rw [hz]
      (try simp -implicitDefEqProofs only [push_cast, Nat.reduceAdd, Nat.reduceSub, Nat.reduceMul, Nat.reduceLT, Nat.reduceLeDiff, Nat.reduceEqDiff, Nat.reduceBEq, reduceCtorEq, reduceIte, Int.reduceLE, Int.reduceLT, Int.reduceNeg, Int.reduceToNat])
  · have hz : (Ex.mk op col k n l).pair = (0, 0, false) := by
      unfold Ex.pair
      split
      · rename_i a b heq
        injection heq with e1 e2 e3 e4 e5
        subst e1 e2 e3 e4 e5
        rw [if_neg (by grind)]
      · rfl
    rw [hz]
    generalize (Ex.mk op col k n l).may = mv at h6
    have fin : ∀ l' : List Ex, l'.map encE = l.map encE → True := fun _ _ => trivial
    rcases l with _ | ⟨⟨ao, ac, ak, an, al⟩, _ | ⟨⟨bo, bc, bk, bn, bl⟩, l⟩⟩
    all_goals cases mv
    all_goals first
      | (have hop : (op = 6) = False := by simpa using h6)
      | skip
    all_goals (simp -implicitDefEqProofs only [push_cast, Nat.reduceAdd, Nat.reduceSub, Nat.reduceMul, Nat.reduceLT, Nat.reduceLeDiff, Nat.reduceEqDiff, Nat.reduceBEq, reduceCtorEq, reduceIte, Int.reduceLE, Int.reduceLT, Int.reduceNeg, Int.reduceToNat])
    all_goals (refine areg_at 35 (by kernel_rfl) (by kernel_rfl) ?_)
    all_goals (first | (simp -implicitDefEqProofs only [push_cast, Nat.reduceAdd, Nat.reduceSub, Nat.reduceMul, Nat.reduceLT, Nat.reduceLeDiff, Nat.reduceEqDiff, Nat.reduceBEq, reduceCtorEq, reduceIte, Int.reduceLE, Int.reduceLT, Int.reduceNeg, Int.reduceToNat, hop, List.map_cons, List.map_nil, List.getD_nil, List.drop_nil]) | (simp -implicitDefEqProofs only [push_cast, Nat.reduceAdd, Nat.reduceSub, Nat.reduceMul, Nat.reduceLT, Nat.reduceLeDiff, Nat.reduceEqDiff, Nat.reduceBEq, reduceCtorEq, reduceIte, Int.reduceLE, Int.reduceLT, Int.reduceNeg, Int.reduceToNat, List.map_cons, List.map_nil, List.getD_nil, List.drop_nil]))
    all_goals ((try simp -implicitDefEqProofs only [push_cast, Nat.reduceAdd, Nat.reduceSub, Nat.reduceMul, Nat.reduceLT, Nat.reduceLeDiff, Nat.reduceEqDiff, Nat.reduceBEq, reduceCtorEq, reduceIte, Int.reduceLE, Int.reduceLT, Int.reduceNeg, Int.reduceToNat]))

theorem Cols_ok2 (e : Ex) (hok : e.Ok) : Quiet Go.Proofs.Tryz.prog 13 [.agg (encE e)] (.sl (e.cols.map encI)) := by
  by_cases hm : e.may = true
  · exact Cols_ok e hok (by have := may_cnt hm; omega)
  · have hc : e.cols = [] := by rw [cols_eq, if_neg hm]
    have hf : e.may = false := Bool.eq_false_iff.2 hm
    rw [hc]
    refine quiet_of (rs := #[.tmp 2]) Go.Proofs.Tryz.func13 rfl rfl rfl mixed rfl rfl fun H hs => ?_
    have h1 := mayE_ok e hok
    rw [hf] at h1
    simp -implicitDefEqProofs only [push_cast, Nat.reduceAdd, Nat.reduceSub, Nat.reduceMul, Nat.reduceLT, Nat.reduceLeDiff, Nat.reduceEqDiff, Nat.reduceBEq, reduceCtorEq, reduceIte, Int.reduceLE, Int.reduceLT, Int.reduceNeg, Int.reduceToNat]
    refine callq h1 ?_
    simp -implicitDefEqProofs only [push_cast, Nat.reduceAdd, Nat.reduceSub, Nat.reduceMul, Nat.reduceLT, Nat.reduceLeDiff, Nat.reduceEqDiff, Nat.reduceBEq, reduceCtorEq, reduceIte, Int.reduceLE, Int.reduceLT, Int.reduceNeg, Int.reduceToNat]
    (try simp -implicitDefEqProofs only [push_cast, Nat.reduceAdd, Nat.reduceSub, Nat.reduceMul, Nat.reduceLT, Nat.reduceLeDiff, Nat.reduceEqDiff, Nat.reduceBEq, reduceCtorEq, reduceIte, Int.reduceLE, Int.reduceLT, Int.reduceNeg, Int.reduceToNat, List.map_nil])
theorem exprTells_ok (e f : Ex) (hok : e.Ok) (hokf : f.Ok) (hin : e.In) (cols : List Int) (hcl : cols.length ≤ 140737488355328) (row : List Vl) (hrl : row.length ≤ 140737488355328) (hr : ∀ v ∈ row, In64 v.n) :
    Quiet Go.Proofs.Tryz.prog 3 [.agg (encE e), .agg (encE f), .sl (cols.map encI), .sl (row.map encV)] (.bool true) := by
  refine quiet_of (rs := #[.tmp 8]) Go.Proofs.Tryz.func3 rfl rfl rfl mixed rfl rfl fun H hs => ?_
  simp -implicitDefEqProofs only [push_cast, Nat.reduceAdd, Nat.reduceSub, Nat.reduceMul, Nat.reduceLT, Nat.reduceLeDiff, Nat.reduceEqDiff, Nat.reduceBEq, reduceCtorEq, reduceIte, Int.reduceLE, Int.reduceLT, Int.reduceNeg, Int.reduceToNat]
  refine callq awake_ok ?_
  simp -implicitDefEqProofs only [push_cast, Nat.reduceAdd, Nat.reduceSub, Nat.reduceMul, Nat.reduceLT, Nat.reduceLeDiff, Nat.reduceEqDiff, Nat.reduceBEq, reduceCtorEq, reduceIte, Int.reduceLE, Int.reduceLT, Int.reduceNeg, Int.reduceToNat]
  refine callq (few_ok e hok 200 (by decide) (by decide)) ?_
  simp -implicitDefEqProofs only [push_cast, Nat.reduceAdd, Nat.reduceSub, Nat.reduceMul, Nat.reduceLT, Nat.reduceLeDiff, Nat.reduceEqDiff, Nat.reduceBEq, reduceCtorEq, reduceIte, Int.reduceLE, Int.reduceLT, Int.reduceNeg, Int.reduceToNat]
  refine callq (few_ok f hokf 200 (by decide) (by decide)) ?_
  simp -implicitDefEqProofs only [push_cast, Nat.reduceAdd, Nat.reduceSub, Nat.reduceMul, Nat.reduceLT, Nat.reduceLeDiff, Nat.reduceEqDiff, Nat.reduceBEq, reduceCtorEq, reduceIte, Int.reduceLE, Int.reduceLT, Int.reduceNeg, Int.reduceToNat]
  intro h
  refine callq (Pair_ok e hok) ?_
  simp -implicitDefEqProofs only [push_cast, Nat.reduceAdd, Nat.reduceSub, Nat.reduceMul, Nat.reduceLT, Nat.reduceLeDiff, Nat.reduceEqDiff, Nat.reduceBEq, reduceCtorEq, reduceIte, Int.reduceLE, Int.reduceLT, Int.reduceNeg, Int.reduceToNat]
  refine callq (PairR_ok e hok) ?_
  simp -implicitDefEqProofs only [push_cast, Nat.reduceAdd, Nat.reduceSub, Nat.reduceMul, Nat.reduceLT, Nat.reduceLeDiff, Nat.reduceEqDiff, Nat.reduceBEq, reduceCtorEq, reduceIte, Int.reduceLE, Int.reduceLT, Int.reduceNeg, Int.reduceToNat]
  generalize e.pair = pr
  obtain ⟨p1, p2, p3⟩ := pr
  have h1 := mayE_ok e hok
  have h2 := MayR_ok2 e hok
  have h3 := same_ok e f hok hokf
  have h4 := sameR_ok e f hok hokf
  have hce : e.cols.length ≤ 30 := by
    by_cases hm : e.may = true
    · exact Nat.le_trans (cols_len e) (may_cnt hm)
    · rw [cols_eq, if_neg hm]; simp
  have h5 : Quiet Go.Proofs.Tryz.prog 13 [.agg (encE e)] (.sl (e.cols.map encI)) := Cols_ok2 e hok
  have h6 := ColsR_ok2 e hok
  have h7 := ints_ok e.cols e.cols (by omega) (by omega)
  have h8 := Eval_ok cols hcl row hrl e hok
  have h9 := EvalR_ok cols hcl row hrl hr e hok hin
  have h10 := Keeps_ok cols hcl row hrl e hok
  have h11 := KeepsR_ok cols hcl row hrl hr e hok hin
  generalize e.may = m at h1 h2
  generalize sameE e f = sm at h3 h4
  generalize e.cols = cs at h5 h6 h7
  generalize e.eval cols row = v at h8 h9
  generalize e.keeps cols row = kp at h10 h11
  refine areg_at 21 (by kernel_rfl) (by kernel_rfl) ?_
  simp -implicitDefEqProofs only [push_cast, Nat.reduceAdd, Nat.reduceSub, Nat.reduceMul, Nat.reduceLT, Nat.reduceLeDiff, Nat.reduceEqDiff, Nat.reduceBEq, reduceCtorEq, reduceIte, Int.reduceLE, Int.reduceLT, Int.reduceNeg, Int.reduceToNat]
  refine ahdq h1 ?_
  simp -implicitDefEqProofs only [push_cast, Nat.reduceAdd, Nat.reduceSub, Nat.reduceMul, Nat.reduceLT, Nat.reduceLeDiff, Nat.reduceEqDiff, Nat.reduceBEq, reduceCtorEq, reduceIte, Int.reduceLE, Int.reduceLT, Int.reduceNeg, Int.reduceToNat]
  refine ahdq h2 ?_
  simp -implicitDefEqProofs only [push_cast, Nat.reduceAdd, Nat.reduceSub, Nat.reduceMul, Nat.reduceLT, Nat.reduceLeDiff, Nat.reduceEqDiff, Nat.reduceBEq, reduceCtorEq, reduceIte, Int.reduceLE, Int.reduceLT, Int.reduceNeg, Int.reduceToNat]
  refine gcallq _ (fun _ => h3) ?_
  simp -implicitDefEqProofs only [push_cast, Nat.reduceAdd, Nat.reduceSub, Nat.reduceMul, Nat.reduceLT, Nat.reduceLeDiff, Nat.reduceEqDiff, Nat.reduceBEq, reduceCtorEq, reduceIte, Int.reduceLE, Int.reduceLT, Int.reduceNeg, Int.reduceToNat]
  refine gcallq _ (fun _ => h4) ?_
  simp -implicitDefEqProofs only [push_cast, Nat.reduceAdd, Nat.reduceSub, Nat.reduceMul, Nat.reduceLT, Nat.reduceLeDiff, Nat.reduceEqDiff, Nat.reduceBEq, reduceCtorEq, reduceIte, Int.reduceLE, Int.reduceLT, Int.reduceNeg, Int.reduceToNat]
  refine gcallq _ (fun _ => h5) ?_
  simp -implicitDefEqProofs only [push_cast, Nat.reduceAdd, Nat.reduceSub, Nat.reduceMul, Nat.reduceLT, Nat.reduceLeDiff, Nat.reduceEqDiff, Nat.reduceBEq, reduceCtorEq, reduceIte, Int.reduceLE, Int.reduceLT, Int.reduceNeg, Int.reduceToNat]
  refine gcallq _ (fun _ => h6) ?_
  simp -implicitDefEqProofs only [push_cast, Nat.reduceAdd, Nat.reduceSub, Nat.reduceMul, Nat.reduceLT, Nat.reduceLeDiff, Nat.reduceEqDiff, Nat.reduceBEq, reduceCtorEq, reduceIte, Int.reduceLE, Int.reduceLT, Int.reduceNeg, Int.reduceToNat]
  refine gcallq _ (fun _ => h7) ?_
  simp -implicitDefEqProofs only [push_cast, Nat.reduceAdd, Nat.reduceSub, Nat.reduceMul, Nat.reduceLT, Nat.reduceLeDiff, Nat.reduceEqDiff, Nat.reduceBEq, reduceCtorEq, reduceIte, Int.reduceLE, Int.reduceLT, Int.reduceNeg, Int.reduceToNat]
  refine areg_at 38 (by kernel_rfl) (by kernel_rfl) ?_
  simp -implicitDefEqProofs only [push_cast, Nat.reduceAdd, Nat.reduceSub, Nat.reduceMul, Nat.reduceLT, Nat.reduceLeDiff, Nat.reduceEqDiff, Nat.reduceBEq, reduceCtorEq, reduceIte, Int.reduceLE, Int.reduceLT, Int.reduceNeg, Int.reduceToNat]
  refine gcallq _ (fun _ => h8) ?_
  simp -implicitDefEqProofs only [push_cast, Nat.reduceAdd, Nat.reduceSub, Nat.reduceMul, Nat.reduceLT, Nat.reduceLeDiff, Nat.reduceEqDiff, Nat.reduceBEq, reduceCtorEq, reduceIte, Int.reduceLE, Int.reduceLT, Int.reduceNeg, Int.reduceToNat]
  refine gcallq _ (fun _ => h9) ?_
  simp -implicitDefEqProofs only [push_cast, Nat.reduceAdd, Nat.reduceSub, Nat.reduceMul, Nat.reduceLT, Nat.reduceLeDiff, Nat.reduceEqDiff, Nat.reduceBEq, reduceCtorEq, reduceIte, Int.reduceLE, Int.reduceLT, Int.reduceNeg, Int.reduceToNat, lits, cellsEq, cellEq]
  refine ⟨by simpa using cmpV v.k v.n v.k v.n, gcallq _ (fun _ => h10) ?_⟩
  simp -implicitDefEqProofs only [push_cast, Nat.reduceAdd, Nat.reduceSub, Nat.reduceMul, Nat.reduceLT, Nat.reduceLeDiff, Nat.reduceEqDiff, Nat.reduceBEq, reduceCtorEq, reduceIte, Int.reduceLE, Int.reduceLT, Int.reduceNeg, Int.reduceToNat]
  refine gcallq _ (fun _ => h11) ?_
  simp -implicitDefEqProofs only [push_cast, Nat.reduceAdd, Nat.reduceSub, Nat.reduceMul, Nat.reduceLT, Nat.reduceLeDiff, Nat.reduceEqDiff, Nat.reduceBEq, reduceCtorEq, reduceIte, Int.reduceLE, Int.reduceLT, Int.reduceNeg, Int.reduceToNat]
  (try simp -implicitDefEqProofs only [push_cast, Nat.reduceAdd, Nat.reduceSub, Nat.reduceMul, Nat.reduceLT, Nat.reduceLeDiff, Nat.reduceEqDiff, Nat.reduceBEq, reduceCtorEq, reduceIte, Int.reduceLE, Int.reduceLT, Int.reduceNeg, Int.reduceToNat])
end Go.Sim.Tryz
