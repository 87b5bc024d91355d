/- What the row rests on, part 6. Conditions: none. -/
import Derived.Test.YtclapofaecbobaaGreatM5
namespace Go.Sim.Tryz
open Go Go.Sim
attribute [local push_cast] aops_cons aops_nil aopG_none aopG_some aopP_eq aopE_eq aopC_eq aopE?_eq aopC?_eq aopB_eq aopB?_eq abr anilq gopP_eq gopL_eq ahead_cons ahead_nil ahdG_none ahdG_some ahdP_eq ahdN_eq ahdC_eq ahdN?_eq ahdS_eq ahdS?_eq astoreN ahdC?_eq ghdP_eq ghdC_eq ghdC?_eq ghdZ_f ghdZ_t ahdI_eq ahdI?_eq ghdN?_eq aim_nil aim_cons isIn_nil isIn_none isIn_cons aimm aheP_eq aheA_eq aheC_eq aheC?_eq aheI?_eq aheA?_eq gheP_eq gheC_eq gheC?_eq gheZ_eq aheG_none aheG_some aheff_cons aheff_nil aapp gro_rsl gro_lit gro_esl opt_some opt_none no_eq acondT_true acondT_false acondT_lit aw_skip aw_region aw_regionD aw_seq aw_cond aw_block aw_loop aw_exit aw_label aw_ret thn_normal thn_exit thn_ret inb_normal inb_exit inb_ret qret_ret qret_normal gcond apure aeff anew acallee ares aresT aresL aresC ares1 qfin_eq ev ofV evL gokL tget tput_some tput_none initT abin aint aun aload afaddr aiaddr afield aindex aextract apick pickv_lit Bool.or_false Bool.false_or Bool.or_true Bool.true_or imp_self aslice chunk roomB abound aconv abuild afill splice alen aminmax abuiltin anil apart Value.oneCell' astore aappend srcEs abuildSlice amakeSlice amapPut alookup aput afind mget keyV sameV_int Option.isSome_some Option.isSome_none cond_true cond_false asets isEq plus_obj plus_nxt plus_add plus_set plus_del IntKind.bits Option.map_some Option.map_none Option.bind_some Option.bind_none Option.join_some Option.getD_some Option.getD_none Option.toList List.getElem?_toArray List.getElem?_cons_zero List.getElem?_cons_succ List.getElem?_nil List.length_cons List.length_nil List.length_map List.head?_cons List.cons_append List.nil_append List.append_nil List.map_cons List.map_nil List.getD_cons_zero List.getD_cons_succ List.replicate_succ List.replicate_zero List.set_cons_zero List.set_cons_succ List.take_succ_cons List.take_zero List.drop_succ_cons List.drop_zero List.all_cons List.all_nil Nat.zero_add if_true if_false true_and and_true false_and and_false true_implies implies_true forall_const Bool.and_true Bool.true_and Bool.false_and Bool.and_false Bool.true_beq Bool.false_beq Bool.not_not beq_tt beq_ff Int.toNat_natCast decide_true decide_false Bool.not_true Bool.not_false Bool.true_eq_false Bool.false_eq_true false_implies exists_prop eq_self bne_self_eq_false beq_self_eq_true decide_eq_true_eq decide_eq_false_iff_not Bool.not_eq_true' Bool.not_eq_false' AV.int AV.bool AV.nilS ne_eq not_false_eq_true not_true_eq_false exists_eq_left exists_eq_left' Nat.lt_irrefl core_lit grd_lit acells_lit one_lit core_agg grd_agg acells_agg one_agg core_tup grd_tup acells_tup one_tup core_sl grd_sl acells_sl one_sl core_esl grd_esl acells_esl one_esl core_rsl grd_rsl acells_rsl one_rsl core_ptr grd_ptr acells_ptr one_ptr core_iptr grd_iptr acells_iptr one_iptr core_clo grd_clo acells_clo one_clo core_mp grd_mp acells_mp one_mp core_any grd_any acells_any one_any core_gv grd_gv fit_agg fit_lit fit_sl fit_esl fit_rsl fit_ptr fit_iptr fit_clo fit_mp retq_ret retq_normal set_nxt set_set plus_obj_set plus_set_set app_get0 app_get app_set0 app_set List.append_assoc List.length_append List.length_set Nat.lt_add_one Nat.add_lt_add_iff_right Nat.lt_add_right_iff_pos Nat.add_lt_add_iff_left List.mem_cons List.not_mem_nil or_false forall_eq forall_eq_or_imp lt_s0 lt_s1 lt_s2 lt_s3 lt_s4 lt_s5 lt_s6 lt_s7 lt_s8 pickv_t pickv_f or_nand or_nand2 imp_and_l SealT SealOs sealO_cells sl_lit sl_any sl_agg sl_tup sl_sl sl_rsl slO sl_esl sl_nil sl_eslesl sl_eslnil sl_rslrsl sl_eslrsl sl_nilrsl sl_ptr sl_iptr sl_ptri slP sl_clo sl_mp sl_gv sll_nil sll_cons slll_nil slll_cons shut_eq shutO Option.join_none Fn.func.injEq and_self sealL_self sealLL_self seal_self PureL PureLL Pure Nat.le_refl Nat.zero_le AV.lit.injEq Value.int.injEq Value.bool.injEq false_or or_true true_or Int.natCast_zero Int.ofNat_zero Int.cast_ofNat_Int Int.natCast_add Int.natCast_one Option.some.injEq piL_is sop_nil sop_cons sop_none sop_some sopO_some sop_new shut_pi shutL_nil shutL_cons exQ_exit exQ_ret exQ_normal Go.Sim.Tryz.ty_load1 Go.Sim.Tryz.ty_zero1 Go.Sim.Tryz.ty_load2 Go.Sim.Tryz.ty_zero2 Go.Sim.Tryz.ty_und2 Go.Sim.Tryz.ty_load3 Go.Sim.Tryz.ty_zero3 Go.Sim.Tryz.ty_und3 Go.Sim.Tryz.ty_load4 Go.Sim.Tryz.ty_zero4 Go.Sim.Tryz.ty_und4 Go.Sim.Tryz.ty_load5 Go.Sim.Tryz.ty_zero5 Go.Sim.Tryz.ty_und5 Go.Sim.Tryz.ty_load9 Go.Sim.Tryz.ty_zero9 Go.Sim.Tryz.ty_und9 Go.Sim.Tryz.ty_load21 Go.Sim.Tryz.ty_zero21 Go.Sim.Tryz.ty_und21 Go.Sim.Tryz.ty_load22 Go.Sim.Tryz.ty_zero22 Go.Sim.Tryz.ty_el22 Go.Sim.Tryz.ty_zeroE22 Go.Sim.Tryz.ty_load24 Go.Sim.Tryz.ty_zero24 Go.Sim.Tryz.ty_fld24_0 Go.Sim.Tryz.ty_part24_0 Go.Sim.Tryz.ty_struct24 Go.Sim.Tryz.ty_load25 Go.Sim.Tryz.ty_zero25 Go.Sim.Tryz.ty_el25 Go.Sim.Tryz.ty_zeroE25 Go.Sim.Tryz.ty_load26 Go.Sim.Tryz.ty_zero26 Go.Sim.Tryz.ty_el26 Go.Sim.Tryz.ty_zeroE26 Go.Sim.Tryz.ty_load28 Go.Sim.Tryz.ty_zero28 Go.Sim.Tryz.ty_fld28_0 Go.Sim.Tryz.ty_part28_0 Go.Sim.Tryz.ty_fld28_1 Go.Sim.Tryz.ty_part28_1 Go.Sim.Tryz.ty_fld28_2 Go.Sim.Tryz.ty_part28_2 Go.Sim.Tryz.ty_fld28_3 Go.Sim.Tryz.ty_part28_3 Go.Sim.Tryz.ty_fld28_4 Go.Sim.Tryz.ty_part28_4 Go.Sim.Tryz.ty_fld28_5 Go.Sim.Tryz.ty_part28_5 Go.Sim.Tryz.ty_struct28 Go.Sim.Tryz.ty_load29 Go.Sim.Tryz.ty_zero29 Go.Sim.Tryz.ty_arr29 Go.Sim.Tryz.ty_part29_0 Go.Sim.Tryz.ty_part29_1 Go.Sim.Tryz.ty_struct29 Go.Sim.Tryz.ty_load30 Go.Sim.Tryz.ty_zero30 Go.Sim.Tryz.ty_el30 Go.Sim.Tryz.ty_zeroE30 Go.Sim.Tryz.ty_load32 Go.Sim.Tryz.ty_zero32 Go.Sim.Tryz.ty_fld32_0 Go.Sim.Tryz.ty_part32_0 Go.Sim.Tryz.ty_fld32_1 Go.Sim.Tryz.ty_part32_1 Go.Sim.Tryz.ty_fld32_2 Go.Sim.Tryz.ty_part32_2 Go.Sim.Tryz.ty_fld32_3 Go.Sim.Tryz.ty_part32_3 Go.Sim.Tryz.ty_struct32 Go.Sim.Tryz.ty_load37 Go.Sim.Tryz.ty_zero37 Go.Sim.Tryz.ty_el37 Go.Sim.Tryz.ty_zeroE37 Go.Sim.Tryz.ty_load39 Go.Sim.Tryz.ty_zero39 Go.Sim.Tryz.ty_fld39_0 Go.Sim.Tryz.ty_part39_0 Go.Sim.Tryz.ty_fld39_1 Go.Sim.Tryz.ty_part39_1 Go.Sim.Tryz.ty_struct39 Go.Sim.Tryz.ty_load52 Go.Sim.Tryz.ty_zero52 Go.Sim.Tryz.ty_fld52_0 Go.Sim.Tryz.ty_part52_0 Go.Sim.Tryz.ty_fld52_1 Go.Sim.Tryz.ty_part52_1 Go.Sim.Tryz.ty_fld52_2 Go.Sim.Tryz.ty_part52_2 Go.Sim.Tryz.ty_struct52 Go.Sim.Tryz.ty_load55 Go.Sim.Tryz.ty_zero55 Go.Sim.Tryz.ty_load56 Go.Sim.Tryz.ty_zero56 Go.Sim.Tryz.ty_load70 Go.Sim.Tryz.ty_zero70 Go.Sim.Tryz.ty_el70 Go.Sim.Tryz.ty_zeroE70 Go.Sim.Tryz.ty_load76 Go.Sim.Tryz.ty_zero76 Go.Sim.Tryz.ty_el76 Go.Sim.Tryz.ty_zeroE76 Go.Sim.Tryz.ty_load78 Go.Sim.Tryz.ty_zero78 Go.Sim.Tryz.ty_fld78_0 Go.Sim.Tryz.ty_part78_0 Go.Sim.Tryz.ty_struct78 Go.Sim.Tryz.ty_load84 Go.Sim.Tryz.ty_zero84 Go.Sim.Tryz.ty_fld84_0 Go.Sim.Tryz.ty_part84_0 Go.Sim.Tryz.ty_struct84 Go.Sim.Tryz.ty_load85 Go.Sim.Tryz.ty_zero85 Go.Sim.Tryz.ty_load92 Go.Sim.Tryz.ty_zero92 Go.Sim.Tryz.ty_load93 Go.Sim.Tryz.ty_zero93 Go.Sim.Tryz.ty_und93 Go.Sim.Tryz.ty_load95 Go.Sim.Tryz.ty_zero95 Go.Sim.Tryz.ty_und95 Go.Sim.Tryz.ty_load104 Go.Sim.Tryz.ty_zero104 Go.Sim.Tryz.ty_fld104_0 Go.Sim.Tryz.ty_part104_0 Go.Sim.Tryz.ty_fld104_1 Go.Sim.Tryz.ty_part104_1 Go.Sim.Tryz.ty_struct104 Go.Sim.Tryz.ty_load110 Go.Sim.Tryz.ty_zero110 Go.Sim.Tryz.ty_fld110_0 Go.Sim.Tryz.ty_part110_0 Go.Sim.Tryz.ty_fld110_1 Go.Sim.Tryz.ty_part110_1 Go.Sim.Tryz.ty_struct110 Go.Sim.Tryz.ty_load112 Go.Sim.Tryz.ty_zero112 Go.Sim.Tryz.ty_fld112_0 Go.Sim.Tryz.ty_part112_0 Go.Sim.Tryz.ty_fld112_1 Go.Sim.Tryz.ty_part112_1 Go.Sim.Tryz.ty_fld112_2 Go.Sim.Tryz.ty_part112_2 Go.Sim.Tryz.ty_fld112_3 Go.Sim.Tryz.ty_part112_3 Go.Sim.Tryz.ty_struct112 Go.Sim.Tryz.ty_load119 Go.Sim.Tryz.ty_zero119 Go.Sim.Tryz.ty_load123 Go.Sim.Tryz.ty_zero123 Go.Sim.Tryz.ty_fld123_0 Go.Sim.Tryz.ty_part123_0 Go.Sim.Tryz.ty_fld123_1 Go.Sim.Tryz.ty_part123_1 Go.Sim.Tryz.ty_struct123 Go.Sim.Tryz.ty_load124 Go.Sim.Tryz.ty_zero124 Go.Sim.Tryz.ty_el124 Go.Sim.Tryz.ty_zeroE124 Go.Sim.Tryz.ty_load125 Go.Sim.Tryz.ty_zero125 Go.Sim.Tryz.ty_el125 Go.Sim.Tryz.ty_zeroE125 Go.Sim.Tryz.ty_load128 Go.Sim.Tryz.ty_zero128 Go.Sim.Tryz.ty_fld128_0 Go.Sim.Tryz.ty_part128_0 Go.Sim.Tryz.ty_struct128 Go.Sim.Tryz.ty_load135 Go.Sim.Tryz.ty_zero135 Go.Sim.Tryz.ty_und135 Go.Sim.Tryz.ty_load140 Go.Sim.Tryz.ty_zero140 Go.Sim.Tryz.ty_load141 Go.Sim.Tryz.ty_zero141 Go.Sim.Tryz.ty_el141 Go.Sim.Tryz.ty_zeroE141 Go.Sim.Tryz.ty_load148 Go.Sim.Tryz.ty_zero148 Go.Sim.Tryz.ty_load151 Go.Sim.Tryz.ty_zero151 Go.Sim.Tryz.ty_load159 Go.Sim.Tryz.ty_zero159 Go.Sim.Tryz.ty_und159 Go.Sim.Tryz.ty_vzero128 Go.Sim.Tryz.ty_load168 Go.Sim.Tryz.ty_zero168 Go.Sim.Tryz.ty_fld168_0 Go.Sim.Tryz.ty_part168_0 Go.Sim.Tryz.ty_fld168_1 Go.Sim.Tryz.ty_part168_1 Go.Sim.Tryz.ty_fld168_2 Go.Sim.Tryz.ty_part168_2 Go.Sim.Tryz.ty_struct168 Go.Sim.Tryz.ty_load170 Go.Sim.Tryz.ty_zero170 Go.Sim.Tryz.ty_load172 Go.Sim.Tryz.ty_zero172 Go.Sim.Tryz.ty_und172 Go.Sim.Tryz.ty_load179 Go.Sim.Tryz.ty_zero179 Go.Sim.Tryz.ty_und179 Go.Sim.Tryz.ty_load181 Go.Sim.Tryz.ty_zero181 Go.Sim.Tryz.ty_load184 Go.Sim.Tryz.ty_zero184 Go.Sim.Tryz.ty_und184 Go.Sim.Tryz.ty_load188 Go.Sim.Tryz.ty_zero188 Go.Sim.Tryz.ty_load191 Go.Sim.Tryz.ty_zero191
section
set_option linter.unusedSimpArgs false
set_option linter.unusedVariables false
set_option maxRecDepth 100000
attribute [local push_cast] encPl_mk encPl_take encPl_len encPl_one encPls_pure encPl_pure

/-- What fits, but its plans. -/
def fitP (c : List Df) (q : Qy) : Pl → Bool
  | .mk op _ a b l =>
    match l with
    | [] => true
    | [x] => (q.cols c (treeP x).set).contains a
    | x :: y :: _ => if op = 1 then true else (q.pairs (treeP x).set (treeP y).set).contains (a, b) && (decide (op = 2) || (decide (x.order = a) && decide (y.order = b)))
theorem setOf_may {p : Pl} (hf : p.few = true) (hm : (treeP p).may = true) : setOfP p = (treeP p).set := by
  have h : p.tree.2 = true := by rw [tree_iff, hf, hm]; rfl
  rw [setOfP, if_pos h, tree_1 h]
theorem idx_has (l : List Int) (x : Int) : decide (idx (fun c => decide (x = c)) l < 0) = !l.contains x := by
  have h : decide (0 ≤ idx (fun c => decide (x = c)) l) = l.any (fun c => decide (x = c)) := idx_nonneg
  have e : ∀ l : List Int, l.any (fun c => decide (x = c)) = l.contains x := by
    intro l
    induction l with
    | nil => rfl
    | cons y l ih => rw [List.any_cons, List.contains_cons, ih]; rfl
  rw [e] at h
  rw [← h, ← decide_not, decide_eq_decide]
  omega
theorem parts_all (c : List Df) (q : Qy) (op occ a b : Int) (l : List Pl) : (parts (.mk op occ a b l)).all (fitP c q) = (fitP c q (.mk op occ a b l) && (partsPl l).all (fitP c q)) := by
  rw [parts_mk, List.all_cons]
theorem pairs_le (q : Qy) (hq : q.Ok) (a b : Int) : (q.pairs a b).length ≤ 1000000 := by
  have h1 := pairs_len q a b
  have h2 : (q.new a b).length ≤ q.p.length := idxF_lt _ _
  have := hq.1
  omega
theorem partsPl_snoc (l : List Pl) (i : Nat) (h : i < l.length) : partsPl (l.take (i + 1)) = partsPl (l.take i) ++ parts l[i] := by
  have app : ∀ l m : List Pl, partsPl (l ++ m) = partsPl l ++ partsPl m := by
    intro l m
    induction l with
    | nil => rw [partsPl, List.nil_append, List.nil_append]
    | cons x l ih => rw [List.cons_append, partsPl_cons, partsPl_cons, ih, List.append_assoc]
  rw [List.take_succ_eq_append_getElem h, app, partsPl_cons, partsPl, List.append_nil]
theorem partsPl_end {l : List Pl} {i : Nat} (h : i < l.length) {f : Pl → Bool} (hf : (parts l[i]).all f = false) : (partsPl l).all f = false := by
  rw [List.all_eq_false] at hf ⊢
  obtain ⟨x, hx, h2⟩ := hf
  exact ⟨x, partsPl_mem (List.getElem_mem h) x hx, h2⟩
theorem has_snoc (ps : List (Int × Int)) (j : Nat) (hj : j < ps.length) (a b : Int) : (ps.take (j + 1)).contains (a, b) = ((ps.take j).contains (a, b) || (decide (ps[j].1 = a) && decide (ps[j].2 = b))) := by
  rw [List.take_succ_eq_append_getElem hj, List.contains_append]
  congr 1
  rw [List.contains_cons, List.contains_nil, Bool.or_false, Bool.eq_iff_iff, beq_iff_eq, Bool.and_eq_true, decide_eq_true_eq, decide_eq_true_eq, Prod.ext_iff]
  exact ⟨fun h => ⟨h.1.symm, h.2.symm⟩, fun h => ⟨h.1.symm, h.2.symm⟩⟩
set_option maxHeartbeats 4000000 in
theorem fitsR_ok (c : List Df) (hcl : c.length ≤ 1000000) (q : Qy) (hq : q.Ok) (hqi : q.In) (p : Pl) : p.Ok → p.few = true → (treeP p).may = true → Quiet Go.Proofs.Tryz.prog 85 [.agg [.sl (c.map encD)], .agg (encQ q), .agg (encPl p)] (.bool ((parts p).all (fitP c q))) := by
  induction p using Pl.ind with
  | h op occ a b l ih =>
  intro hok hf hm
  have hok' := hok
  obtain ⟨hl, hlo⟩ := hok
  have hmx := part_may (few_own hf) hm
  have hfx : ∀ x ∈ l, x.few = true := fun x hx => few_part hf hx
  have ih' := fun x hx => ih x hx (hlo x hx) (hfx x hx) (hmx x hx)
  have hS : ∀ x ∈ l, Quiet Go.Proofs.Tryz.prog 87 [.agg (encPl x)] (.int (treeP x).set) := fun x hx => by
    rw [← setOf_may (hfx x hx) (hmx x hx)]; exact SetP_ok x (hlo x hx)
  have hSp : Quiet Go.Proofs.Tryz.prog 87 [.agg (encPl (.mk op occ a b l))] (.int (treeP (.mk op occ a b l)).set) := by
    rw [← setOf_may hf hm]; exact SetP_ok _ hok'
  have hO : ∀ x ∈ l, Quiet Go.Proofs.Tryz.prog 33 [.agg (encPl x)] (.int x.order) := fun x hx => OrderR_ok x (hlo x hx)
  have hR0 := parts_all c q op occ a b l
  generalize (parts (.mk op occ a b l)).all (fitP c q) = R at hR0 ⊢
  refine quiet_of (rs := #[.tmp 6]) Go.Proofs.Tryz.func85 rfl rfl rfl mixed rfl rfl fun H hs => ?_
  rcases form_split (few_own hf) with ⟨rfl, hll⟩ | ⟨rfl, x, hll⟩ | ⟨hop, x, y, hll⟩
  · have hft : fitP c q (.mk 0 occ a b l) = true := by rw [hll]; rfl
    simp -implicitDefEqProofs only [push_cast, Nat.reduceAdd, Nat.reduceSub, Nat.reduceMul, Nat.reduceLT, Nat.reduceLeDiff, Nat.reduceEqDiff, Nat.reduceBEq, reduceCtorEq, reduceIte, Int.reduceLE, Int.reduceLT, Int.reduceNeg, Int.reduceToNat, encQ, Int.reduceEq, if_false]
    refine areg_at 25 (by kernel_rfl) (by kernel_rfl) ?_
    simp -implicitDefEqProofs only [push_cast, Nat.reduceAdd, Nat.reduceSub, Nat.reduceMul, Nat.reduceLT, Nat.reduceLeDiff, Nat.reduceEqDiff, Nat.reduceBEq, reduceCtorEq, reduceIte, Int.reduceLE, Int.reduceLT, Int.reduceNeg, Int.reduceToNat, encQ, Int.reduceEq, if_false]
    refine gcallq (.int 0) (fun h => by cases h) ?_
    simp -implicitDefEqProofs only [push_cast, Nat.reduceAdd, Nat.reduceSub, Nat.reduceMul, Nat.reduceLT, Nat.reduceLeDiff, Nat.reduceEqDiff, Nat.reduceBEq, reduceCtorEq, reduceIte, Int.reduceLE, Int.reduceLT, Int.reduceNeg, Int.reduceToNat, encQ, Int.reduceEq, if_false]
    refine gcallq (.int 0) (fun h => by cases h) ?_
    simp -implicitDefEqProofs only [push_cast, Nat.reduceAdd, Nat.reduceSub, Nat.reduceMul, Nat.reduceLT, Nat.reduceLeDiff, Nat.reduceEqDiff, Nat.reduceBEq, reduceCtorEq, reduceIte, Int.reduceLE, Int.reduceLT, Int.reduceNeg, Int.reduceToNat, encQ, Int.reduceEq, if_false]
    refine loop_at hs (σ := Nat) (fun i => i ≤ l.length ∧ (partsPl (l.take i)).all (fitP c q) = true) (fun i => l.length - i)
      (fun i => [(11, .int i), (3, .ptr (H.nxt + 0) 1 0 0), (4, .ptr (H.nxt + 1) 6 0 0), (5, .ptr (H.nxt + 2) 5 0 0)]) (fun i => [some (.cells 1 [[.sl (c.map encD)]] 0), some (.cells 6 [encQ q] 0), some (.cells 5 [encPl (.mk 0 occ a b l)] 0)]) [some 0, some 1, some 2] 0 ⟨by omega, by simp [partsPl]⟩ rfl ?_ ?_ ?_
    · (try simp -implicitDefEqProofs only [push_cast, Nat.reduceAdd, Nat.reduceSub, Nat.reduceMul, Nat.reduceLT, Nat.reduceLeDiff, Nat.reduceEqDiff, Nat.reduceBEq, reduceCtorEq, reduceIte, Int.reduceLE, Int.reduceLT, Int.reduceNeg, Int.reduceToNat, hll, encDs_pure, encEs_pure, encIs_pure, encQ, List.map_cons, List.map_nil])
    · (try simp -implicitDefEqProofs only [push_cast, Nat.reduceAdd, Nat.reduceSub, Nat.reduceMul, Nat.reduceLT, Nat.reduceLeDiff, Nat.reduceEqDiff, Nat.reduceBEq, reduceCtorEq, reduceIte, Int.reduceLE, Int.reduceLT, Int.reduceNeg, Int.reduceToNat, hll, encDs_pure, encEs_pure, encIs_pure, encQ, List.map_cons, List.map_nil])
    rintro i ⟨hi2, hai⟩
    clear hll
    by_cases hi : i < l.length
    · have hi' : ((i : Int) < (l.length : Int)) = True := by simp; omega
      have hi0 : (0 ≤ (i : Int)) = True := by simp
      simp -implicitDefEqProofs only [push_cast, Nat.reduceAdd, Nat.reduceSub, Nat.reduceMul, Nat.reduceLT, Nat.reduceLeDiff, Nat.reduceEqDiff, Nat.reduceBEq, reduceCtorEq, reduceIte, Int.reduceLE, Int.reduceLT, Int.reduceNeg, Int.reduceToNat, hi', hi0, encPls_get l i hi, encQ]
      refine areg_at 9 (by kernel_rfl) (by kernel_rfl) ?_
      simp -implicitDefEqProofs only [push_cast, Nat.reduceAdd, Nat.reduceSub, Nat.reduceMul, Nat.reduceLT, Nat.reduceLeDiff, Nat.reduceEqDiff, Nat.reduceBEq, reduceCtorEq, reduceIte, Int.reduceLE, Int.reduceLT, Int.reduceNeg, Int.reduceToNat, hi', hi0, encPls_get l i hi, encQ]
      refine ahdq (ih' l[i] (List.getElem_mem hi)) ?_
      simp -implicitDefEqProofs only [push_cast, Nat.reduceAdd, Nat.reduceSub, Nat.reduceMul, Nat.reduceLT, Nat.reduceLeDiff, Nat.reduceEqDiff, Nat.reduceBEq, reduceCtorEq, reduceIte, Int.reduceLE, Int.reduceLT, Int.reduceNeg, Int.reduceToNat, encQ]
      refine ⟨fun h => ?_, fun h => ?_⟩
      · rw [hR0, hft, partsPl_end hi h, Bool.true_and]
      · rw [wrap64 (n := (i : Int) + 1) (by omega) (by omega)]
        refine next_at [some 0, some 1, some 2] (i + 1) ⟨by omega, by rw [partsPl_snoc l i hi, List.all_append, hai, h]; rfl⟩ (by omega) rfl ?_ ?_
        · (try simp -implicitDefEqProofs only [push_cast, Nat.reduceAdd, Nat.reduceSub, Nat.reduceMul, Nat.reduceLT, Nat.reduceLeDiff, Nat.reduceEqDiff, Nat.reduceBEq, reduceCtorEq, reduceIte, Int.reduceLE, Int.reduceLT, Int.reduceNeg, Int.reduceToNat, encDs_pure, encEs_pure, encIs_pure, encQ])
        · (try simp -implicitDefEqProofs only [push_cast, Nat.reduceAdd, Nat.reduceSub, Nat.reduceMul, Nat.reduceLT, Nat.reduceLeDiff, Nat.reduceEqDiff, Nat.reduceBEq, reduceCtorEq, reduceIte, Int.reduceLE, Int.reduceLT, Int.reduceNeg, Int.reduceToNat, encDs_pure, encEs_pure, encIs_pure, encQ])
    · have hi' : ((i : Int) < (l.length : Int)) = False := by simp; omega
      rw [List.take_of_length_le (by omega)] at hai
      simp -implicitDefEqProofs only [push_cast, Nat.reduceAdd, Nat.reduceSub, Nat.reduceMul, Nat.reduceLT, Nat.reduceLeDiff, Nat.reduceEqDiff, Nat.reduceBEq, reduceCtorEq, reduceIte, Int.reduceLE, Int.reduceLT, Int.reduceNeg, Int.reduceToNat, hi', encQ]
      rw [hR0, hft, hai, Bool.true_and]
  · have hfit : fitP c q (.mk 4 occ a b l) = (q.cols c (treeP (.mk 4 occ a b l)).set).contains a := by rw [hll, treeP]; rfl
    have hcl2 : (q.cols c (treeP (.mk 4 occ a b l)).set).length ≤ 1000000 := by
      unfold Qy.cols
      split
      · have := colsIn_le c q (bitI (treeP (.mk 4 occ a b l)).set); omega
      · simp
    rw [encPl_mk] at hSp
    simp -implicitDefEqProofs only [push_cast, Nat.reduceAdd, Nat.reduceSub, Nat.reduceMul, Nat.reduceLT, Nat.reduceLeDiff, Nat.reduceEqDiff, Nat.reduceBEq, reduceCtorEq, reduceIte, Int.reduceLE, Int.reduceLT, Int.reduceNeg, Int.reduceToNat, encQ, Int.reduceEq, if_false, if_true, or_true, or_false, true_or, false_or, List.map_cons, List.map_nil, List.length_cons, List.length_nil, Int.reduceAdd]
    refine areg_at 6 (by kernel_rfl) (by kernel_rfl) ?_
    simp -implicitDefEqProofs only [push_cast, Nat.reduceAdd, Nat.reduceSub, Nat.reduceMul, Nat.reduceLT, Nat.reduceLeDiff, Nat.reduceEqDiff, Nat.reduceBEq, reduceCtorEq, reduceIte, Int.reduceLE, Int.reduceLT, Int.reduceNeg, Int.reduceToNat, encQ, Int.reduceEq, if_false, if_true, or_true, or_false, true_or, false_or, List.map_cons, List.map_nil, List.length_cons, List.length_nil, Int.reduceAdd]
    refine ahdq hSp ?_
    simp -implicitDefEqProofs only [push_cast, Nat.reduceAdd, Nat.reduceSub, Nat.reduceMul, Nat.reduceLT, Nat.reduceLeDiff, Nat.reduceEqDiff, Nat.reduceBEq, reduceCtorEq, reduceIte, Int.reduceLE, Int.reduceLT, Int.reduceNeg, Int.reduceToNat, encQ, Int.reduceEq, if_false, if_true, or_true, or_false, true_or, false_or, List.map_cons, List.map_nil, List.length_cons, List.length_nil, Int.reduceAdd]
    refine ahdq (ColsRQ_ok c hcl q hq hqi _) ?_
    simp -implicitDefEqProofs only [push_cast, Nat.reduceAdd, Nat.reduceSub, Nat.reduceMul, Nat.reduceLT, Nat.reduceLeDiff, Nat.reduceEqDiff, Nat.reduceBEq, reduceCtorEq, reduceIte, Int.reduceLE, Int.reduceLT, Int.reduceNeg, Int.reduceToNat, encQ, Int.reduceEq, if_false, if_true, or_true, or_false, true_or, false_or, List.map_cons, List.map_nil, List.length_cons, List.length_nil, Int.reduceAdd]
    refine callq (Place_ok _ hcl2 a) ?_
    simp -implicitDefEqProofs only [push_cast, Nat.reduceAdd, Nat.reduceSub, Nat.reduceMul, Nat.reduceLT, Nat.reduceLeDiff, Nat.reduceEqDiff, Nat.reduceBEq, reduceCtorEq, reduceIte, Int.reduceLE, Int.reduceLT, Int.reduceNeg, Int.reduceToNat, encQ, Int.reduceEq, if_false, if_true, or_true, or_false, true_or, false_or, List.map_cons, List.map_nil, List.length_cons, List.length_nil, Int.reduceAdd]
    have hix := idx_has (q.cols c (treeP (.mk 4 occ a b l)).set) a
    rw [← hfit] at hix
    refine ⟨fun h => ?_, fun h => ?_⟩
    · rw [decide_eq_true h] at hix
      rw [hR0, ← Bool.not_not (fitP c q _), ← hix]; rfl
    rw [decide_eq_false h] at hix
    have hft : fitP c q (.mk 4 occ a b l) = true := by rw [← Bool.not_not (fitP c q _), ← hix]; rfl
    refine areg_at 25 (by kernel_rfl) (by kernel_rfl) ?_
    simp -implicitDefEqProofs only [push_cast, Nat.reduceAdd, Nat.reduceSub, Nat.reduceMul, Nat.reduceLT, Nat.reduceLeDiff, Nat.reduceEqDiff, Nat.reduceBEq, reduceCtorEq, reduceIte, Int.reduceLE, Int.reduceLT, Int.reduceNeg, Int.reduceToNat, encQ, Int.reduceEq, if_false, if_true, or_true, or_false, true_or, false_or, List.map_cons, List.map_nil, List.length_cons, List.length_nil, Int.reduceAdd]
    refine gcallq (.int 0) (fun h => by cases h) ?_
    simp -implicitDefEqProofs only [push_cast, Nat.reduceAdd, Nat.reduceSub, Nat.reduceMul, Nat.reduceLT, Nat.reduceLeDiff, Nat.reduceEqDiff, Nat.reduceBEq, reduceCtorEq, reduceIte, Int.reduceLE, Int.reduceLT, Int.reduceNeg, Int.reduceToNat, encQ, Int.reduceEq, if_false, if_true, or_true, or_false, true_or, false_or, List.map_cons, List.map_nil, List.length_cons, List.length_nil, Int.reduceAdd]
    refine gcallq (.int 0) (fun h => by cases h) ?_
    simp -implicitDefEqProofs only [push_cast, Nat.reduceAdd, Nat.reduceSub, Nat.reduceMul, Nat.reduceLT, Nat.reduceLeDiff, Nat.reduceEqDiff, Nat.reduceBEq, reduceCtorEq, reduceIte, Int.reduceLE, Int.reduceLT, Int.reduceNeg, Int.reduceToNat, encQ, Int.reduceEq, if_false, if_true, or_true, or_false, true_or, false_or, List.map_cons, List.map_nil, List.length_cons, List.length_nil, Int.reduceAdd]
    refine loop_at hs (σ := Nat) (fun i => i ≤ l.length ∧ (partsPl (l.take i)).all (fitP c q) = true) (fun i => l.length - i)
      (fun i => [(11, .int i), (3, .ptr (H.nxt + 0) 1 0 0), (4, .ptr (H.nxt + 1) 6 0 0), (5, .ptr (H.nxt + 2) 5 0 0)]) (fun i => [some (.cells 1 [[.sl (c.map encD)]] 0), some (.cells 6 [encQ q] 0), some (.cells 5 [encPl (.mk 4 occ a b l)] 0)]) [some 0, some 1, some 2] 0 ⟨by omega, by simp [partsPl]⟩ rfl ?_ ?_ ?_
    · (try simp -implicitDefEqProofs only [push_cast, Nat.reduceAdd, Nat.reduceSub, Nat.reduceMul, Nat.reduceLT, Nat.reduceLeDiff, Nat.reduceEqDiff, Nat.reduceBEq, reduceCtorEq, reduceIte, Int.reduceLE, Int.reduceLT, Int.reduceNeg, Int.reduceToNat, hll, encDs_pure, encEs_pure, encIs_pure, encQ, List.map_cons, List.map_nil])
    · (try simp -implicitDefEqProofs only [push_cast, Nat.reduceAdd, Nat.reduceSub, Nat.reduceMul, Nat.reduceLT, Nat.reduceLeDiff, Nat.reduceEqDiff, Nat.reduceBEq, reduceCtorEq, reduceIte, Int.reduceLE, Int.reduceLT, Int.reduceNeg, Int.reduceToNat, hll, encDs_pure, encEs_pure, encIs_pure, encQ, List.map_cons, List.map_nil])
    rintro i ⟨hi2, hai⟩
    clear hll
    by_cases hi : i < l.length
    · have hi' : ((i : Int) < (l.length : Int)) = True := by simp; omega
      have hi0 : (0 ≤ (i : Int)) = True := by simp
      simp -implicitDefEqProofs only [push_cast, Nat.reduceAdd, Nat.reduceSub, Nat.reduceMul, Nat.reduceLT, Nat.reduceLeDiff, Nat.reduceEqDiff, Nat.reduceBEq, reduceCtorEq, reduceIte, Int.reduceLE, Int.reduceLT, Int.reduceNeg, Int.reduceToNat, hi', hi0, encPls_get l i hi, encQ]
      refine areg_at 9 (by kernel_rfl) (by kernel_rfl) ?_
      simp -implicitDefEqProofs only [push_cast, Nat.reduceAdd, Nat.reduceSub, Nat.reduceMul, Nat.reduceLT, Nat.reduceLeDiff, Nat.reduceEqDiff, Nat.reduceBEq, reduceCtorEq, reduceIte, Int.reduceLE, Int.reduceLT, Int.reduceNeg, Int.reduceToNat, hi', hi0, encPls_get l i hi, encQ]
      refine ahdq (ih' l[i] (List.getElem_mem hi)) ?_
      simp -implicitDefEqProofs only [push_cast, Nat.reduceAdd, Nat.reduceSub, Nat.reduceMul, Nat.reduceLT, Nat.reduceLeDiff, Nat.reduceEqDiff, Nat.reduceBEq, reduceCtorEq, reduceIte, Int.reduceLE, Int.reduceLT, Int.reduceNeg, Int.reduceToNat, encQ]
      refine ⟨fun h => ?_, fun h => ?_⟩
      · rw [hR0, hft, partsPl_end hi h, Bool.true_and]
      · rw [wrap64 (n := (i : Int) + 1) (by omega) (by omega)]
        refine next_at [some 0, some 1, some 2] (i + 1) ⟨by omega, by rw [partsPl_snoc l i hi, List.all_append, hai, h]; rfl⟩ (by omega) rfl ?_ ?_
        · (try simp -implicitDefEqProofs only [push_cast, Nat.reduceAdd, Nat.reduceSub, Nat.reduceMul, Nat.reduceLT, Nat.reduceLeDiff, Nat.reduceEqDiff, Nat.reduceBEq, reduceCtorEq, reduceIte, Int.reduceLE, Int.reduceLT, Int.reduceNeg, Int.reduceToNat, encDs_pure, encEs_pure, encIs_pure, encQ])
        · (try simp -implicitDefEqProofs only [push_cast, Nat.reduceAdd, Nat.reduceSub, Nat.reduceMul, Nat.reduceLT, Nat.reduceLeDiff, Nat.reduceEqDiff, Nat.reduceBEq, reduceCtorEq, reduceIte, Int.reduceLE, Int.reduceLT, Int.reduceNeg, Int.reduceToNat, encDs_pure, encEs_pure, encIs_pure, encQ])
    · have hi' : ((i : Int) < (l.length : Int)) = False := by simp; omega
      rw [List.take_of_length_le (by omega)] at hai
      simp -implicitDefEqProofs only [push_cast, Nat.reduceAdd, Nat.reduceSub, Nat.reduceMul, Nat.reduceLT, Nat.reduceLeDiff, Nat.reduceEqDiff, Nat.reduceBEq, reduceCtorEq, reduceIte, Int.reduceLE, Int.reduceLT, Int.reduceNeg, Int.reduceToNat, hi', encQ]
      rw [hR0, hft, hai, Bool.true_and]
  · have hg0 : ∀ z : List AV, ([x, y].map encPl).getD 0 z = encPl x := fun _ => rfl
    have hg1 : ∀ z : List AV, ([x, y].map encPl).getD 1 z = encPl y := fun _ => rfl
    have hSx := hS x (by rw [hll]; simp)
    have hSy := hS y (by rw [hll]; simp)
    have hOx := hO x (by rw [hll]; simp)
    have hOy := hO y (by rw [hll]; simp)
    have hfit : fitP c q (.mk op occ a b l) = (if op = 1 then true else (q.pairs (treeP x).set (treeP y).set).contains (a, b) && (decide (op = 2) || (decide (x.order = a) && decide (y.order = b)))) := by rw [hll]; rfl
    rcases hop with rfl | rfl | rfl
    · have hft : fitP c q (.mk 1 occ a b l) = true := by rw [hfit, if_pos rfl]
      simp -implicitDefEqProofs only [push_cast, Nat.reduceAdd, Nat.reduceSub, Nat.reduceMul, Nat.reduceLT, Nat.reduceLeDiff, Nat.reduceEqDiff, Nat.reduceBEq, reduceCtorEq, reduceIte, Int.reduceLE, Int.reduceLT, Int.reduceNeg, Int.reduceToNat, encQ, Int.reduceEq, if_false, if_true, or_true, or_false, true_or, false_or, List.map_cons, List.map_nil, List.length_cons, List.length_nil, Int.reduceAdd, hll, hg0, hg1]
      refine areg_at 25 (by kernel_rfl) (by kernel_rfl) ?_
      simp -implicitDefEqProofs only [push_cast, Nat.reduceAdd, Nat.reduceSub, Nat.reduceMul, Nat.reduceLT, Nat.reduceLeDiff, Nat.reduceEqDiff, Nat.reduceBEq, reduceCtorEq, reduceIte, Int.reduceLE, Int.reduceLT, Int.reduceNeg, Int.reduceToNat, encQ, Int.reduceEq, if_false, if_true, or_true, or_false, true_or, false_or, List.map_cons, List.map_nil, List.length_cons, List.length_nil, Int.reduceAdd, hll, hg0, hg1]
      refine gcallq (.int 0) (fun h => by cases h) ?_
      simp -implicitDefEqProofs only [push_cast, Nat.reduceAdd, Nat.reduceSub, Nat.reduceMul, Nat.reduceLT, Nat.reduceLeDiff, Nat.reduceEqDiff, Nat.reduceBEq, reduceCtorEq, reduceIte, Int.reduceLE, Int.reduceLT, Int.reduceNeg, Int.reduceToNat, encQ, Int.reduceEq, if_false, if_true, or_true, or_false, true_or, false_or, List.map_cons, List.map_nil, List.length_cons, List.length_nil, Int.reduceAdd, hll, hg0, hg1]
      refine gcallq (.int 0) (fun h => by cases h) ?_
      simp -implicitDefEqProofs only [push_cast, Nat.reduceAdd, Nat.reduceSub, Nat.reduceMul, Nat.reduceLT, Nat.reduceLeDiff, Nat.reduceEqDiff, Nat.reduceBEq, reduceCtorEq, reduceIte, Int.reduceLE, Int.reduceLT, Int.reduceNeg, Int.reduceToNat, encQ, Int.reduceEq, if_false, if_true, or_true, or_false, true_or, false_or, List.map_cons, List.map_nil, List.length_cons, List.length_nil, Int.reduceAdd, hll, hg0, hg1]
      refine loop_at hs (σ := Nat) (fun i => i ≤ l.length ∧ (partsPl (l.take i)).all (fitP c q) = true) (fun i => l.length - i)
        (fun i => [(11, .int i), (3, .ptr (H.nxt + 0) 1 0 0), (4, .ptr (H.nxt + 1) 6 0 0), (5, .ptr (H.nxt + 2) 5 0 0)]) (fun i => [some (.cells 1 [[.sl (c.map encD)]] 0), some (.cells 6 [encQ q] 0), some (.cells 5 [encPl (.mk 1 occ a b l)] 0)]) [some 0, some 1, some 2] 0 ⟨by omega, by simp [partsPl]⟩ rfl ?_ ?_ ?_
      · (try simp -implicitDefEqProofs only [push_cast, Nat.reduceAdd, Nat.reduceSub, Nat.reduceMul, Nat.reduceLT, Nat.reduceLeDiff, Nat.reduceEqDiff, Nat.reduceBEq, reduceCtorEq, reduceIte, Int.reduceLE, Int.reduceLT, Int.reduceNeg, Int.reduceToNat, hll, encDs_pure, encEs_pure, encIs_pure, encQ, List.map_cons, List.map_nil])
      · (try simp -implicitDefEqProofs only [push_cast, Nat.reduceAdd, Nat.reduceSub, Nat.reduceMul, Nat.reduceLT, Nat.reduceLeDiff, Nat.reduceEqDiff, Nat.reduceBEq, reduceCtorEq, reduceIte, Int.reduceLE, Int.reduceLT, Int.reduceNeg, Int.reduceToNat, hll, encDs_pure, encEs_pure, encIs_pure, encQ, List.map_cons, List.map_nil])
      rintro i ⟨hi2, hai⟩
      clear hll
      by_cases hi : i < l.length
      · have hi' : ((i : Int) < (l.length : Int)) = True := by simp; omega
        have hi0 : (0 ≤ (i : Int)) = True := by simp
        simp -implicitDefEqProofs only [push_cast, Nat.reduceAdd, Nat.reduceSub, Nat.reduceMul, Nat.reduceLT, Nat.reduceLeDiff, Nat.reduceEqDiff, Nat.reduceBEq, reduceCtorEq, reduceIte, Int.reduceLE, Int.reduceLT, Int.reduceNeg, Int.reduceToNat, hi', hi0, encPls_get l i hi, encQ]
        refine areg_at 9 (by kernel_rfl) (by kernel_rfl) ?_
        simp -implicitDefEqProofs only [push_cast, Nat.reduceAdd, Nat.reduceSub, Nat.reduceMul, Nat.reduceLT, Nat.reduceLeDiff, Nat.reduceEqDiff, Nat.reduceBEq, reduceCtorEq, reduceIte, Int.reduceLE, Int.reduceLT, Int.reduceNeg, Int.reduceToNat, hi', hi0, encPls_get l i hi, encQ]
        refine ahdq (ih' l[i] (List.getElem_mem hi)) ?_
        simp -implicitDefEqProofs only [push_cast, Nat.reduceAdd, Nat.reduceSub, Nat.reduceMul, Nat.reduceLT, Nat.reduceLeDiff, Nat.reduceEqDiff, Nat.reduceBEq, reduceCtorEq, reduceIte, Int.reduceLE, Int.reduceLT, Int.reduceNeg, Int.reduceToNat, encQ]
        refine ⟨fun h => ?_, fun h => ?_⟩
        · rw [hR0, hft, partsPl_end hi h, Bool.true_and]
        · rw [wrap64 (n := (i : Int) + 1) (by omega) (by omega)]
          refine next_at [some 0, some 1, some 2] (i + 1) ⟨by omega, by rw [partsPl_snoc l i hi, List.all_append, hai, h]; rfl⟩ (by omega) rfl ?_ ?_
          · (try simp -implicitDefEqProofs only [push_cast, Nat.reduceAdd, Nat.reduceSub, Nat.reduceMul, Nat.reduceLT, Nat.reduceLeDiff, Nat.reduceEqDiff, Nat.reduceBEq, reduceCtorEq, reduceIte, Int.reduceLE, Int.reduceLT, Int.reduceNeg, Int.reduceToNat, encDs_pure, encEs_pure, encIs_pure, encQ])
          · (try simp -implicitDefEqProofs only [push_cast, Nat.reduceAdd, Nat.reduceSub, Nat.reduceMul, Nat.reduceLT, Nat.reduceLeDiff, Nat.reduceEqDiff, Nat.reduceBEq, reduceCtorEq, reduceIte, Int.reduceLE, Int.reduceLT, Int.reduceNeg, Int.reduceToNat, encDs_pure, encEs_pure, encIs_pure, encQ])
      · have hi' : ((i : Int) < (l.length : Int)) = False := by simp; omega
        rw [List.take_of_length_le (by omega)] at hai
        simp -implicitDefEqProofs only [push_cast, Nat.reduceAdd, Nat.reduceSub, Nat.reduceMul, Nat.reduceLT, Nat.reduceLeDiff, Nat.reduceEqDiff, Nat.reduceBEq, reduceCtorEq, reduceIte, Int.reduceLE, Int.reduceLT, Int.reduceNeg, Int.reduceToNat, hi', encQ]
        rw [hR0, hft, hai, Bool.true_and]
    · simp -implicitDefEqProofs only [push_cast, Nat.reduceAdd, Nat.reduceSub, Nat.reduceMul, Nat.reduceLT, Nat.reduceLeDiff, Nat.reduceEqDiff, Nat.reduceBEq, reduceCtorEq, reduceIte, Int.reduceLE, Int.reduceLT, Int.reduceNeg, Int.reduceToNat, encQ, Int.reduceEq, if_false, if_true, or_true, or_false, true_or, false_or, List.map_cons, List.map_nil, List.length_cons, List.length_nil, Int.reduceAdd, hll, hg0, hg1]
      refine areg_at 13 (by kernel_rfl) (by kernel_rfl) ?_
      simp -implicitDefEqProofs only [push_cast, Nat.reduceAdd, Nat.reduceSub, Nat.reduceMul, Nat.reduceLT, Nat.reduceLeDiff, Nat.reduceEqDiff, Nat.reduceBEq, reduceCtorEq, reduceIte, Int.reduceLE, Int.reduceLT, Int.reduceNeg, Int.reduceToNat, encQ, Int.reduceEq, if_false, if_true, or_true, or_false, true_or, false_or, List.map_cons, List.map_nil, List.length_cons, List.length_nil, Int.reduceAdd, hll, hg0, hg1]
      refine ahdq hSx ?_
      simp -implicitDefEqProofs only [push_cast, Nat.reduceAdd, Nat.reduceSub, Nat.reduceMul, Nat.reduceLT, Nat.reduceLeDiff, Nat.reduceEqDiff, Nat.reduceBEq, reduceCtorEq, reduceIte, Int.reduceLE, Int.reduceLT, Int.reduceNeg, Int.reduceToNat, encQ, Int.reduceEq, if_false, if_true, or_true, or_false, true_or, false_or, List.map_cons, List.map_nil, List.length_cons, List.length_nil, Int.reduceAdd, hll, hg0, hg1]
      refine ahdq hSy ?_
      simp -implicitDefEqProofs only [push_cast, Nat.reduceAdd, Nat.reduceSub, Nat.reduceMul, Nat.reduceLT, Nat.reduceLeDiff, Nat.reduceEqDiff, Nat.reduceBEq, reduceCtorEq, reduceIte, Int.reduceLE, Int.reduceLT, Int.reduceNeg, Int.reduceToNat, encQ, Int.reduceEq, if_false, if_true, or_true, or_false, true_or, false_or, List.map_cons, List.map_nil, List.length_cons, List.length_nil, Int.reduceAdd, hll, hg0, hg1]
      refine ahdq (PairsR_ok q hq _ _) ?_
      simp -implicitDefEqProofs only [push_cast, Nat.reduceAdd, Nat.reduceSub, Nat.reduceMul, Nat.reduceLT, Nat.reduceLeDiff, Nat.reduceEqDiff, Nat.reduceBEq, reduceCtorEq, reduceIte, Int.reduceLE, Int.reduceLT, Int.reduceNeg, Int.reduceToNat, encQ, Int.reduceEq, if_false, if_true, or_true, or_false, true_or, false_or, List.map_cons, List.map_nil, List.length_cons, List.length_nil, Int.reduceAdd, hll, hg0, hg1]
      have hple := pairs_le q hq (treeP x).set (treeP y).set
      generalize q.pairs (treeP x).set (treeP y).set = ps at hple hfit ⊢
      refine loop_at hs (σ := Nat) (fun i => i ≤ ps.length) (fun i => ps.length - i)
        (fun i => [(10, .int i), (9, .bool ((ps.take i).contains (a, b))), (8, .sl (ps.map encP)), (3, .ptr (H.nxt + 0) 1 0 0), (4, .ptr (H.nxt + 1) 6 0 0), (5, .ptr (H.nxt + 2) 5 0 0)]) (fun i => [some (.cells 1 [[.sl (c.map encD)]] 0), some (.cells 6 [encQ q] 0), some (.cells 5 [encPl (.mk 2 occ a b l)] 0)]) [some 0, some 1, some 2] 0 (by omega) rfl ?_ ?_ ?_
      · (try simp -implicitDefEqProofs only [push_cast, Nat.reduceAdd, Nat.reduceSub, Nat.reduceMul, Nat.reduceLT, Nat.reduceLeDiff, Nat.reduceEqDiff, Nat.reduceBEq, reduceCtorEq, reduceIte, Int.reduceLE, Int.reduceLT, Int.reduceNeg, Int.reduceToNat, hll, encDs_pure, encEs_pure, encIs_pure, rowP_pure, encQ, List.map_cons, List.map_nil, List.take_zero, List.contains_nil])
      · (try simp -implicitDefEqProofs only [push_cast, Nat.reduceAdd, Nat.reduceSub, Nat.reduceMul, Nat.reduceLT, Nat.reduceLeDiff, Nat.reduceEqDiff, Nat.reduceBEq, reduceCtorEq, reduceIte, Int.reduceLE, Int.reduceLT, Int.reduceNeg, Int.reduceToNat, hll, encDs_pure, encEs_pure, encIs_pure, encQ, List.map_cons, List.map_nil])
      intro j hj2
      by_cases hj : j < ps.length
      · have hj' : ((j : Int) < (ps.length : Int)) = True := by simp; omega
        have hj0 : (0 ≤ (j : Int)) = True := by simp
        have hsn : (ps.take (j + 1)).contains (a, b) = ((ps.take j).contains (a, b) || (decide (ps[j].1 = a) && decide (ps[j].2 = b))) := has_snoc ps j hj a b
        have hps := encPs_get ps j hj
        rw [encP] at hps
        generalize ps[j].1 = u at hps hsn
        generalize ps[j].2 = v at hps hsn
        simp -implicitDefEqProofs only [push_cast, Nat.reduceAdd, Nat.reduceSub, Nat.reduceMul, Nat.reduceLT, Nat.reduceLeDiff, Nat.reduceEqDiff, Nat.reduceBEq, reduceCtorEq, reduceIte, Int.reduceLE, Int.reduceLT, Int.reduceNeg, Int.reduceToNat, hj', hj0, encQ]
        refine areg_at 11 (by kernel_rfl) (by kernel_rfl) ?_
        cases hz : (ps.take j).contains (a, b)
        · simp -implicitDefEqProofs only [push_cast, Nat.reduceAdd, Nat.reduceSub, Nat.reduceMul, Nat.reduceLT, Nat.reduceLeDiff, Nat.reduceEqDiff, Nat.reduceBEq, reduceCtorEq, reduceIte, Int.reduceLE, Int.reduceLT, Int.reduceNeg, Int.reduceToNat, hj', hj0, hps, encQ, lits, cellsEq, cellEq, cmpPl]
          rw [wrap64 (n := (j : Int) + 1) (by omega) (by omega)]
          refine next_at [some 0, some 1, some 2] (j + 1) (by omega) (by omega) rfl ?_ ?_
          · (try simp -implicitDefEqProofs only [push_cast, Nat.reduceAdd, Nat.reduceSub, Nat.reduceMul, Nat.reduceLT, Nat.reduceLeDiff, Nat.reduceEqDiff, Nat.reduceBEq, reduceCtorEq, reduceIte, Int.reduceLE, Int.reduceLT, Int.reduceNeg, Int.reduceToNat, hsn, hz, Bool.false_or, encDs_pure, encEs_pure, encIs_pure, rowP_pure, encQ])
          · (try simp -implicitDefEqProofs only [push_cast, Nat.reduceAdd, Nat.reduceSub, Nat.reduceMul, Nat.reduceLT, Nat.reduceLeDiff, Nat.reduceEqDiff, Nat.reduceBEq, reduceCtorEq, reduceIte, Int.reduceLE, Int.reduceLT, Int.reduceNeg, Int.reduceToNat, encDs_pure, encEs_pure, encIs_pure, encQ])
        · simp -implicitDefEqProofs only [push_cast, Nat.reduceAdd, Nat.reduceSub, Nat.reduceMul, Nat.reduceLT, Nat.reduceLeDiff, Nat.reduceEqDiff, Nat.reduceBEq, reduceCtorEq, reduceIte, Int.reduceLE, Int.reduceLT, Int.reduceNeg, Int.reduceToNat, hj', hj0, hps, encQ, lits, cellsEq, cellEq, cmpPl]
          rw [wrap64 (n := (j : Int) + 1) (by omega) (by omega)]
          refine next_at [some 0, some 1, some 2] (j + 1) (by omega) (by omega) rfl ?_ ?_
          · (try simp -implicitDefEqProofs only [push_cast, Nat.reduceAdd, Nat.reduceSub, Nat.reduceMul, Nat.reduceLT, Nat.reduceLeDiff, Nat.reduceEqDiff, Nat.reduceBEq, reduceCtorEq, reduceIte, Int.reduceLE, Int.reduceLT, Int.reduceNeg, Int.reduceToNat, hsn, hz, Bool.true_or, encDs_pure, encEs_pure, encIs_pure, rowP_pure, encQ])
          · (try simp -implicitDefEqProofs only [push_cast, Nat.reduceAdd, Nat.reduceSub, Nat.reduceMul, Nat.reduceLT, Nat.reduceLeDiff, Nat.reduceEqDiff, Nat.reduceBEq, reduceCtorEq, reduceIte, Int.reduceLE, Int.reduceLT, Int.reduceNeg, Int.reduceToNat, encDs_pure, encEs_pure, encIs_pure, encQ])
      have hj' : ((j : Int) < (ps.length : Int)) = False := by simp; omega
      rw [List.take_of_length_le (by omega)]
      simp -implicitDefEqProofs only [push_cast, Nat.reduceAdd, Nat.reduceSub, Nat.reduceMul, Nat.reduceLT, Nat.reduceLeDiff, Nat.reduceEqDiff, Nat.reduceBEq, reduceCtorEq, reduceIte, Int.reduceLE, Int.reduceLT, Int.reduceNeg, Int.reduceToNat, hj', encQ]
      cases hz : ps.contains (a, b)
      · simp -implicitDefEqProofs only [push_cast, Nat.reduceAdd, Nat.reduceSub, Nat.reduceMul, Nat.reduceLT, Nat.reduceLeDiff, Nat.reduceEqDiff, Nat.reduceBEq, reduceCtorEq, reduceIte, Int.reduceLE, Int.reduceLT, Int.reduceNeg, Int.reduceToNat, encQ]
        rw [hR0, hfit, hz]; rfl
      simp -implicitDefEqProofs only [push_cast, Nat.reduceAdd, Nat.reduceSub, Nat.reduceMul, Nat.reduceLT, Nat.reduceLeDiff, Nat.reduceEqDiff, Nat.reduceBEq, reduceCtorEq, reduceIte, Int.reduceLE, Int.reduceLT, Int.reduceNeg, Int.reduceToNat, encQ]
      refine areg_at 25 (by kernel_rfl) (by kernel_rfl) ?_
      simp -implicitDefEqProofs only [push_cast, Nat.reduceAdd, Nat.reduceSub, Nat.reduceMul, Nat.reduceLT, Nat.reduceLeDiff, Nat.reduceEqDiff, Nat.reduceBEq, reduceCtorEq, reduceIte, Int.reduceLE, Int.reduceLT, Int.reduceNeg, Int.reduceToNat, encQ, Int.reduceEq, if_false, if_true, or_true, or_false, true_or, false_or, List.map_cons, List.map_nil, List.length_cons, List.length_nil, Int.reduceAdd, hll, hg0, hg1]
      refine gcallq (.int 0) (fun h => by cases h) ?_
      simp -implicitDefEqProofs only [push_cast, Nat.reduceAdd, Nat.reduceSub, Nat.reduceMul, Nat.reduceLT, Nat.reduceLeDiff, Nat.reduceEqDiff, Nat.reduceBEq, reduceCtorEq, reduceIte, Int.reduceLE, Int.reduceLT, Int.reduceNeg, Int.reduceToNat, encQ, Int.reduceEq, if_false, if_true, or_true, or_false, true_or, false_or, List.map_cons, List.map_nil, List.length_cons, List.length_nil, Int.reduceAdd, hll, hg0, hg1]
      refine gcallq (.int 0) (fun h => by cases h) ?_
      simp -implicitDefEqProofs only [push_cast, Nat.reduceAdd, Nat.reduceSub, Nat.reduceMul, Nat.reduceLT, Nat.reduceLeDiff, Nat.reduceEqDiff, Nat.reduceBEq, reduceCtorEq, reduceIte, Int.reduceLE, Int.reduceLT, Int.reduceNeg, Int.reduceToNat, encQ, Int.reduceEq, if_false, if_true, or_true, or_false, true_or, false_or, List.map_cons, List.map_nil, List.length_cons, List.length_nil, Int.reduceAdd, hll, hg0, hg1]
      have hft : fitP c q (.mk 2 occ a b l) = true := by rw [hfit, hz]; rfl
      refine loop_at hs (σ := Nat) (fun i => i ≤ l.length ∧ (partsPl (l.take i)).all (fitP c q) = true) (fun i => l.length - i)
        (fun i => [(11, .int i), (3, .ptr (H.nxt + 0) 1 0 0), (4, .ptr (H.nxt + 1) 6 0 0), (5, .ptr (H.nxt + 2) 5 0 0)]) (fun i => [some (.cells 1 [[.sl (c.map encD)]] 0), some (.cells 6 [encQ q] 0), some (.cells 5 [encPl (.mk 2 occ a b l)] 0)]) [some 0, some 1, some 2] 0 ⟨by omega, by simp [partsPl]⟩ rfl ?_ ?_ ?_
      · (try simp -implicitDefEqProofs only [push_cast, Nat.reduceAdd, Nat.reduceSub, Nat.reduceMul, Nat.reduceLT, Nat.reduceLeDiff, Nat.reduceEqDiff, Nat.reduceBEq, reduceCtorEq, reduceIte, Int.reduceLE, Int.reduceLT, Int.reduceNeg, Int.reduceToNat, hll, encDs_pure, encEs_pure, encIs_pure, encQ, List.map_cons, List.map_nil])
      · (try simp -implicitDefEqProofs only [push_cast, Nat.reduceAdd, Nat.reduceSub, Nat.reduceMul, Nat.reduceLT, Nat.reduceLeDiff, Nat.reduceEqDiff, Nat.reduceBEq, reduceCtorEq, reduceIte, Int.reduceLE, Int.reduceLT, Int.reduceNeg, Int.reduceToNat, hll, encDs_pure, encEs_pure, encIs_pure, encQ, List.map_cons, List.map_nil])
      rintro i ⟨hi2, hai⟩
      clear hll
      by_cases hi : i < l.length
      · have hi' : ((i : Int) < (l.length : Int)) = True := by simp; omega
        have hi0 : (0 ≤ (i : Int)) = True := by simp
        simp -implicitDefEqProofs only [push_cast, Nat.reduceAdd, Nat.reduceSub, Nat.reduceMul, Nat.reduceLT, Nat.reduceLeDiff, Nat.reduceEqDiff, Nat.reduceBEq, reduceCtorEq, reduceIte, Int.reduceLE, Int.reduceLT, Int.reduceNeg, Int.reduceToNat, hi', hi0, encPls_get l i hi, encQ]
        refine areg_at 9 (by kernel_rfl) (by kernel_rfl) ?_
        simp -implicitDefEqProofs only [push_cast, Nat.reduceAdd, Nat.reduceSub, Nat.reduceMul, Nat.reduceLT, Nat.reduceLeDiff, Nat.reduceEqDiff, Nat.reduceBEq, reduceCtorEq, reduceIte, Int.reduceLE, Int.reduceLT, Int.reduceNeg, Int.reduceToNat, hi', hi0, encPls_get l i hi, encQ]
        refine ahdq (ih' l[i] (List.getElem_mem hi)) ?_
        simp -implicitDefEqProofs only [push_cast, Nat.reduceAdd, Nat.reduceSub, Nat.reduceMul, Nat.reduceLT, Nat.reduceLeDiff, Nat.reduceEqDiff, Nat.reduceBEq, reduceCtorEq, reduceIte, Int.reduceLE, Int.reduceLT, Int.reduceNeg, Int.reduceToNat, encQ]
        refine ⟨fun h => ?_, fun h => ?_⟩
        · rw [hR0, hft, partsPl_end hi h, Bool.true_and]
        · rw [wrap64 (n := (i : Int) + 1) (by omega) (by omega)]
          refine next_at [some 0, some 1, some 2] (i + 1) ⟨by omega, by rw [partsPl_snoc l i hi, List.all_append, hai, h]; rfl⟩ (by omega) rfl ?_ ?_
          · (try simp -implicitDefEqProofs only [push_cast, Nat.reduceAdd, Nat.reduceSub, Nat.reduceMul, Nat.reduceLT, Nat.reduceLeDiff, Nat.reduceEqDiff, Nat.reduceBEq, reduceCtorEq, reduceIte, Int.reduceLE, Int.reduceLT, Int.reduceNeg, Int.reduceToNat, encDs_pure, encEs_pure, encIs_pure, encQ])
          · (try simp -implicitDefEqProofs only [push_cast, Nat.reduceAdd, Nat.reduceSub, Nat.reduceMul, Nat.reduceLT, Nat.reduceLeDiff, Nat.reduceEqDiff, Nat.reduceBEq, reduceCtorEq, reduceIte, Int.reduceLE, Int.reduceLT, Int.reduceNeg, Int.reduceToNat, encDs_pure, encEs_pure, encIs_pure, encQ])
      · have hi' : ((i : Int) < (l.length : Int)) = False := by simp; omega
        rw [List.take_of_length_le (by omega)] at hai
        simp -implicitDefEqProofs only [push_cast, Nat.reduceAdd, Nat.reduceSub, Nat.reduceMul, Nat.reduceLT, Nat.reduceLeDiff, Nat.reduceEqDiff, Nat.reduceBEq, reduceCtorEq, reduceIte, Int.reduceLE, Int.reduceLT, Int.reduceNeg, Int.reduceToNat, hi', encQ]
        rw [hR0, hft, hai, Bool.true_and]
    · simp -implicitDefEqProofs only [push_cast, Nat.reduceAdd, Nat.reduceSub, Nat.reduceMul, Nat.reduceLT, Nat.reduceLeDiff, Nat.reduceEqDiff, Nat.reduceBEq, reduceCtorEq, reduceIte, Int.reduceLE, Int.reduceLT, Int.reduceNeg, Int.reduceToNat, encQ, Int.reduceEq, if_false, if_true, or_true, or_false, true_or, false_or, List.map_cons, List.map_nil, List.length_cons, List.length_nil, Int.reduceAdd, hll, hg0, hg1]
      refine areg_at 13 (by kernel_rfl) (by kernel_rfl) ?_
      simp -implicitDefEqProofs only [push_cast, Nat.reduceAdd, Nat.reduceSub, Nat.reduceMul, Nat.reduceLT, Nat.reduceLeDiff, Nat.reduceEqDiff, Nat.reduceBEq, reduceCtorEq, reduceIte, Int.reduceLE, Int.reduceLT, Int.reduceNeg, Int.reduceToNat, encQ, Int.reduceEq, if_false, if_true, or_true, or_false, true_or, false_or, List.map_cons, List.map_nil, List.length_cons, List.length_nil, Int.reduceAdd, hll, hg0, hg1]
      refine ahdq hSx ?_
      simp -implicitDefEqProofs only [push_cast, Nat.reduceAdd, Nat.reduceSub, Nat.reduceMul, Nat.reduceLT, Nat.reduceLeDiff, Nat.reduceEqDiff, Nat.reduceBEq, reduceCtorEq, reduceIte, Int.reduceLE, Int.reduceLT, Int.reduceNeg, Int.reduceToNat, encQ, Int.reduceEq, if_false, if_true, or_true, or_false, true_or, false_or, List.map_cons, List.map_nil, List.length_cons, List.length_nil, Int.reduceAdd, hll, hg0, hg1]
      refine ahdq hSy ?_
      simp -implicitDefEqProofs only [push_cast, Nat.reduceAdd, Nat.reduceSub, Nat.reduceMul, Nat.reduceLT, Nat.reduceLeDiff, Nat.reduceEqDiff, Nat.reduceBEq, reduceCtorEq, reduceIte, Int.reduceLE, Int.reduceLT, Int.reduceNeg, Int.reduceToNat, encQ, Int.reduceEq, if_false, if_true, or_true, or_false, true_or, false_or, List.map_cons, List.map_nil, List.length_cons, List.length_nil, Int.reduceAdd, hll, hg0, hg1]
      refine ahdq (PairsR_ok q hq _ _) ?_
      simp -implicitDefEqProofs only [push_cast, Nat.reduceAdd, Nat.reduceSub, Nat.reduceMul, Nat.reduceLT, Nat.reduceLeDiff, Nat.reduceEqDiff, Nat.reduceBEq, reduceCtorEq, reduceIte, Int.reduceLE, Int.reduceLT, Int.reduceNeg, Int.reduceToNat, encQ, Int.reduceEq, if_false, if_true, or_true, or_false, true_or, false_or, List.map_cons, List.map_nil, List.length_cons, List.length_nil, Int.reduceAdd, hll, hg0, hg1]
      have hple := pairs_le q hq (treeP x).set (treeP y).set
      generalize q.pairs (treeP x).set (treeP y).set = ps at hple hfit ⊢
      refine loop_at hs (σ := Nat) (fun i => i ≤ ps.length) (fun i => ps.length - i)
        (fun i => [(10, .int i), (9, .bool ((ps.take i).contains (a, b))), (8, .sl (ps.map encP)), (3, .ptr (H.nxt + 0) 1 0 0), (4, .ptr (H.nxt + 1) 6 0 0), (5, .ptr (H.nxt + 2) 5 0 0)]) (fun i => [some (.cells 1 [[.sl (c.map encD)]] 0), some (.cells 6 [encQ q] 0), some (.cells 5 [encPl (.mk 3 occ a b l)] 0)]) [some 0, some 1, some 2] 0 (by omega) rfl ?_ ?_ ?_
      · (try simp -implicitDefEqProofs only [push_cast, Nat.reduceAdd, Nat.reduceSub, Nat.reduceMul, Nat.reduceLT, Nat.reduceLeDiff, Nat.reduceEqDiff, Nat.reduceBEq, reduceCtorEq, reduceIte, Int.reduceLE, Int.reduceLT, Int.reduceNeg, Int.reduceToNat, hll, encDs_pure, encEs_pure, encIs_pure, rowP_pure, encQ, List.map_cons, List.map_nil, List.take_zero, List.contains_nil])
      · (try simp -implicitDefEqProofs only [push_cast, Nat.reduceAdd, Nat.reduceSub, Nat.reduceMul, Nat.reduceLT, Nat.reduceLeDiff, Nat.reduceEqDiff, Nat.reduceBEq, reduceCtorEq, reduceIte, Int.reduceLE, Int.reduceLT, Int.reduceNeg, Int.reduceToNat, hll, encDs_pure, encEs_pure, encIs_pure, encQ, List.map_cons, List.map_nil])
      intro j hj2
      by_cases hj : j < ps.length
      · have hj' : ((j : Int) < (ps.length : Int)) = True := by simp; omega
        have hj0 : (0 ≤ (j : Int)) = True := by simp
        have hsn : (ps.take (j + 1)).contains (a, b) = ((ps.take j).contains (a, b) || (decide (ps[j].1 = a) && decide (ps[j].2 = b))) := has_snoc ps j hj a b
        have hps := encPs_get ps j hj
        rw [encP] at hps
        generalize ps[j].1 = u at hps hsn
        generalize ps[j].2 = v at hps hsn
        simp -implicitDefEqProofs only [push_cast, Nat.reduceAdd, Nat.reduceSub, Nat.reduceMul, Nat.reduceLT, Nat.reduceLeDiff, Nat.reduceEqDiff, Nat.reduceBEq, reduceCtorEq, reduceIte, Int.reduceLE, Int.reduceLT, Int.reduceNeg, Int.reduceToNat, hj', hj0, encQ]
        refine areg_at 11 (by kernel_rfl) (by kernel_rfl) ?_
        cases hz : (ps.take j).contains (a, b)
        · simp -implicitDefEqProofs only [push_cast, Nat.reduceAdd, Nat.reduceSub, Nat.reduceMul, Nat.reduceLT, Nat.reduceLeDiff, Nat.reduceEqDiff, Nat.reduceBEq, reduceCtorEq, reduceIte, Int.reduceLE, Int.reduceLT, Int.reduceNeg, Int.reduceToNat, hj', hj0, hps, encQ, lits, cellsEq, cellEq, cmpPl]
          rw [wrap64 (n := (j : Int) + 1) (by omega) (by omega)]
          refine next_at [some 0, some 1, some 2] (j + 1) (by omega) (by omega) rfl ?_ ?_
          · (try simp -implicitDefEqProofs only [push_cast, Nat.reduceAdd, Nat.reduceSub, Nat.reduceMul, Nat.reduceLT, Nat.reduceLeDiff, Nat.reduceEqDiff, Nat.reduceBEq, reduceCtorEq, reduceIte, Int.reduceLE, Int.reduceLT, Int.reduceNeg, Int.reduceToNat, hsn, hz, Bool.false_or, encDs_pure, encEs_pure, encIs_pure, rowP_pure, encQ])
          · (try simp -implicitDefEqProofs only [push_cast, Nat.reduceAdd, Nat.reduceSub, Nat.reduceMul, Nat.reduceLT, Nat.reduceLeDiff, Nat.reduceEqDiff, Nat.reduceBEq, reduceCtorEq, reduceIte, Int.reduceLE, Int.reduceLT, Int.reduceNeg, Int.reduceToNat, encDs_pure, encEs_pure, encIs_pure, encQ])
        · simp -implicitDefEqProofs only [push_cast, Nat.reduceAdd, Nat.reduceSub, Nat.reduceMul, Nat.reduceLT, Nat.reduceLeDiff, Nat.reduceEqDiff, Nat.reduceBEq, reduceCtorEq, reduceIte, Int.reduceLE, Int.reduceLT, Int.reduceNeg, Int.reduceToNat, hj', hj0, hps, encQ, lits, cellsEq, cellEq, cmpPl]
          rw [wrap64 (n := (j : Int) + 1) (by omega) (by omega)]
          refine next_at [some 0, some 1, some 2] (j + 1) (by omega) (by omega) rfl ?_ ?_
          · (try simp -implicitDefEqProofs only [push_cast, Nat.reduceAdd, Nat.reduceSub, Nat.reduceMul, Nat.reduceLT, Nat.reduceLeDiff, Nat.reduceEqDiff, Nat.reduceBEq, reduceCtorEq, reduceIte, Int.reduceLE, Int.reduceLT, Int.reduceNeg, Int.reduceToNat, hsn, hz, Bool.true_or, encDs_pure, encEs_pure, encIs_pure, rowP_pure, encQ])
          · (try simp -implicitDefEqProofs only [push_cast, Nat.reduceAdd, Nat.reduceSub, Nat.reduceMul, Nat.reduceLT, Nat.reduceLeDiff, Nat.reduceEqDiff, Nat.reduceBEq, reduceCtorEq, reduceIte, Int.reduceLE, Int.reduceLT, Int.reduceNeg, Int.reduceToNat, encDs_pure, encEs_pure, encIs_pure, encQ])
      have hj' : ((j : Int) < (ps.length : Int)) = False := by simp; omega
      rw [List.take_of_length_le (by omega)]
      simp -implicitDefEqProofs only [push_cast, Nat.reduceAdd, Nat.reduceSub, Nat.reduceMul, Nat.reduceLT, Nat.reduceLeDiff, Nat.reduceEqDiff, Nat.reduceBEq, reduceCtorEq, reduceIte, Int.reduceLE, Int.reduceLT, Int.reduceNeg, Int.reduceToNat, hj', encQ]
      cases hz : ps.contains (a, b)
      · simp -implicitDefEqProofs only [push_cast, Nat.reduceAdd, Nat.reduceSub, Nat.reduceMul, Nat.reduceLT, Nat.reduceLeDiff, Nat.reduceEqDiff, Nat.reduceBEq, reduceCtorEq, reduceIte, Int.reduceLE, Int.reduceLT, Int.reduceNeg, Int.reduceToNat, encQ]
        rw [hR0, hfit, hz]; rfl
      simp -implicitDefEqProofs only [push_cast, Nat.reduceAdd, Nat.reduceSub, Nat.reduceMul, Nat.reduceLT, Nat.reduceLeDiff, Nat.reduceEqDiff, Nat.reduceBEq, reduceCtorEq, reduceIte, Int.reduceLE, Int.reduceLT, Int.reduceNeg, Int.reduceToNat, encQ]
      refine areg_at 25 (by kernel_rfl) (by kernel_rfl) ?_
      simp -implicitDefEqProofs only [push_cast, Nat.reduceAdd, Nat.reduceSub, Nat.reduceMul, Nat.reduceLT, Nat.reduceLeDiff, Nat.reduceEqDiff, Nat.reduceBEq, reduceCtorEq, reduceIte, Int.reduceLE, Int.reduceLT, Int.reduceNeg, Int.reduceToNat, encQ, Int.reduceEq, if_false, if_true, or_true, or_false, true_or, false_or, List.map_cons, List.map_nil, List.length_cons, List.length_nil, Int.reduceAdd, hll, hg0, hg1]
      refine gcallq (.int x.order) (fun _ => hOx) ?_
      simp -implicitDefEqProofs only [push_cast, Nat.reduceAdd, Nat.reduceSub, Nat.reduceMul, Nat.reduceLT, Nat.reduceLeDiff, Nat.reduceEqDiff, Nat.reduceBEq, reduceCtorEq, reduceIte, Int.reduceLE, Int.reduceLT, Int.reduceNeg, Int.reduceToNat, encQ, Int.reduceEq, if_false, if_true, or_true, or_false, true_or, false_or, List.map_cons, List.map_nil, List.length_cons, List.length_nil, Int.reduceAdd, hll, hg0, hg1]
      refine gcallq (.int y.order) (fun _ => hOy) ?_
      by_cases h1 : x.order = a
      · by_cases h2 : y.order = b
        · have h1' : decide (x.order = a) = true := by simp [h1]
          have h2' : decide (y.order = b) = true := by simp [h2]
          simp -implicitDefEqProofs only [push_cast, Nat.reduceAdd, Nat.reduceSub, Nat.reduceMul, Nat.reduceLT, Nat.reduceLeDiff, Nat.reduceEqDiff, Nat.reduceBEq, reduceCtorEq, reduceIte, Int.reduceLE, Int.reduceLT, Int.reduceNeg, Int.reduceToNat, encQ, Int.reduceEq, if_false, if_true, or_true, or_false, true_or, false_or, List.map_cons, List.map_nil, List.length_cons, List.length_nil, Int.reduceAdd, hll, hg0, hg1, h1', h2']
          have hft : fitP c q (.mk 3 occ a b l) = true := by rw [hfit, hz, h1', h2']; rfl
          refine loop_at hs (σ := Nat) (fun i => i ≤ l.length ∧ (partsPl (l.take i)).all (fitP c q) = true) (fun i => l.length - i)
            (fun i => [(11, .int i), (3, .ptr (H.nxt + 0) 1 0 0), (4, .ptr (H.nxt + 1) 6 0 0), (5, .ptr (H.nxt + 2) 5 0 0)]) (fun i => [some (.cells 1 [[.sl (c.map encD)]] 0), some (.cells 6 [encQ q] 0), some (.cells 5 [encPl (.mk 3 occ a b l)] 0)]) [some 0, some 1, some 2] 0 ⟨by omega, by simp [partsPl]⟩ rfl ?_ ?_ ?_
          · (try simp -implicitDefEqProofs only [push_cast, Nat.reduceAdd, Nat.reduceSub, Nat.reduceMul, Nat.reduceLT, Nat.reduceLeDiff, Nat.reduceEqDiff, Nat.reduceBEq, reduceCtorEq, reduceIte, Int.reduceLE, Int.reduceLT, Int.reduceNeg, Int.reduceToNat, hll, encDs_pure, encEs_pure, encIs_pure, encQ, List.map_cons, List.map_nil])
          · (try simp -implicitDefEqProofs only [push_cast, Nat.reduceAdd, Nat.reduceSub, Nat.reduceMul, Nat.reduceLT, Nat.reduceLeDiff, Nat.reduceEqDiff, Nat.reduceBEq, reduceCtorEq, reduceIte, Int.reduceLE, Int.reduceLT, Int.reduceNeg, Int.reduceToNat, hll, encDs_pure, encEs_pure, encIs_pure, encQ, List.map_cons, List.map_nil])
          rintro i ⟨hi2, hai⟩
          clear hll
          by_cases hi : i < l.length
          · have hi' : ((i : Int) < (l.length : Int)) = True := by simp; omega
            have hi0 : (0 ≤ (i : Int)) = True := by simp
            simp -implicitDefEqProofs only [push_cast, Nat.reduceAdd, Nat.reduceSub, Nat.reduceMul, Nat.reduceLT, Nat.reduceLeDiff, Nat.reduceEqDiff, Nat.reduceBEq, reduceCtorEq, reduceIte, Int.reduceLE, Int.reduceLT, Int.reduceNeg, Int.reduceToNat, hi', hi0, encPls_get l i hi, encQ]
            refine areg_at 9 (by kernel_rfl) (by kernel_rfl) ?_
            simp -implicitDefEqProofs only [push_cast, Nat.reduceAdd, Nat.reduceSub, Nat.reduceMul, Nat.reduceLT, Nat.reduceLeDiff, Nat.reduceEqDiff, Nat.reduceBEq, reduceCtorEq, reduceIte, Int.reduceLE, Int.reduceLT, Int.reduceNeg, Int.reduceToNat, hi', hi0, encPls_get l i hi, encQ]
            refine ahdq (ih' l[i] (List.getElem_mem hi)) ?_
            simp -implicitDefEqProofs only [push_cast, Nat.reduceAdd, Nat.reduceSub, Nat.reduceMul, Nat.reduceLT, Nat.reduceLeDiff, Nat.reduceEqDiff, Nat.reduceBEq, reduceCtorEq, reduceIte, Int.reduceLE, Int.reduceLT, Int.reduceNeg, Int.reduceToNat, encQ]
            refine ⟨fun h => ?_, fun h => ?_⟩
            · rw [hR0, hft, partsPl_end hi h, Bool.true_and]
            · rw [wrap64 (n := (i : Int) + 1) (by omega) (by omega)]
              refine next_at [some 0, some 1, some 2] (i + 1) ⟨by omega, by rw [partsPl_snoc l i hi, List.all_append, hai, h]; rfl⟩ (by omega) rfl ?_ ?_
              · (try simp -implicitDefEqProofs only [push_cast, Nat.reduceAdd, Nat.reduceSub, Nat.reduceMul, Nat.reduceLT, Nat.reduceLeDiff, Nat.reduceEqDiff, Nat.reduceBEq, reduceCtorEq, reduceIte, Int.reduceLE, Int.reduceLT, Int.reduceNeg, Int.reduceToNat, encDs_pure, encEs_pure, encIs_pure, encQ])
              · (try simp -implicitDefEqProofs only [push_cast, Nat.reduceAdd, Nat.reduceSub, Nat.reduceMul, Nat.reduceLT, Nat.reduceLeDiff, Nat.reduceEqDiff, Nat.reduceBEq, reduceCtorEq, reduceIte, Int.reduceLE, Int.reduceLT, Int.reduceNeg, Int.reduceToNat, encDs_pure, encEs_pure, encIs_pure, encQ])
          · have hi' : ((i : Int) < (l.length : Int)) = False := by simp; omega
            rw [List.take_of_length_le (by omega)] at hai
            simp -implicitDefEqProofs only [push_cast, Nat.reduceAdd, Nat.reduceSub, Nat.reduceMul, Nat.reduceLT, Nat.reduceLeDiff, Nat.reduceEqDiff, Nat.reduceBEq, reduceCtorEq, reduceIte, Int.reduceLE, Int.reduceLT, Int.reduceNeg, Int.reduceToNat, hi', encQ]
            rw [hR0, hft, hai, Bool.true_and]
        · have h1' : decide (x.order = a) = true := by simp [h1]
          have h2' : decide (y.order = b) = false := by simp [h2]
          simp -implicitDefEqProofs only [push_cast, Nat.reduceAdd, Nat.reduceSub, Nat.reduceMul, Nat.reduceLT, Nat.reduceLeDiff, Nat.reduceEqDiff, Nat.reduceBEq, reduceCtorEq, reduceIte, Int.reduceLE, Int.reduceLT, Int.reduceNeg, Int.reduceToNat, encQ, Int.reduceEq, if_false, if_true, or_true, or_false, true_or, false_or, List.map_cons, List.map_nil, List.length_cons, List.length_nil, Int.reduceAdd, hll, hg0, hg1, h1', h2']
          rw [hR0, hfit, hz, h1', h2']; rfl
      · have h1' : decide (x.order = a) = false := by simp [h1]
        simp -implicitDefEqProofs only [push_cast, Nat.reduceAdd, Nat.reduceSub, Nat.reduceMul, Nat.reduceLT, Nat.reduceLeDiff, Nat.reduceEqDiff, Nat.reduceBEq, reduceCtorEq, reduceIte, Int.reduceLE, Int.reduceLT, Int.reduceNeg, Int.reduceToNat, encQ, Int.reduceEq, if_false, if_true, or_true, or_false, true_or, false_or, List.map_cons, List.map_nil, List.length_cons, List.length_nil, Int.reduceAdd, hll, hg0, hg1, h1']
        rw [hR0, hfit, hz, h1']; rfl
end
section
set_option linter.unusedSimpArgs false
set_option linter.unusedVariables false
set_option maxRecDepth 100000
attribute [local push_cast] encE_mk encE_take encE_len encV encE_one encEs_pure encE_pure

theorem rowsK_ok (n : Int) : Quiet Go.Proofs.Tryz.prog 70 [.int n] (.int (rowsK n)) := by
  refine quiet_of (rs := #[.tmp 2]) Go.Proofs.Tryz.func70 rfl rfl rfl mixed rfl rfl fun H hs => ?_
  simp -implicitDefEqProofs only [push_cast, Nat.reduceAdd, Nat.reduceSub, Nat.reduceMul, Nat.reduceLT, Nat.reduceLeDiff, Nat.reduceEqDiff, Nat.reduceBEq, reduceCtorEq, reduceIte, Int.reduceLE, Int.reduceLT, Int.reduceNeg, Int.reduceToNat]
  unfold rowsK
  (repeat' split) <;> omega
theorem timesK_ok (a b : Int) (a0 : 0 ≤ a) (a1 : a ≤ 1099511627776) (b0 : 0 ≤ b) (b1 : b ≤ 1099511627776) : Quiet Go.Proofs.Tryz.prog 69 [.int a, .int b] (.int (leastK (a * b))) := by
  refine quiet_of (rs := #[.tmp 4]) Go.Proofs.Tryz.func69 rfl rfl rfl mixed rfl rfl fun H hs => ?_
  simp -implicitDefEqProofs only [push_cast, Nat.reduceAdd, Nat.reduceSub, Nat.reduceMul, Nat.reduceLT, Nat.reduceLeDiff, Nat.reduceEqDiff, Nat.reduceBEq, reduceCtorEq, reduceIte, Int.reduceLE, Int.reduceLT, Int.reduceNeg, Int.reduceToNat]
  refine callq (mul64_ok _ _) ?_
  have e1 : IntKind.wrap .u64 a = a := by rw [IntKind.wrap_u64]; omega
  have e2 : IntKind.wrap .u64 b = b := by rw [IntKind.wrap_u64]; omega
  rw [e1, e2]
  have hmul := mulHi_eq a b (by omega) (by omega) (by omega) (by omega)
  have hM0 : 0 ≤ a * b := Int.mul_nonneg a0 b0
  rw [hmul]
  generalize a * b = M at hM0 ⊢
  simp -implicitDefEqProofs only [push_cast, Nat.reduceAdd, Nat.reduceSub, Nat.reduceMul, Nat.reduceLT, Nat.reduceLeDiff, Nat.reduceEqDiff, Nat.reduceBEq, reduceCtorEq, reduceIte, Int.reduceLE, Int.reduceLT, Int.reduceNeg, Int.reduceToNat]
  rw [IntKind.wrap_u64]
  unfold leastK capK
  refine ⟨fun h => ?_, fun h => ?_⟩
  · simp only [Bool.or_eq_true, decide_eq_true_eq] at h
    omega
  · simp only [Bool.or_eq_false_iff, decide_eq_false_iff_not] at h
    rw [wrap64 (by omega) (by omega)]
    omega
theorem ScanK_ok (n : Int) : Quiet Go.Proofs.Tryz.prog 119 [.int n] (.int (scanK n)) := by
  have h := rowsK_range n
  have ht := timesK_ok 1 (rowsK n) (by omega) (by omega) h.1 h.2
  have e : leastK (1 * rowsK n) = scanK n := by unfold leastK capK scanK; omega
  rw [e] at ht
  refine quiet_of (rs := #[.tmp 2]) Go.Proofs.Tryz.func119 rfl rfl rfl mixed rfl rfl fun H hs => ?_
  simp -implicitDefEqProofs only [push_cast, Nat.reduceAdd, Nat.reduceSub, Nat.reduceMul, Nat.reduceLT, Nat.reduceLeDiff, Nat.reduceEqDiff, Nat.reduceBEq, reduceCtorEq, reduceIte, Int.reduceLE, Int.reduceLT, Int.reduceNeg, Int.reduceToNat]
  refine callq (rowsK_ok n) ?_
  simp -implicitDefEqProofs only [push_cast, Nat.reduceAdd, Nat.reduceSub, Nat.reduceMul, Nat.reduceLT, Nat.reduceLeDiff, Nat.reduceEqDiff, Nat.reduceBEq, reduceCtorEq, reduceIte, Int.reduceLE, Int.reduceLT, Int.reduceNeg, Int.reduceToNat]
  refine callq ht ?_
  simp -implicitDefEqProofs only [push_cast, Nat.reduceAdd, Nat.reduceSub, Nat.reduceMul, Nat.reduceLT, Nat.reduceLeDiff, Nat.reduceEqDiff, Nat.reduceBEq, reduceCtorEq, reduceIte, Int.reduceLE, Int.reduceLT, Int.reduceNeg, Int.reduceToNat]
theorem NestK_ok (a b : Int) : Quiet Go.Proofs.Tryz.prog 23 [.int a, .int b] (.int (nestK a b)) := by
  have ha := rowsK_range a
  have hb := rowsK_range b
  have ht := timesK_ok (rowsK a) (rowsK b) ha.1 ha.2 hb.1 hb.2
  refine quiet_of (rs := #[.tmp 4]) Go.Proofs.Tryz.func23 rfl rfl rfl mixed rfl rfl fun H hs => ?_
  simp -implicitDefEqProofs only [push_cast, Nat.reduceAdd, Nat.reduceSub, Nat.reduceMul, Nat.reduceLT, Nat.reduceLeDiff, Nat.reduceEqDiff, Nat.reduceBEq, reduceCtorEq, reduceIte, Int.reduceLE, Int.reduceLT, Int.reduceNeg, Int.reduceToNat]
  refine callq (rowsK_ok a) ?_
  simp -implicitDefEqProofs only [push_cast, Nat.reduceAdd, Nat.reduceSub, Nat.reduceMul, Nat.reduceLT, Nat.reduceLeDiff, Nat.reduceEqDiff, Nat.reduceBEq, reduceCtorEq, reduceIte, Int.reduceLE, Int.reduceLT, Int.reduceNeg, Int.reduceToNat]
  refine callq (rowsK_ok b) ?_
  simp -implicitDefEqProofs only [push_cast, Nat.reduceAdd, Nat.reduceSub, Nat.reduceMul, Nat.reduceLT, Nat.reduceLeDiff, Nat.reduceEqDiff, Nat.reduceBEq, reduceCtorEq, reduceIte, Int.reduceLE, Int.reduceLT, Int.reduceNeg, Int.reduceToNat]
  refine callq ht ?_
  simp -implicitDefEqProofs only [push_cast, Nat.reduceAdd, Nat.reduceSub, Nat.reduceMul, Nat.reduceLT, Nat.reduceLeDiff, Nat.reduceEqDiff, Nat.reduceBEq, reduceCtorEq, reduceIte, Int.reduceLE, Int.reduceLT, Int.reduceNeg, Int.reduceToNat, nestK]
theorem addTo_snoc (l : List Int) (i : Nat) (h : i < l.length) : addK (l.take (i + 1)) = min (addK (l.take i) + min (max l[i] 0) capK) capK := by
  rw [List.take_succ_eq_append_getElem h, addK_snoc]
theorem AddK_ok (l : List Int) (hl : l.length ≤ 140737488355328) : Quiet Go.Proofs.Tryz.prog 19 [.sl (l.map encI)] (.int (addK l)) := by
  refine quiet_of (rs := #[.tmp 2]) Go.Proofs.Tryz.func19 rfl rfl rfl mixed rfl rfl fun H hs => ?_
  simp -implicitDefEqProofs only [push_cast, Nat.reduceAdd, Nat.reduceSub, Nat.reduceMul, Nat.reduceLT, Nat.reduceLeDiff, Nat.reduceEqDiff, Nat.reduceBEq, reduceCtorEq, reduceIte, Int.reduceLE, Int.reduceLT, Int.reduceNeg, Int.reduceToNat]
  refine loop_at hs (σ := Nat) (fun i => i ≤ l.length) (fun i => l.length - i)
    (fun i => [(8, .int i), (7, .int l.length), (6, .sl (l.map encI)), (3, .int (addK (l.take i)))]) (fun _ => []) [] 0 (by omega) rfl ?_ ?_ ?_
  · (try simp -implicitDefEqProofs only [push_cast, Nat.reduceAdd, Nat.reduceSub, Nat.reduceMul, Nat.reduceLT, Nat.reduceLeDiff, Nat.reduceEqDiff, Nat.reduceBEq, reduceCtorEq, reduceIte, Int.reduceLE, Int.reduceLT, Int.reduceNeg, Int.reduceToNat, encIs_pure, List.take_zero, addK_nil])
  · (try simp -implicitDefEqProofs only [push_cast, Nat.reduceAdd, Nat.reduceSub, Nat.reduceMul, Nat.reduceLT, Nat.reduceLeDiff, Nat.reduceEqDiff, Nat.reduceBEq, reduceCtorEq, reduceIte, Int.reduceLE, Int.reduceLT, Int.reduceNeg, Int.reduceToNat])
  intro i hi2
  by_cases hi : i < l.length
  · have hi' : ((i : Int) < (l.length : Int)) = True := by simp; omega
    have hi0 : (0 ≤ (i : Int)) = True := by simp
    have hsn := addTo_snoc l i hi
    have hr := addK_range (l.take i)
    generalize addK (l.take i) = v at hsn hr ⊢
    generalize hx : l[i] = x at hsn
    unfold capK at hsn hr
    simp -implicitDefEqProofs only [push_cast, Nat.reduceAdd, Nat.reduceSub, Nat.reduceMul, Nat.reduceLT, Nat.reduceLeDiff, Nat.reduceEqDiff, Nat.reduceBEq, reduceCtorEq, reduceIte, Int.reduceLE, Int.reduceLT, Int.reduceNeg, Int.reduceToNat, hi', hi0, encIs_get l i hi, encI, hx]
    have e1 : (if 1125899906842624 < if 0 > x then 0 else x then 1125899906842624 else if 0 > x then 0 else x) = min (max x 0) 1125899906842624 := by (repeat' split) <;> omega
    have hy : 0 ≤ min (max x 0) 1125899906842624 ∧ min (max x 0) 1125899906842624 ≤ 1125899906842624 := by omega
    rw [e1]
    generalize min (max x 0) 1125899906842624 = y at hy hsn ⊢
    rw [wrap64 (n := (i : Int) + 1) (by omega) (by omega), wrap64 (n := v + y) (by omega) (by omega)]
    have hv : addK (l.take (i + 1)) = if 1125899906842624 < v + y then 1125899906842624 else v + y := by rw [hsn]; split <;> omega
    refine next_at [] (i + 1) (by omega) (by omega) rfl ?_ ?_
    · (try simp -implicitDefEqProofs only [push_cast, Nat.reduceAdd, Nat.reduceSub, Nat.reduceMul, Nat.reduceLT, Nat.reduceLeDiff, Nat.reduceEqDiff, Nat.reduceBEq, reduceCtorEq, reduceIte, Int.reduceLE, Int.reduceLT, Int.reduceNeg, Int.reduceToNat, hv, encIs_pure])
    · (try simp -implicitDefEqProofs only [push_cast, Nat.reduceAdd, Nat.reduceSub, Nat.reduceMul, Nat.reduceLT, Nat.reduceLeDiff, Nat.reduceEqDiff, Nat.reduceBEq, reduceCtorEq, reduceIte, Int.reduceLE, Int.reduceLT, Int.reduceNeg, Int.reduceToNat])
  · have hi' : ((i : Int) < (l.length : Int)) = False := by simp; omega
    simp -implicitDefEqProofs only [push_cast, Nat.reduceAdd, Nat.reduceSub, Nat.reduceMul, Nat.reduceLT, Nat.reduceLeDiff, Nat.reduceEqDiff, Nat.reduceBEq, reduceCtorEq, reduceIte, Int.reduceLE, Int.reduceLT, Int.reduceNeg, Int.reduceToNat, hi']
    rw [List.take_of_length_le (by omega)]
theorem addK_two (a b : Int) (a0 : 0 ≤ a) (a1 : a ≤ capK) (b0 : 0 ≤ b) (b1 : b ≤ capK) : addK [a, b] = leastK (a + b) := by
  have e : addK [a, b] = min (min (0 + min (max a 0) capK) capK + min (max b 0) capK) capK := rfl
  rw [e]
  unfold leastK capK at *
  omega
theorem HashK_ok (a b : Int) : Quiet Go.Proofs.Tryz.prog 55 [.int a, .int b] (.int (hashK a b)) := by
  have ha := rowsK_range a
  have hb := rowsK_range b
  have h1 := timesK_ok 1 (rowsK a) (by omega) (by omega) ha.1 ha.2
  have h2 := timesK_ok 2 (rowsK b) (by omega) (by omega) hb.1 hb.2
  have e1 : leastK (1 * rowsK a) = rowsK a := by unfold leastK capK; omega
  have e2 : leastK (2 * rowsK b) = 2 * rowsK b := by unfold leastK capK; omega
  rw [e1] at h1
  rw [e2] at h2
  have h3 := AddK_ok [rowsK a, 2 * rowsK b] (by simp)
  rw [addK_two _ _ (by omega) (by unfold capK; omega) (by omega) (by unfold capK; omega)] at h3
  refine quiet_of (rs := #[.tmp 4]) Go.Proofs.Tryz.func55 rfl rfl rfl mixed rfl rfl fun H hs => ?_
  simp -implicitDefEqProofs only [push_cast, Nat.reduceAdd, Nat.reduceSub, Nat.reduceMul, Nat.reduceLT, Nat.reduceLeDiff, Nat.reduceEqDiff, Nat.reduceBEq, reduceCtorEq, reduceIte, Int.reduceLE, Int.reduceLT, Int.reduceNeg, Int.reduceToNat]
  refine callq (rowsK_ok a) ?_
  simp -implicitDefEqProofs only [push_cast, Nat.reduceAdd, Nat.reduceSub, Nat.reduceMul, Nat.reduceLT, Nat.reduceLeDiff, Nat.reduceEqDiff, Nat.reduceBEq, reduceCtorEq, reduceIte, Int.reduceLE, Int.reduceLT, Int.reduceNeg, Int.reduceToNat]
  refine callq h1 ?_
  simp -implicitDefEqProofs only [push_cast, Nat.reduceAdd, Nat.reduceSub, Nat.reduceMul, Nat.reduceLT, Nat.reduceLeDiff, Nat.reduceEqDiff, Nat.reduceBEq, reduceCtorEq, reduceIte, Int.reduceLE, Int.reduceLT, Int.reduceNeg, Int.reduceToNat]
  refine callq (rowsK_ok b) ?_
  simp -implicitDefEqProofs only [push_cast, Nat.reduceAdd, Nat.reduceSub, Nat.reduceMul, Nat.reduceLT, Nat.reduceLeDiff, Nat.reduceEqDiff, Nat.reduceBEq, reduceCtorEq, reduceIte, Int.reduceLE, Int.reduceLT, Int.reduceNeg, Int.reduceToNat]
  refine callq h2 ?_
  simp -implicitDefEqProofs only [push_cast, Nat.reduceAdd, Nat.reduceSub, Nat.reduceMul, Nat.reduceLT, Nat.reduceLeDiff, Nat.reduceEqDiff, Nat.reduceBEq, reduceCtorEq, reduceIte, Int.reduceLE, Int.reduceLT, Int.reduceNeg, Int.reduceToNat]
  refine fzk H 0 2 [.sl ([rowsK a, 2 * rowsK b].map encI)] (by rfl) (by omega) (by simp) ?_ ?_
  · (try simp -implicitDefEqProofs only [push_cast, Nat.reduceAdd, Nat.reduceSub, Nat.reduceMul, Nat.reduceLT, Nat.reduceLeDiff, Nat.reduceEqDiff, Nat.reduceBEq, reduceCtorEq, reduceIte, Int.reduceLE, Int.reduceLT, Int.reduceNeg, Int.reduceToNat, encI, List.map_cons, List.map_nil])
  refine callq h3 ?_
  simp -implicitDefEqProofs only [push_cast, Nat.reduceAdd, Nat.reduceSub, Nat.reduceMul, Nat.reduceLT, Nat.reduceLeDiff, Nat.reduceEqDiff, Nat.reduceBEq, reduceCtorEq, reduceIte, Int.reduceLE, Int.reduceLT, Int.reduceNeg, Int.reduceToNat, hashK]
theorem MergeK_ok (a b : Int) : Quiet Go.Proofs.Tryz.prog 165 [.int a, .int b] (.int (mergeK a b)) := by
  have ha := rowsK_range a
  have hb := rowsK_range b
  have h3 := AddK_ok [scanK a, scanK b] (by simp)
  rw [addK_two _ _ (by unfold scanK; omega) (by unfold scanK capK; omega) (by unfold scanK; omega) (by unfold scanK capK; omega)] at h3
  refine quiet_of (rs := #[.tmp 4]) Go.Proofs.Tryz.func165 rfl rfl rfl mixed rfl rfl fun H hs => ?_
  simp -implicitDefEqProofs only [push_cast, Nat.reduceAdd, Nat.reduceSub, Nat.reduceMul, Nat.reduceLT, Nat.reduceLeDiff, Nat.reduceEqDiff, Nat.reduceBEq, reduceCtorEq, reduceIte, Int.reduceLE, Int.reduceLT, Int.reduceNeg, Int.reduceToNat]
  refine callq (ScanK_ok a) ?_
  simp -implicitDefEqProofs only [push_cast, Nat.reduceAdd, Nat.reduceSub, Nat.reduceMul, Nat.reduceLT, Nat.reduceLeDiff, Nat.reduceEqDiff, Nat.reduceBEq, reduceCtorEq, reduceIte, Int.reduceLE, Int.reduceLT, Int.reduceNeg, Int.reduceToNat]
  refine callq (ScanK_ok b) ?_
  simp -implicitDefEqProofs only [push_cast, Nat.reduceAdd, Nat.reduceSub, Nat.reduceMul, Nat.reduceLT, Nat.reduceLeDiff, Nat.reduceEqDiff, Nat.reduceBEq, reduceCtorEq, reduceIte, Int.reduceLE, Int.reduceLT, Int.reduceNeg, Int.reduceToNat]
  refine fzk H 0 2 [.sl ([scanK a, scanK b].map encI)] (by rfl) (by omega) (by simp) ?_ ?_
  · (try simp -implicitDefEqProofs only [push_cast, Nat.reduceAdd, Nat.reduceSub, Nat.reduceMul, Nat.reduceLT, Nat.reduceLeDiff, Nat.reduceEqDiff, Nat.reduceBEq, reduceCtorEq, reduceIte, Int.reduceLE, Int.reduceLT, Int.reduceNeg, Int.reduceToNat, encI, List.map_cons, List.map_nil])
  refine callq h3 ?_
  simp -implicitDefEqProofs only [push_cast, Nat.reduceAdd, Nat.reduceSub, Nat.reduceMul, Nat.reduceLT, Nat.reduceLeDiff, Nat.reduceEqDiff, Nat.reduceBEq, reduceCtorEq, reduceIte, Int.reduceLE, Int.reduceLT, Int.reduceNeg, Int.reduceToNat, mergeK, scanK]
theorem GroupK_ok (n : Int) (hash : Bool) : Quiet Go.Proofs.Tryz.prog 77 [.int n, .bool hash] (.int (groupK n hash)) := by
  have hn := rowsK_range n
  have h2 := timesK_ok 2 (rowsK n) (by omega) (by omega) hn.1 hn.2
  refine quiet_of (rs := #[.tmp 4]) Go.Proofs.Tryz.func77 rfl rfl rfl mixed rfl rfl fun H hs => ?_
  cases hash
  · simp -implicitDefEqProofs only [push_cast, Nat.reduceAdd, Nat.reduceSub, Nat.reduceMul, Nat.reduceLT, Nat.reduceLeDiff, Nat.reduceEqDiff, Nat.reduceBEq, reduceCtorEq, reduceIte, Int.reduceLE, Int.reduceLT, Int.reduceNeg, Int.reduceToNat]
    refine callq (ScanK_ok n) ?_
    simp -implicitDefEqProofs only [push_cast, Nat.reduceAdd, Nat.reduceSub, Nat.reduceMul, Nat.reduceLT, Nat.reduceLeDiff, Nat.reduceEqDiff, Nat.reduceBEq, reduceCtorEq, reduceIte, Int.reduceLE, Int.reduceLT, Int.reduceNeg, Int.reduceToNat, groupK, scanK, Bool.false_eq_true, if_false]
  · simp -implicitDefEqProofs only [push_cast, Nat.reduceAdd, Nat.reduceSub, Nat.reduceMul, Nat.reduceLT, Nat.reduceLeDiff, Nat.reduceEqDiff, Nat.reduceBEq, reduceCtorEq, reduceIte, Int.reduceLE, Int.reduceLT, Int.reduceNeg, Int.reduceToNat]
    refine callq (rowsK_ok n) ?_
    simp -implicitDefEqProofs only [push_cast, Nat.reduceAdd, Nat.reduceSub, Nat.reduceMul, Nat.reduceLT, Nat.reduceLeDiff, Nat.reduceEqDiff, Nat.reduceBEq, reduceCtorEq, reduceIte, Int.reduceLE, Int.reduceLT, Int.reduceNeg, Int.reduceToNat]
    refine callq h2 ?_
    simp -implicitDefEqProofs only [push_cast, Nat.reduceAdd, Nat.reduceSub, Nat.reduceMul, Nat.reduceLT, Nat.reduceLeDiff, Nat.reduceEqDiff, Nat.reduceBEq, reduceCtorEq, reduceIte, Int.reduceLE, Int.reduceLT, Int.reduceNeg, Int.reduceToNat, groupK, if_true]
theorem prices_ok (op : Int) : Quiet Go.Proofs.Tryz.prog 121 [.int op] (.agg [if op = 1 then .clo (.func 23) [] [] else if op = 2 then .clo (.func 55) [] [] else if op = 3 then .clo (.func 165) [] [] else .lit .nilFunc]) := by
  have hf : ∀ (n : Int) (ks : List Value), (∀ v ∈ ks, ∃ m, v = .int .i64 m) → FindAt Go.Proofs.Tryz.prog 3 (.int .i64 n) ks := fun n ks h => findAt_int Go.Proofs.Tryz.underlying3 n h
  have f0 := hf 1 [] (by simp)
  have f1 := hf 2 [.int .i64 1] (by simp)
  have f2 := hf 3 [.int .i64 1, .int .i64 2] (by simp)
  have f3 := hf op [.int .i64 1, .int .i64 2, .int .i64 3] (by simp)
  refine quiet_of (rs := #[.cell 2 128]) Go.Proofs.Tryz.func121 rfl rfl rfl mixed rfl rfl fun H hs => ?_
  by_cases h1 : op = 1
  · subst h1
    simp -implicitDefEqProofs only [push_cast, Nat.reduceAdd, Nat.reduceSub, Nat.reduceMul, Nat.reduceLT, Nat.reduceLeDiff, Nat.reduceEqDiff, Nat.reduceBEq, reduceCtorEq, reduceIte, Int.reduceLE, Int.reduceLT, Int.reduceNeg, Int.reduceToNat, Int.reduceEq, if_false, if_true, List.map_cons, List.map_nil, f0, f1, f2, f3]
  · have c1 : (op = 1) = False := by simp [h1]
    by_cases h2 : op = 2
    · subst h2
      simp -implicitDefEqProofs only [push_cast, Nat.reduceAdd, Nat.reduceSub, Nat.reduceMul, Nat.reduceLT, Nat.reduceLeDiff, Nat.reduceEqDiff, Nat.reduceBEq, reduceCtorEq, reduceIte, Int.reduceLE, Int.reduceLT, Int.reduceNeg, Int.reduceToNat, Int.reduceEq, if_false, if_true, List.map_cons, List.map_nil, f0, f1, f2, f3]
    · have c2 : (op = 2) = False := by simp [h2]
      by_cases h3 : op = 3
      · subst h3
        simp -implicitDefEqProofs only [push_cast, Nat.reduceAdd, Nat.reduceSub, Nat.reduceMul, Nat.reduceLT, Nat.reduceLeDiff, Nat.reduceEqDiff, Nat.reduceBEq, reduceCtorEq, reduceIte, Int.reduceLE, Int.reduceLT, Int.reduceNeg, Int.reduceToNat, Int.reduceEq, if_false, if_true, List.map_cons, List.map_nil, f0, f1, f2, f3]
      · have c3 : (op = 3) = False := by simp [h3]
        simp -implicitDefEqProofs only [push_cast, Nat.reduceAdd, Nat.reduceSub, Nat.reduceMul, Nat.reduceLT, Nat.reduceLeDiff, Nat.reduceEqDiff, Nat.reduceBEq, reduceCtorEq, reduceIte, Int.reduceLE, Int.reduceLT, Int.reduceNeg, Int.reduceToNat, c1, c2, c3, Int.reduceEq, if_false, if_true, List.map_cons, List.map_nil, f0, f1, f2, f3]
end
section
set_option linter.unusedSimpArgs false
set_option linter.unusedVariables false
set_option maxRecDepth 100000
attribute [local push_cast] encE_mk encE_take encE_len encV encE_one encEs_pure encE_pure

theorem rows10_ok (n : Int) : Quiet Go.Proofs.Tryz.prog 137 [.int n] (.int (rowsK n)) := by
  refine quiet_of (rs := #[.tmp 2]) Go.Proofs.Tryz.func137 rfl rfl rfl mixed rfl rfl fun H hs => ?_
  simp -implicitDefEqProofs only [push_cast, Nat.reduceAdd, Nat.reduceSub, Nat.reduceMul, Nat.reduceLT, Nat.reduceLeDiff, Nat.reduceEqDiff, Nat.reduceBEq, reduceCtorEq, reduceIte, Int.reduceLE, Int.reduceLT, Int.reduceNeg, Int.reduceToNat]
  unfold rowsK
  refine ⟨fun h => by omega, fun h => ⟨fun h => by omega, fun h => by omega⟩⟩
theorem least10_ok (n : Int) : Quiet Go.Proofs.Tryz.prog 136 [.int n] (.int (leastK n)) := by
  refine quiet_of (rs := #[.tmp 2]) Go.Proofs.Tryz.func136 rfl rfl rfl mixed rfl rfl fun H hs => ?_
  simp -implicitDefEqProofs only [push_cast, Nat.reduceAdd, Nat.reduceSub, Nat.reduceMul, Nat.reduceLT, Nat.reduceLeDiff, Nat.reduceEqDiff, Nat.reduceBEq, reduceCtorEq, reduceIte, Int.reduceLE, Int.reduceLT, Int.reduceNeg, Int.reduceToNat]
  unfold leastK capK
  exact ⟨fun h => by omega, fun h => by omega⟩
theorem Scan10_ok (n : Int) : Quiet Go.Proofs.Tryz.prog 134 [.int n] (.int (scanK n)) := by
  refine quiet_of (rs := #[.tmp 2]) Go.Proofs.Tryz.func134 rfl rfl rfl mixed rfl rfl fun H hs => ?_
  simp -implicitDefEqProofs only [push_cast, Nat.reduceAdd, Nat.reduceSub, Nat.reduceMul, Nat.reduceLT, Nat.reduceLeDiff, Nat.reduceEqDiff, Nat.reduceBEq, reduceCtorEq, reduceIte, Int.reduceLE, Int.reduceLT, Int.reduceNeg, Int.reduceToNat]
  refine callq (rows10_ok n) ?_
  simp -implicitDefEqProofs only [push_cast, Nat.reduceAdd, Nat.reduceSub, Nat.reduceMul, Nat.reduceLT, Nat.reduceLeDiff, Nat.reduceEqDiff, Nat.reduceBEq, reduceCtorEq, reduceIte, Int.reduceLE, Int.reduceLT, Int.reduceNeg, Int.reduceToNat, scanK]
theorem Hash10_ok (a b : Int) : Quiet Go.Proofs.Tryz.prog 103 [.int a, .int b] (.int (hashK a b)) := by
  have ha := rowsK_range a
  have hb := rowsK_range b
  refine quiet_of (rs := #[.tmp 4]) Go.Proofs.Tryz.func103 rfl rfl rfl mixed rfl rfl fun H hs => ?_
  simp -implicitDefEqProofs only [push_cast, Nat.reduceAdd, Nat.reduceSub, Nat.reduceMul, Nat.reduceLT, Nat.reduceLeDiff, Nat.reduceEqDiff, Nat.reduceBEq, reduceCtorEq, reduceIte, Int.reduceLE, Int.reduceLT, Int.reduceNeg, Int.reduceToNat]
  refine callq (rows10_ok a) ?_
  simp -implicitDefEqProofs only [push_cast, Nat.reduceAdd, Nat.reduceSub, Nat.reduceMul, Nat.reduceLT, Nat.reduceLeDiff, Nat.reduceEqDiff, Nat.reduceBEq, reduceCtorEq, reduceIte, Int.reduceLE, Int.reduceLT, Int.reduceNeg, Int.reduceToNat]
  refine callq (rows10_ok b) ?_
  simp -implicitDefEqProofs only [push_cast, Nat.reduceAdd, Nat.reduceSub, Nat.reduceMul, Nat.reduceLT, Nat.reduceLeDiff, Nat.reduceEqDiff, Nat.reduceBEq, reduceCtorEq, reduceIte, Int.reduceLE, Int.reduceLT, Int.reduceNeg, Int.reduceToNat]
  rw [wrap64 (n := 2 * rowsK b) (by omega) (by omega), wrap64 (n := rowsK a + 2 * rowsK b) (by omega) (by omega)]
  refine callq (least10_ok _) ?_
  simp -implicitDefEqProofs only [push_cast, Nat.reduceAdd, Nat.reduceSub, Nat.reduceMul, Nat.reduceLT, Nat.reduceLeDiff, Nat.reduceEqDiff, Nat.reduceBEq, reduceCtorEq, reduceIte, Int.reduceLE, Int.reduceLT, Int.reduceNeg, Int.reduceToNat, hashK]
theorem Merge10_ok (a b : Int) : Quiet Go.Proofs.Tryz.prog 104 [.int a, .int b] (.int (mergeK a b)) := by
  have ha := rowsK_range a
  have hb := rowsK_range b
  refine quiet_of (rs := #[.tmp 4]) Go.Proofs.Tryz.func104 rfl rfl rfl mixed rfl rfl fun H hs => ?_
  simp -implicitDefEqProofs only [push_cast, Nat.reduceAdd, Nat.reduceSub, Nat.reduceMul, Nat.reduceLT, Nat.reduceLeDiff, Nat.reduceEqDiff, Nat.reduceBEq, reduceCtorEq, reduceIte, Int.reduceLE, Int.reduceLT, Int.reduceNeg, Int.reduceToNat]
  refine callq (rows10_ok a) ?_
  simp -implicitDefEqProofs only [push_cast, Nat.reduceAdd, Nat.reduceSub, Nat.reduceMul, Nat.reduceLT, Nat.reduceLeDiff, Nat.reduceEqDiff, Nat.reduceBEq, reduceCtorEq, reduceIte, Int.reduceLE, Int.reduceLT, Int.reduceNeg, Int.reduceToNat]
  refine callq (rows10_ok b) ?_
  simp -implicitDefEqProofs only [push_cast, Nat.reduceAdd, Nat.reduceSub, Nat.reduceMul, Nat.reduceLT, Nat.reduceLeDiff, Nat.reduceEqDiff, Nat.reduceBEq, reduceCtorEq, reduceIte, Int.reduceLE, Int.reduceLT, Int.reduceNeg, Int.reduceToNat]
  rw [wrap64 (n := rowsK a + rowsK b) (by omega) (by omega)]
  refine callq (least10_ok _) ?_
  simp -implicitDefEqProofs only [push_cast, Nat.reduceAdd, Nat.reduceSub, Nat.reduceMul, Nat.reduceLT, Nat.reduceLeDiff, Nat.reduceEqDiff, Nat.reduceBEq, reduceCtorEq, reduceIte, Int.reduceLE, Int.reduceLT, Int.reduceNeg, Int.reduceToNat, mergeK]
theorem Group10_ok (n : Int) (hash : Bool) : Quiet Go.Proofs.Tryz.prog 89 [.int n, .bool hash] (.int (groupK n hash)) := by
  have hn := rowsK_range n
  refine quiet_of (rs := #[.tmp 4]) Go.Proofs.Tryz.func89 rfl rfl rfl mixed rfl rfl fun H hs => ?_
  cases hash
  · simp -implicitDefEqProofs only [push_cast, Nat.reduceAdd, Nat.reduceSub, Nat.reduceMul, Nat.reduceLT, Nat.reduceLeDiff, Nat.reduceEqDiff, Nat.reduceBEq, reduceCtorEq, reduceIte, Int.reduceLE, Int.reduceLT, Int.reduceNeg, Int.reduceToNat]
    refine callq (rows10_ok n) ?_
    simp -implicitDefEqProofs only [push_cast, Nat.reduceAdd, Nat.reduceSub, Nat.reduceMul, Nat.reduceLT, Nat.reduceLeDiff, Nat.reduceEqDiff, Nat.reduceBEq, reduceCtorEq, reduceIte, Int.reduceLE, Int.reduceLT, Int.reduceNeg, Int.reduceToNat, groupK, Bool.false_eq_true, if_false]
  · simp -implicitDefEqProofs only [push_cast, Nat.reduceAdd, Nat.reduceSub, Nat.reduceMul, Nat.reduceLT, Nat.reduceLeDiff, Nat.reduceEqDiff, Nat.reduceBEq, reduceCtorEq, reduceIte, Int.reduceLE, Int.reduceLT, Int.reduceNeg, Int.reduceToNat]
    refine callq (rows10_ok n) ?_
    simp -implicitDefEqProofs only [push_cast, Nat.reduceAdd, Nat.reduceSub, Nat.reduceMul, Nat.reduceLT, Nat.reduceLeDiff, Nat.reduceEqDiff, Nat.reduceBEq, reduceCtorEq, reduceIte, Int.reduceLE, Int.reduceLT, Int.reduceNeg, Int.reduceToNat]
    rw [wrap64 (n := 2 * rowsK n) (by omega) (by omega)]
    refine callq (least10_ok _) ?_
    simp -implicitDefEqProofs only [push_cast, Nat.reduceAdd, Nat.reduceSub, Nat.reduceMul, Nat.reduceLT, Nat.reduceLeDiff, Nat.reduceEqDiff, Nat.reduceBEq, reduceCtorEq, reduceIte, Int.reduceLE, Int.reduceLT, Int.reduceNeg, Int.reduceToNat, groupK, if_true]
theorem Add10_ok (l : List Int) (hl : l.length ≤ 140737488355328) : Quiet Go.Proofs.Tryz.prog 93 [.sl (l.map encI)] (.int (addK l)) := by
  refine quiet_of (rs := #[.tmp 2]) Go.Proofs.Tryz.func93 rfl rfl rfl mixed rfl rfl fun H hs => ?_
  simp -implicitDefEqProofs only [push_cast, Nat.reduceAdd, Nat.reduceSub, Nat.reduceMul, Nat.reduceLT, Nat.reduceLeDiff, Nat.reduceEqDiff, Nat.reduceBEq, reduceCtorEq, reduceIte, Int.reduceLE, Int.reduceLT, Int.reduceNeg, Int.reduceToNat]
  refine loop_at hs (σ := Nat) (fun i => i ≤ l.length) (fun i => l.length - i)
    (fun i => [(4, .int i), (0, .sl (l.map encI)), (3, .int (addK (l.take i)))]) (fun _ => []) [] 0 (by omega) rfl ?_ ?_ ?_
  · (try simp -implicitDefEqProofs only [push_cast, Nat.reduceAdd, Nat.reduceSub, Nat.reduceMul, Nat.reduceLT, Nat.reduceLeDiff, Nat.reduceEqDiff, Nat.reduceBEq, reduceCtorEq, reduceIte, Int.reduceLE, Int.reduceLT, Int.reduceNeg, Int.reduceToNat, encIs_pure, List.take_zero, addK_nil])
  · (try simp -implicitDefEqProofs only [push_cast, Nat.reduceAdd, Nat.reduceSub, Nat.reduceMul, Nat.reduceLT, Nat.reduceLeDiff, Nat.reduceEqDiff, Nat.reduceBEq, reduceCtorEq, reduceIte, Int.reduceLE, Int.reduceLT, Int.reduceNeg, Int.reduceToNat])
  intro i hi2
  by_cases hi : i < l.length
  · have hi' : ((i : Int) < (l.length : Int)) = True := by simp; omega
    have hi0 : (0 ≤ (i : Int)) = True := by simp
    have hsn := addTo_snoc l i hi
    have hr := addK_range (l.take i)
    generalize addK (l.take i) = v at hsn hr ⊢
    generalize hx : l[i] = x at hsn
    by_cases hp : 0 < x
    · have hp' : (0 < x) = True := by simp [hp]
      simp -implicitDefEqProofs only [push_cast, Nat.reduceAdd, Nat.reduceSub, Nat.reduceMul, Nat.reduceLT, Nat.reduceLeDiff, Nat.reduceEqDiff, Nat.reduceBEq, reduceCtorEq, reduceIte, Int.reduceLE, Int.reduceLT, Int.reduceNeg, Int.reduceToNat, hi', hi0, encIs_get l i hi, encI, hx, hp']
      refine callq (least10_ok _) ?_
      simp -implicitDefEqProofs only [push_cast, Nat.reduceAdd, Nat.reduceSub, Nat.reduceMul, Nat.reduceLT, Nat.reduceLeDiff, Nat.reduceEqDiff, Nat.reduceBEq, reduceCtorEq, reduceIte, Int.reduceLE, Int.reduceLT, Int.reduceNeg, Int.reduceToNat]
      have hb : leastK x = min (max x 0) capK := by unfold leastK capK; omega
      have hb2 : 0 ≤ leastK x ∧ leastK x ≤ capK := by unfold leastK capK; omega
      rw [wrap64 (n := v + leastK x) (by unfold capK at *; omega) (by unfold capK at *; omega)]
      refine callq (least10_ok _) ?_
      simp -implicitDefEqProofs only [push_cast, Nat.reduceAdd, Nat.reduceSub, Nat.reduceMul, Nat.reduceLT, Nat.reduceLeDiff, Nat.reduceEqDiff, Nat.reduceBEq, reduceCtorEq, reduceIte, Int.reduceLE, Int.reduceLT, Int.reduceNeg, Int.reduceToNat]
      rw [wrap64 (n := (i : Int) + 1) (by omega) (by omega)]
      have hv : addK (l.take (i + 1)) = leastK (v + leastK x) := by rw [hsn, hb]; rfl
      refine next_at [] (i + 1) (by omega) (by omega) rfl ?_ ?_
      · (try simp -implicitDefEqProofs only [push_cast, Nat.reduceAdd, Nat.reduceSub, Nat.reduceMul, Nat.reduceLT, Nat.reduceLeDiff, Nat.reduceEqDiff, Nat.reduceBEq, reduceCtorEq, reduceIte, Int.reduceLE, Int.reduceLT, Int.reduceNeg, Int.reduceToNat, hv, encIs_pure])
      · (try simp -implicitDefEqProofs only [push_cast, Nat.reduceAdd, Nat.reduceSub, Nat.reduceMul, Nat.reduceLT, Nat.reduceLeDiff, Nat.reduceEqDiff, Nat.reduceBEq, reduceCtorEq, reduceIte, Int.reduceLE, Int.reduceLT, Int.reduceNeg, Int.reduceToNat])
    · have hp' : (0 < x) = False := by simp; omega
      simp -implicitDefEqProofs only [push_cast, Nat.reduceAdd, Nat.reduceSub, Nat.reduceMul, Nat.reduceLT, Nat.reduceLeDiff, Nat.reduceEqDiff, Nat.reduceBEq, reduceCtorEq, reduceIte, Int.reduceLE, Int.reduceLT, Int.reduceNeg, Int.reduceToNat, hi', hi0, encIs_get l i hi, encI, hx, hp']
      rw [wrap64 (n := (i : Int) + 1) (by omega) (by omega)]
      have hv : addK (l.take (i + 1)) = v := by rw [hsn]; unfold capK at *; omega
      refine next_at [] (i + 1) (by omega) (by omega) rfl ?_ ?_
      · (try simp -implicitDefEqProofs only [push_cast, Nat.reduceAdd, Nat.reduceSub, Nat.reduceMul, Nat.reduceLT, Nat.reduceLeDiff, Nat.reduceEqDiff, Nat.reduceBEq, reduceCtorEq, reduceIte, Int.reduceLE, Int.reduceLT, Int.reduceNeg, Int.reduceToNat, hv, encIs_pure])
      · (try simp -implicitDefEqProofs only [push_cast, Nat.reduceAdd, Nat.reduceSub, Nat.reduceMul, Nat.reduceLT, Nat.reduceLeDiff, Nat.reduceEqDiff, Nat.reduceBEq, reduceCtorEq, reduceIte, Int.reduceLE, Int.reduceLT, Int.reduceNeg, Int.reduceToNat])
  · have hi' : ((i : Int) < (l.length : Int)) = False := by simp; omega
    simp -implicitDefEqProofs only [push_cast, Nat.reduceAdd, Nat.reduceSub, Nat.reduceMul, Nat.reduceLT, Nat.reduceLeDiff, Nat.reduceEqDiff, Nat.reduceBEq, reduceCtorEq, reduceIte, Int.reduceLE, Int.reduceLT, Int.reduceNeg, Int.reduceToNat, hi']
    rw [List.take_of_length_le (by omega)]
theorem nest_div {x y : Int} (hx : 0 < x) (hy : 0 ≤ y) : (1125899906842624 / x < y ↔ 1125899906842624 < x * y) := by
  constructor
  · intro h
    have h1 : 1125899906842624 / x + 1 ≤ y := by omega
    have h2 := Int.mul_le_mul_of_nonneg_left h1 (Int.le_of_lt hx)
    have h3 := Int.lt_mul_ediv_self_add (x := 1125899906842624) hx
    rw [Int.mul_add] at h2
    omega
  · intro h
    rw [Int.ediv_lt_iff_lt_mul hx, Int.mul_comm]
    exact h
theorem Nest10_ok (a b : Int) : Quiet Go.Proofs.Tryz.prog 102 [.int a, .int b] (.int (nestK a b)) := by
  have ha := rowsK_range a
  have hb := rowsK_range b
  refine quiet_of (rs := #[.tmp 4]) Go.Proofs.Tryz.func102 rfl rfl rfl mixed rfl rfl fun H hs => ?_
  simp -implicitDefEqProofs only [push_cast, Nat.reduceAdd, Nat.reduceSub, Nat.reduceMul, Nat.reduceLT, Nat.reduceLeDiff, Nat.reduceEqDiff, Nat.reduceBEq, reduceCtorEq, reduceIte, Int.reduceLE, Int.reduceLT, Int.reduceNeg, Int.reduceToNat]
  refine callq (rows10_ok a) ?_
  simp -implicitDefEqProofs only [push_cast, Nat.reduceAdd, Nat.reduceSub, Nat.reduceMul, Nat.reduceLT, Nat.reduceLeDiff, Nat.reduceEqDiff, Nat.reduceBEq, reduceCtorEq, reduceIte, Int.reduceLE, Int.reduceLT, Int.reduceNeg, Int.reduceToNat]
  refine callq (rows10_ok b) ?_
  unfold nestK leastK
  generalize rowsK a = x at *
  generalize rowsK b = y at *
  by_cases hx : 0 < x
  · have hx' : (0 < x) = True := by simp [hx]
    have hd := nest_div hx hb.1
    have hxy : 0 ≤ x * y := Int.mul_nonneg ha.1 hb.1
    have hz : (x = 0) = False := by simp; omega
    simp -implicitDefEqProofs only [push_cast, Nat.reduceAdd, Nat.reduceSub, Nat.reduceMul, Nat.reduceLT, Nat.reduceLeDiff, Nat.reduceEqDiff, Nat.reduceBEq, reduceCtorEq, reduceIte, Int.reduceLE, Int.reduceLT, Int.reduceNeg, Int.reduceToNat, hx', hz]
    have h1 : 0 ≤ 1125899906842624 / x := Int.ediv_nonneg (by omega) (by omega)
    have h2 : 1125899906842624 / x ≤ 1125899906842624 := Int.ediv_le_self _ (by omega)
    rw [Int.tdiv_eq_ediv_of_nonneg (by omega), wrap64 (n := 1125899906842624 / x) (by omega) (by omega)]
    unfold capK
    refine ⟨fun h => ?_, fun h => ?_⟩
    · have := hd.1 h
      generalize x * y = M at *
      omega
    · have h5 : ¬ 1125899906842624 < x * y := fun h6 => h (hd.2 h6)
      generalize x * y = M at *
      rw [wrap64 (by omega) (by omega)]
      omega
  · obtain rfl : x = 0 := by omega
    simp -implicitDefEqProofs only [push_cast, Nat.reduceAdd, Nat.reduceSub, Nat.reduceMul, Nat.reduceLT, Nat.reduceLeDiff, Nat.reduceEqDiff, Nat.reduceBEq, reduceCtorEq, reduceIte, Int.reduceLE, Int.reduceLT, Int.reduceNeg, Int.reduceToNat]
    rw [Int.zero_mul, wrap64 (by omega) (by omega)]
    unfold capK
    omega
end
section
set_option linter.unusedSimpArgs false
set_option linter.unusedVariables false
set_option maxRecDepth 100000
attribute [local push_cast] encE_mk encE_take encE_len encV encE_one encEs_pure encE_pure

theorem log2_shift (n k : Nat) (h : 2 ^ k ≤ n) : n.log2 = (n / 2 ^ k).log2 + k := by
  have hp : 0 < 2 ^ k := Nat.two_pow_pos k
  have hm : n / 2 ^ k ≠ 0 := by have := Nat.div_pos h hp; omega
  have h1 := Nat.log2_self_le hm
  have h2 : n / 2 ^ k < 2 ^ ((n / 2 ^ k).log2 + 1) := Nat.lt_log2_self
  rw [Nat.log2_eq_iff (by omega)]
  refine ⟨?_, ?_⟩
  · rw [Nat.pow_add]
    exact Nat.le_trans (Nat.mul_le_mul_right _ h1) (Nat.div_mul_le_self _ _)
  · have h3 : n / 2 ^ k + 1 ≤ 2 ^ ((n / 2 ^ k).log2 + 1) := h2
    have h4 := Nat.mul_le_mul_right (2 ^ k) h3
    have h5 := Nat.lt_mul_div_succ n hp
    have e : 2 ^ ((n / 2 ^ k).log2 + k + 1) = 2 ^ ((n / 2 ^ k).log2 + 1) * 2 ^ k := by rw [← Nat.pow_add]; congr 1; omega
    rw [e]
    rw [Nat.mul_comm] at h5
    omega
theorem lenK_nat (n : Nat) (h : 0 < n) : lenK n = n.log2 + 1 := by
  unfold lenK
  rw [if_neg (by omega), Int.toNat_natCast]
theorem lenK_shift (n k : Nat) (h : 2 ^ k ≤ n) : lenK n = lenK ((n / 2 ^ k : Nat) : Int) + k := by
  have hp : 0 < 2 ^ k := Nat.two_pow_pos k
  have hm : 0 < n / 2 ^ k := Nat.div_pos h hp
  rw [lenK_nat n (by omega), lenK_nat _ hm, log2_shift n k h]
  omega
/-- The document counts how often 2 may be multiplied. -/
theorem lenK_count (x : Nat) (k : Nat) : (2 ^ k ≤ x ↔ (k : Int) < lenK x) := by
  rcases Nat.eq_zero_or_pos x with rfl | hx
  · have : 0 < 2 ^ k := Nat.two_pow_pos k
    have e : lenK ((0 : Nat) : Int) = 0 := by decide
    rw [e]
    omega
  · rw [lenK_nat x hx, ← Nat.le_log2 (by omega)]
    omega
theorem lenK_range {n : Int} (h0 : 0 ≤ n) (h1 : n ≤ 1099511627776) : 0 ≤ lenK n ∧ lenK n ≤ 41 := by
  obtain ⟨m, rfl⟩ : ∃ m : Nat, n = m := ⟨n.toNat, by omega⟩
  rcases Nat.eq_zero_or_pos m with rfl | hm
  · decide
  · rw [lenK_nat m hm]
    have : m.log2 < 41 := (Nat.log2_lt (by omega)).2 (by omega)
    omega
theorem Sort10_ok (n : Int) : Quiet Go.Proofs.Tryz.prog 91 [.int n] (.int (sortK n)) := by
  have hn := rowsK_range n
  refine quiet_of (rs := #[.tmp 2]) Go.Proofs.Tryz.func91 rfl rfl rfl mixed rfl rfl fun H hs => ?_
  simp -implicitDefEqProofs only [push_cast, Nat.reduceAdd, Nat.reduceSub, Nat.reduceMul, Nat.reduceLT, Nat.reduceLeDiff, Nat.reduceEqDiff, Nat.reduceBEq, reduceCtorEq, reduceIte, Int.reduceLE, Int.reduceLT, Int.reduceNeg, Int.reduceToNat]
  refine callq (rows10_ok n) ?_
  unfold sortK
  generalize rowsK n = x at hn ⊢
  obtain ⟨m, rfl⟩ : ∃ m : Nat, x = m := ⟨x.toNat, by omega⟩
  have hl := lenK_range hn.1 hn.2
  simp -implicitDefEqProofs only [push_cast, Nat.reduceAdd, Nat.reduceSub, Nat.reduceMul, Nat.reduceLT, Nat.reduceLeDiff, Nat.reduceEqDiff, Nat.reduceBEq, reduceCtorEq, reduceIte, Int.reduceLE, Int.reduceLT, Int.reduceNeg, Int.reduceToNat]
  refine loop_at hs (σ := Nat) (fun k => (k : Int) ≤ lenK m) (fun k => 42 - k)
    (fun k => [(5, .int (2 ^ k)), (4, .int k), (3, .int m)]) (fun _ => []) [] 0 (by omega) rfl ?_ ?_ ?_
  · (try simp -implicitDefEqProofs only [push_cast, Nat.reduceAdd, Nat.reduceSub, Nat.reduceMul, Nat.reduceLT, Nat.reduceLeDiff, Nat.reduceEqDiff, Nat.reduceBEq, reduceCtorEq, reduceIte, Int.reduceLE, Int.reduceLT, Int.reduceNeg, Int.reduceToNat, Int.pow_zero])
  · (try simp -implicitDefEqProofs only [push_cast, Nat.reduceAdd, Nat.reduceSub, Nat.reduceMul, Nat.reduceLT, Nat.reduceLeDiff, Nat.reduceEqDiff, Nat.reduceBEq, reduceCtorEq, reduceIte, Int.reduceLE, Int.reduceLT, Int.reduceNeg, Int.reduceToNat])
  intro k hk
  have hc := lenK_count m k
  have hcast : ((2 ^ k : Nat) : Int) = (2 : Int) ^ k := by simp
  by_cases hlt : 2 ^ k ≤ m
  · have hk1 := hc.1 hlt
    have hle : ((2 : Int) ^ k ≤ (m : Int)) = True := by simp only [eq_iff_iff, iff_true]; omega
    have hps : (2 : Int) ^ (k + 1) = 2 * 2 ^ k := by rw [Int.pow_succ]; omega
    have hpos : 0 < (2 : Int) ^ k := by rw [← hcast]; have := Nat.two_pow_pos k; omega
    simp -implicitDefEqProofs only [push_cast, Nat.reduceAdd, Nat.reduceSub, Nat.reduceMul, Nat.reduceLT, Nat.reduceLeDiff, Nat.reduceEqDiff, Nat.reduceBEq, reduceCtorEq, reduceIte, Int.reduceLE, Int.reduceLT, Int.reduceNeg, Int.reduceToNat, hle]
    rw [wrap64 (n := 2 * 2 ^ k) (by omega) (by omega), wrap64 (n := (k : Int) + 1) (by omega) (by omega)]
    refine next_at [] (k + 1) (by omega) (by omega) rfl ?_ ?_
    · (try simp -implicitDefEqProofs only [push_cast, Nat.reduceAdd, Nat.reduceSub, Nat.reduceMul, Nat.reduceLT, Nat.reduceLeDiff, Nat.reduceEqDiff, Nat.reduceBEq, reduceCtorEq, reduceIte, Int.reduceLE, Int.reduceLT, Int.reduceNeg, Int.reduceToNat, hps])
    · (try simp -implicitDefEqProofs only [push_cast, Nat.reduceAdd, Nat.reduceSub, Nat.reduceMul, Nat.reduceLT, Nat.reduceLeDiff, Nat.reduceEqDiff, Nat.reduceBEq, reduceCtorEq, reduceIte, Int.reduceLE, Int.reduceLT, Int.reduceNeg, Int.reduceToNat])
  · have hk1 : lenK m = k := by have := mt hc.2 hlt; omega
    have hle : ((2 : Int) ^ k ≤ (m : Int)) = False := by simp only [eq_iff_iff, iff_false]; omega
    simp -implicitDefEqProofs only [push_cast, Nat.reduceAdd, Nat.reduceSub, Nat.reduceMul, Nat.reduceLT, Nat.reduceLeDiff, Nat.reduceEqDiff, Nat.reduceBEq, reduceCtorEq, reduceIte, Int.reduceLE, Int.reduceLT, Int.reduceNeg, Int.reduceToNat, hle]
    rw [← hk1]
    have hb : (m : Int) * lenK m ≤ 1099511627776 * 41 := Int.mul_le_mul hn.2 hl.2 hl.1 (by omega)
    have hb0 : 0 ≤ (m : Int) * lenK m := Int.mul_nonneg hn.1 hl.1
    rw [wrap64 (n := (m : Int) * lenK m) (by omega) (by omega)]
    refine callq (least10_ok _) ?_
    simp -implicitDefEqProofs only [push_cast, Nat.reduceAdd, Nat.reduceSub, Nat.reduceMul, Nat.reduceLT, Nat.reduceLeDiff, Nat.reduceEqDiff, Nat.reduceBEq, reduceCtorEq, reduceIte, Int.reduceLE, Int.reduceLT, Int.reduceNeg, Int.reduceToNat]
theorem bshr32 (x : Nat) : bshr .u64 (x : Int) 32 = ((x / 4294967296 : Nat) : Int) := by
  have e : bshr .u64 (x : Int) 32 = Int.fdiv x 4294967296 := rfl
  rw [e, Int.fdiv_eq_ediv_of_nonneg _ (by omega)]
  rfl
theorem bshr16 (x : Nat) : bshr .u64 (x : Int) 16 = ((x / 65536 : Nat) : Int) := by
  have e : bshr .u64 (x : Int) 16 = Int.fdiv x 65536 := rfl
  rw [e, Int.fdiv_eq_ediv_of_nonneg _ (by omega)]
  rfl
theorem bshr8 (x : Nat) : bshr .u64 (x : Int) 8 = ((x / 256 : Nat) : Int) := by
  have e : bshr .u64 (x : Int) 8 = Int.fdiv x 256 := rfl
  rw [e, Int.fdiv_eq_ediv_of_nonneg _ (by omega)]
  rfl
theorem len_end (T : ByteArray) (hs : T.size = 256) (ht : ∀ y : Fin 256, ((T[y.val]?.getD 0).toNat : Int) = lenK (y.val : Int)) (y : Nat) (hy : y < 256) (c L : Int) (c0 : 0 ≤ c) (c1 : c ≤ 56) (hL : L = lenK y + c) :
    (0 ≤ IntKind.wrap .u8 (y : Int) ∧ IntKind.wrap .u8 (y : Int) < T.size) ∧ IntKind.wrap .i64 (c + IntKind.wrap .i64 ((T[(IntKind.wrap .u8 (y : Int)).toNat]?.getD 0).toNat : Int)) = L := by
  have e : IntKind.wrap .u8 (y : Int) = y := by unfold IntKind.wrap; simp [IntKind.signed, IntKind.bits]; omega
  have h := ht ⟨y, hy⟩
  have hr := lenK_range (n := (y : Int)) (by omega) (by omega)
  dsimp only at h
  rw [e, Int.toNat_natCast, h, wrap64 (n := lenK y) (by omega) (by omega), wrap64 (n := c + lenK y) (by omega) (by omega), hL, hs]
  omega
theorem Len64_ok (x : Nat) (hx : x < 18446744073709551616) : Quiet Go.Proofs.Tryz.prog 76 [.lit (.int .u64 x)] (.int (lenK x)) := by
  refine quiet_of (rs := #[.tmp 2]) Go.Proofs.Tryz.func76 rfl rfl rfl mixed rfl rfl fun H hs => ?_
  simp -implicitDefEqProofs only [push_cast, Nat.reduceAdd, Nat.reduceSub, Nat.reduceMul, Nat.reduceLT, Nat.reduceLeDiff, Nat.reduceEqDiff, Nat.reduceBEq, reduceCtorEq, reduceIte, Int.reduceLE, Int.reduceLT, Int.reduceNeg, Int.reduceToNat]
  generalize hT : (ByteArray.mk _) = T
  have hsz : T.size = 256 := by rw [← hT]; decide +kernel
  have htb : ∀ y : Fin 256, ((T[y.val]?.getD 0).toNat : Int) = lenK (y.val : Int) := by rw [← hT]; decide +kernel
  clear hT
  have w1 : IntKind.wrap .i64 (IntKind.wrap .i64 (32 + 16) + 8) = 56 := by decide
  have w2 : IntKind.wrap .i64 (32 + 16) = 48 := by decide
  have w3 : IntKind.wrap .i64 (32 + 8) = 40 := by decide
  have w4 : IntKind.wrap .i64 (IntKind.wrap .i64 (0 + 16) + 8) = 24 := by decide
  have w5 : IntKind.wrap .i64 (0 + 16) = 16 := by decide
  have w6 : IntKind.wrap .i64 (0 + 8) = 8 := by decide
  simp only [w1, w2, w3, w4, w5, w6, bshr32, bshr16, bshr8]
  have s32 : ∀ y : Nat, 4294967296 ≤ y → lenK y = lenK ((y / 4294967296 : Nat) : Int) + 32 := fun y h => lenK_shift y 32 h
  have s16 : ∀ y : Nat, 65536 ≤ y → lenK y = lenK ((y / 65536 : Nat) : Int) + 16 := fun y h => lenK_shift y 16 h
  have s8 : ∀ y : Nat, 256 ≤ y → lenK y = lenK ((y / 256 : Nat) : Int) + 8 := fun y h => lenK_shift y 8 h
  refine ⟨fun h1 => ⟨fun h2 => ⟨fun h3 => ?_, fun h3 => ?_⟩, fun h2 => ⟨fun h3 => ?_, fun h3 => ?_⟩⟩, fun h1 => ⟨fun h2 => ⟨fun h3 => ?_, fun h3 => ?_⟩, fun h2 => ⟨fun h3 => ?_, fun h3 => ?_⟩⟩⟩
  · exact len_end T hsz htb _ (by omega) 56 _ (by omega) (by omega) (by rw [s32 x (by omega), s16 _ (by omega), s8 _ (by omega)]; omega)
  · exact len_end T hsz htb _ (by omega) 48 _ (by omega) (by omega) (by rw [s32 x (by omega), s16 _ (by omega)]; omega)
  · exact len_end T hsz htb _ (by omega) 40 _ (by omega) (by omega) (by rw [s32 x (by omega), s8 _ (by omega)]; omega)
  · exact len_end T hsz htb _ (by omega) 32 _ (by omega) (by omega) (by rw [s32 x (by omega)])
  · exact len_end T hsz htb _ (by omega) 24 _ (by omega) (by omega) (by rw [s16 x (by omega), s8 _ (by omega)]; omega)
  · exact len_end T hsz htb _ (by omega) 16 _ (by omega) (by omega) (by rw [s16 x (by omega)])
  · exact len_end T hsz htb _ (by omega) 8 _ (by omega) (by omega) (by rw [s8 x (by omega)])
  · exact len_end T hsz htb _ (by omega) 0 _ (by omega) (by omega) (by omega)
theorem SortK_ok (n : Int) : Quiet Go.Proofs.Tryz.prog 27 [.int n] (.int (sortK n)) := by
  have hn := rowsK_range n
  have hl := lenK_range hn.1 hn.2
  refine quiet_of (rs := #[.tmp 2]) Go.Proofs.Tryz.func27 rfl rfl rfl mixed rfl rfl fun H hs => ?_
  simp -implicitDefEqProofs only [push_cast, Nat.reduceAdd, Nat.reduceSub, Nat.reduceMul, Nat.reduceLT, Nat.reduceLeDiff, Nat.reduceEqDiff, Nat.reduceBEq, reduceCtorEq, reduceIte, Int.reduceLE, Int.reduceLT, Int.reduceNeg, Int.reduceToNat]
  refine callq (rowsK_ok n) ?_
  simp -implicitDefEqProofs only [push_cast, Nat.reduceAdd, Nat.reduceSub, Nat.reduceMul, Nat.reduceLT, Nat.reduceLeDiff, Nat.reduceEqDiff, Nat.reduceBEq, reduceCtorEq, reduceIte, Int.reduceLE, Int.reduceLT, Int.reduceNeg, Int.reduceToNat]
  refine callq (rowsK_ok n) ?_
  unfold sortK
  generalize rowsK n = x at hn hl ⊢
  obtain ⟨m, rfl⟩ : ∃ m : Nat, x = m := ⟨x.toNat, by omega⟩
  have e1 : IntKind.wrap .u64 (m : Int) = m := by rw [IntKind.wrap_u64]; omega
  simp -implicitDefEqProofs only [push_cast, Nat.reduceAdd, Nat.reduceSub, Nat.reduceMul, Nat.reduceLT, Nat.reduceLeDiff, Nat.reduceEqDiff, Nat.reduceBEq, reduceCtorEq, reduceIte, Int.reduceLE, Int.reduceLT, Int.reduceNeg, Int.reduceToNat]
  rw [e1]
  refine callq (Len64_ok m (by omega)) ?_
  simp -implicitDefEqProofs only [push_cast, Nat.reduceAdd, Nat.reduceSub, Nat.reduceMul, Nat.reduceLT, Nat.reduceLeDiff, Nat.reduceEqDiff, Nat.reduceBEq, reduceCtorEq, reduceIte, Int.reduceLE, Int.reduceLT, Int.reduceNeg, Int.reduceToNat]
  refine callq (timesK_ok (m : Int) (lenK m) hn.1 hn.2 hl.1 (by omega)) ?_
  simp -implicitDefEqProofs only [push_cast, Nat.reduceAdd, Nat.reduceSub, Nat.reduceMul, Nat.reduceLT, Nat.reduceLeDiff, Nat.reduceEqDiff, Nat.reduceBEq, reduceCtorEq, reduceIte, Int.reduceLE, Int.reduceLT, Int.reduceNeg, Int.reduceToNat]
end
section
set_option linter.unusedSimpArgs false
set_option linter.unusedVariables false
set_option maxRecDepth 100000
attribute [local push_cast] encPl_mk encPl_take encPl_len encPl_one encPls_pure encPl_pure encT_pure encT_len encT_one encT_take

/-- What may be. -/
def mayP (c : List Df) (q : Qy) (p : Pl) : Bool := p.tree.2 && q.may c && decide ((treeP p).set < 2 ^ q.occ.length) && (parts p).all (fitP c q)
/-- What a part costs, but its plans. -/
def ownC (c : List Df) (q : Qy) : Pl → Int
  | .mk op occ a b l =>
    match l with
    | [] => scanK (baseR c q occ)
    | [x] => sortK (rowsQ c q (treeP x).set)
    | x :: y :: _ => if op = 1 then nestK (rowsQ c q (treeP x).set) (rowsQ c q (treeP y).set) else if op = 2 then hashK (rowsQ c q (treeP x).set) (rowsQ c q (treeP y).set) else mergeK (rowsQ c q (treeP x).set) (rowsQ c q (treeP y).set)
theorem leastK_range {n : Int} (h : 0 ≤ n) : 0 ≤ leastK n ∧ leastK n ≤ capK := by unfold leastK capK; omega
theorem lenK_pos (n : Int) : 0 ≤ lenK n := by unfold lenK; split <;> omega
theorem nestK_range (a b : Int) : 0 ≤ nestK a b ∧ nestK a b ≤ capK := leastK_range (Int.mul_nonneg (rowsK_range a).1 (rowsK_range b).1)
theorem hashK_range (a b : Int) : 0 ≤ hashK a b ∧ hashK a b ≤ capK := leastK_range (by have := rowsK_range a; have := rowsK_range b; omega)
theorem mergeK_range (a b : Int) : 0 ≤ mergeK a b ∧ mergeK a b ≤ capK := leastK_range (by have := rowsK_range a; have := rowsK_range b; omega)
theorem sortK_range (a : Int) : 0 ≤ sortK a ∧ sortK a ≤ capK := leastK_range (Int.mul_nonneg (rowsK_range a).1 (lenK_pos _))
theorem scanK_range (a : Int) : 0 ≤ scanK a ∧ scanK a ≤ capK := by unfold scanK capK; have := rowsK_range a; omega
theorem ownC_range (c : List Df) (q : Qy) (p : Pl) : 0 ≤ ownC c q p ∧ ownC c q p ≤ capK := by
  obtain ⟨op, occ, a, b, l⟩ := p
  match l with
  | [] => exact scanK_range _
  | [x] => exact sortK_range _
  | x :: y :: l =>
    simp only [ownC]
    split
    · exact nestK_range _ _
    · split
      · exact hashK_range _ _
      · exact mergeK_range _ _
def costP (c : List Df) (q : Qy) (p : Pl) : Int := if mayP c q p then addK ((parts p).map (ownC c q)) else capK
theorem few_forms {p : Pl} (h : p.few = true) : (parts p).all Pl.form = true := by
  unfold Pl.few at h
  rw [Bool.and_eq_true] at h
  exact h.2
theorem form_len {p : Pl} (h : p.form = true) : p.l.length ≤ 2 := by
  obtain ⟨op, occ, a, b, l⟩ := p
  rcases form_split h with ⟨_, rfl⟩ | ⟨_, x, rfl⟩ | ⟨_, x, y, rfl⟩ <;> simp [Pl.l]
theorem cost_tree {c : List Df} {q : Qy} {p : Pl} (h : p.few = true) : addK ((parts p).map (ownC c q)) = costT (ownC c q) p :=
  cost_parts (ownC c q) (ownC_range c q) p fun x hx => form_len (List.all_eq_true.1 (few_forms h) x hx)
theorem leaf_in {occ a b op : Int} (h : (treeP (.mk op occ a b [])).may = true) : 0 ≤ occ ∧ occ < 4 := by
  rw [treeP, leaf_may] at h
  simpa using h
set_option maxHeartbeats 4000000 in
theorem costsR_ok (c : List Df) (hcl : c.length ≤ 1000000) (q : Qy) (hq : q.Ok) (hqi : q.In) (p : Pl) : p.Ok → p.few = true → (treeP p).may = true → Quiet Go.Proofs.Tryz.prog 86 [.agg [.sl (c.map encD)], .agg (encQ q), .agg (encPl p)] (.int (costT (ownC c q) p)) := by
  induction p using Pl.ind with
  | h op occ a b l ih =>
  intro hok hf hm
  obtain ⟨hl, hlo⟩ := hok
  have hmx := part_may (few_own hf) hm
  have hfx : ∀ x ∈ l, x.few = true := fun x hx => few_part hf hx
  have ih' := fun x hx => ih x hx (hlo x hx) (hfx x hx) (hmx x hx)
  have hS : ∀ x ∈ l, Quiet Go.Proofs.Tryz.prog 87 [.agg (encPl x)] (.int (treeP x).set) := fun x hx => by
    rw [← setOf_may (hfx x hx) (hmx x hx)]; exact SetP_ok x (hlo x hx)
  refine quiet_of (rs := #[.tmp 6]) Go.Proofs.Tryz.func86 rfl rfl rfl mixed rfl rfl fun H hs => ?_
  rcases form_split (few_own hf) with ⟨rfl, rfl⟩ | ⟨rfl, x, rfl⟩ | ⟨hop, x, y, rfl⟩
  · have hlf := leaf_in hm
    have hv : costT (ownC c q) (.mk 0 occ a b []) = scanK (baseR c q occ) := rfl
    rw [hv]
    simp -implicitDefEqProofs only [push_cast, Nat.reduceAdd, Nat.reduceSub, Nat.reduceMul, Nat.reduceLT, Nat.reduceLeDiff, Nat.reduceEqDiff, Nat.reduceBEq, reduceCtorEq, reduceIte, Int.reduceLE, Int.reduceLT, Int.reduceNeg, Int.reduceToNat, encQ, Int.reduceEq, if_true]
    refine callq (BaseR_ok c hcl q hq hqi occ (by unfold In64; omega)) ?_
    simp -implicitDefEqProofs only [push_cast, Nat.reduceAdd, Nat.reduceSub, Nat.reduceMul, Nat.reduceLT, Nat.reduceLeDiff, Nat.reduceEqDiff, Nat.reduceBEq, reduceCtorEq, reduceIte, Int.reduceLE, Int.reduceLT, Int.reduceNeg, Int.reduceToNat]
    refine callq (Scan10_ok _) ?_
    simp -implicitDefEqProofs only [push_cast, Nat.reduceAdd, Nat.reduceSub, Nat.reduceMul, Nat.reduceLT, Nat.reduceLeDiff, Nat.reduceEqDiff, Nat.reduceBEq, reduceCtorEq, reduceIte, Int.reduceLE, Int.reduceLT, Int.reduceNeg, Int.reduceToNat]
  · have hx := ih' x (by simp)
    have hSx := hS x (by simp)
    have hv : costT (ownC c q) (.mk 4 occ a b [x]) = addK [costT (ownC c q) x, sortK (rowsQ c q (treeP x).set)] := rfl
    have hA := Add10_ok [costT (ownC c q) x, sortK (rowsQ c q (treeP x).set)] (by simp)
    rw [hv]
    simp -implicitDefEqProofs only [push_cast, Nat.reduceAdd, Nat.reduceSub, Nat.reduceMul, Nat.reduceLT, Nat.reduceLeDiff, Nat.reduceEqDiff, Nat.reduceBEq, reduceCtorEq, reduceIte, Int.reduceLE, Int.reduceLT, Int.reduceNeg, Int.reduceToNat, encQ, Int.reduceEq, if_false, if_true, or_true, or_false, true_or, false_or, List.map_cons, List.map_nil, List.length_cons, List.length_nil, Int.reduceAdd]
    refine areg_at 9 (by kernel_rfl) (by kernel_rfl) ?_
    simp -implicitDefEqProofs only [push_cast, Nat.reduceAdd, Nat.reduceSub, Nat.reduceMul, Nat.reduceLT, Nat.reduceLeDiff, Nat.reduceEqDiff, Nat.reduceBEq, reduceCtorEq, reduceIte, Int.reduceLE, Int.reduceLT, Int.reduceNeg, Int.reduceToNat, encQ, Int.reduceEq, if_false, if_true, or_true, or_false, true_or, false_or, List.map_cons, List.map_nil, List.length_cons, List.length_nil, Int.reduceAdd]
    refine ahdq hSx ?_
    simp -implicitDefEqProofs only [push_cast, Nat.reduceAdd, Nat.reduceSub, Nat.reduceMul, Nat.reduceLT, Nat.reduceLeDiff, Nat.reduceEqDiff, Nat.reduceBEq, reduceCtorEq, reduceIte, Int.reduceLE, Int.reduceLT, Int.reduceNeg, Int.reduceToNat, encQ, Int.reduceEq, if_false, if_true, or_true, or_false, true_or, false_or, List.map_cons, List.map_nil, List.length_cons, List.length_nil, Int.reduceAdd]
    refine ahdq (RowsR_ok c hcl q hq hqi _) ?_
    simp -implicitDefEqProofs only [push_cast, Nat.reduceAdd, Nat.reduceSub, Nat.reduceMul, Nat.reduceLT, Nat.reduceLeDiff, Nat.reduceEqDiff, Nat.reduceBEq, reduceCtorEq, reduceIte, Int.reduceLE, Int.reduceLT, Int.reduceNeg, Int.reduceToNat, encQ, Int.reduceEq, if_false, if_true, or_true, or_false, true_or, false_or, List.map_cons, List.map_nil, List.length_cons, List.length_nil, Int.reduceAdd]
    refine areg_im [39] 12 (by kernel_rfl) (by kernel_rfl) ?_
    simp -implicitDefEqProofs only [push_cast, Nat.reduceAdd, Nat.reduceSub, Nat.reduceMul, Nat.reduceLT, Nat.reduceLeDiff, Nat.reduceEqDiff, Nat.reduceBEq, reduceCtorEq, reduceIte, Int.reduceLE, Int.reduceLT, Int.reduceNeg, Int.reduceToNat, encQ, Int.reduceEq, if_false, if_true, or_true, or_false, true_or, false_or, List.map_cons, List.map_nil, List.length_cons, List.length_nil, Int.reduceAdd]
    refine ahdq hx ?_
    simp -implicitDefEqProofs only [push_cast, Nat.reduceAdd, Nat.reduceSub, Nat.reduceMul, Nat.reduceLT, Nat.reduceLeDiff, Nat.reduceEqDiff, Nat.reduceBEq, reduceCtorEq, reduceIte, Int.reduceLE, Int.reduceLT, Int.reduceNeg, Int.reduceToNat, encQ, Int.reduceEq, if_false, if_true, or_true, or_false, true_or, false_or, List.map_cons, List.map_nil, List.length_cons, List.length_nil, Int.reduceAdd]
    refine ahdq (Sort10_ok _) ?_
    simp -implicitDefEqProofs only [push_cast, Nat.reduceAdd, Nat.reduceSub, Nat.reduceMul, Nat.reduceLT, Nat.reduceLeDiff, Nat.reduceEqDiff, Nat.reduceBEq, reduceCtorEq, reduceIte, Int.reduceLE, Int.reduceLT, Int.reduceNeg, Int.reduceToNat, encQ, Int.reduceEq, if_false, if_true, or_true, or_false, true_or, false_or, List.map_cons, List.map_nil, List.length_cons, List.length_nil, Int.reduceAdd]
    refine ahdq hA ?_
    simp -implicitDefEqProofs only [push_cast, Nat.reduceAdd, Nat.reduceSub, Nat.reduceMul, Nat.reduceLT, Nat.reduceLeDiff, Nat.reduceEqDiff, Nat.reduceBEq, reduceCtorEq, reduceIte, Int.reduceLE, Int.reduceLT, Int.reduceNeg, Int.reduceToNat, encQ, Int.reduceEq, if_false, if_true, or_true, or_false, true_or, false_or, List.map_cons, List.map_nil, List.length_cons, List.length_nil, Int.reduceAdd]
  · have hx := ih' x (by simp)
    have hSx := hS x (by simp)
    have hy := ih' y (by simp)
    have hSy := hS y (by simp)
    rcases hop with rfl | rfl | rfl
    · have hv : costT (ownC c q) (.mk 1 occ a b [x, y]) = addK [costT (ownC c q) x, costT (ownC c q) y, nestK (rowsQ c q (treeP x).set) (rowsQ c q (treeP y).set)] := rfl
      have hA := Add10_ok [costT (ownC c q) x, costT (ownC c q) y, nestK (rowsQ c q (treeP x).set) (rowsQ c q (treeP y).set)] (by simp)
      rw [hv]
      simp -implicitDefEqProofs only [push_cast, Nat.reduceAdd, Nat.reduceSub, Nat.reduceMul, Nat.reduceLT, Nat.reduceLeDiff, Nat.reduceEqDiff, Nat.reduceBEq, reduceCtorEq, reduceIte, Int.reduceLE, Int.reduceLT, Int.reduceNeg, Int.reduceToNat, encQ, Int.reduceEq, if_false, if_true, or_true, or_false, true_or, false_or, List.map_cons, List.map_nil, List.length_cons, List.length_nil, Int.reduceAdd]
      refine areg_at 9 (by kernel_rfl) (by kernel_rfl) ?_
      simp -implicitDefEqProofs only [push_cast, Nat.reduceAdd, Nat.reduceSub, Nat.reduceMul, Nat.reduceLT, Nat.reduceLeDiff, Nat.reduceEqDiff, Nat.reduceBEq, reduceCtorEq, reduceIte, Int.reduceLE, Int.reduceLT, Int.reduceNeg, Int.reduceToNat, encQ, Int.reduceEq, if_false, if_true, or_true, or_false, true_or, false_or, List.map_cons, List.map_nil, List.length_cons, List.length_nil, Int.reduceAdd]
      refine ahdq hSx ?_
      simp -implicitDefEqProofs only [push_cast, Nat.reduceAdd, Nat.reduceSub, Nat.reduceMul, Nat.reduceLT, Nat.reduceLeDiff, Nat.reduceEqDiff, Nat.reduceBEq, reduceCtorEq, reduceIte, Int.reduceLE, Int.reduceLT, Int.reduceNeg, Int.reduceToNat, encQ, Int.reduceEq, if_false, if_true, or_true, or_false, true_or, false_or, List.map_cons, List.map_nil, List.length_cons, List.length_nil, Int.reduceAdd]
      refine ahdq (RowsR_ok c hcl q hq hqi _) ?_
      simp -implicitDefEqProofs only [push_cast, Nat.reduceAdd, Nat.reduceSub, Nat.reduceMul, Nat.reduceLT, Nat.reduceLeDiff, Nat.reduceEqDiff, Nat.reduceBEq, reduceCtorEq, reduceIte, Int.reduceLE, Int.reduceLT, Int.reduceNeg, Int.reduceToNat, encQ, Int.reduceEq, if_false, if_true, or_true, or_false, true_or, false_or, List.map_cons, List.map_nil, List.length_cons, List.length_nil, Int.reduceAdd]
      refine areg_at 9 (by kernel_rfl) (by kernel_rfl) ?_
      simp -implicitDefEqProofs only [push_cast, Nat.reduceAdd, Nat.reduceSub, Nat.reduceMul, Nat.reduceLT, Nat.reduceLeDiff, Nat.reduceEqDiff, Nat.reduceBEq, reduceCtorEq, reduceIte, Int.reduceLE, Int.reduceLT, Int.reduceNeg, Int.reduceToNat, encQ, Int.reduceEq, if_false, if_true, or_true, or_false, true_or, false_or, List.map_cons, List.map_nil, List.length_cons, List.length_nil, Int.reduceAdd]
      refine ahdq hSy ?_
      simp -implicitDefEqProofs only [push_cast, Nat.reduceAdd, Nat.reduceSub, Nat.reduceMul, Nat.reduceLT, Nat.reduceLeDiff, Nat.reduceEqDiff, Nat.reduceBEq, reduceCtorEq, reduceIte, Int.reduceLE, Int.reduceLT, Int.reduceNeg, Int.reduceToNat, encQ, Int.reduceEq, if_false, if_true, or_true, or_false, true_or, false_or, List.map_cons, List.map_nil, List.length_cons, List.length_nil, Int.reduceAdd]
      refine ahdq (RowsR_ok c hcl q hq hqi _) ?_
      simp -implicitDefEqProofs only [push_cast, Nat.reduceAdd, Nat.reduceSub, Nat.reduceMul, Nat.reduceLT, Nat.reduceLeDiff, Nat.reduceEqDiff, Nat.reduceBEq, reduceCtorEq, reduceIte, Int.reduceLE, Int.reduceLT, Int.reduceNeg, Int.reduceToNat, encQ, Int.reduceEq, if_false, if_true, or_true, or_false, true_or, false_or, List.map_cons, List.map_nil, List.length_cons, List.length_nil, Int.reduceAdd]
      refine callq (Nest10_ok _ _) ?_
      simp -implicitDefEqProofs only [push_cast, Nat.reduceAdd, Nat.reduceSub, Nat.reduceMul, Nat.reduceLT, Nat.reduceLeDiff, Nat.reduceEqDiff, Nat.reduceBEq, reduceCtorEq, reduceIte, Int.reduceLE, Int.reduceLT, Int.reduceNeg, Int.reduceToNat, encQ, Int.reduceEq, if_false, if_true, or_true, or_false, true_or, false_or, List.map_cons, List.map_nil, List.length_cons, List.length_nil, Int.reduceAdd]
      refine areg_im [79] 18 (by kernel_rfl) (by kernel_rfl) ?_
      simp -implicitDefEqProofs only [push_cast, Nat.reduceAdd, Nat.reduceSub, Nat.reduceMul, Nat.reduceLT, Nat.reduceLeDiff, Nat.reduceEqDiff, Nat.reduceBEq, reduceCtorEq, reduceIte, Int.reduceLE, Int.reduceLT, Int.reduceNeg, Int.reduceToNat, encQ, Int.reduceEq, if_false, if_true, or_true, or_false, true_or, false_or, List.map_cons, List.map_nil, List.length_cons, List.length_nil, Int.reduceAdd]
      refine ahdq hx ?_
      simp -implicitDefEqProofs only [push_cast, Nat.reduceAdd, Nat.reduceSub, Nat.reduceMul, Nat.reduceLT, Nat.reduceLeDiff, Nat.reduceEqDiff, Nat.reduceBEq, reduceCtorEq, reduceIte, Int.reduceLE, Int.reduceLT, Int.reduceNeg, Int.reduceToNat, encQ, Int.reduceEq, if_false, if_true, or_true, or_false, true_or, false_or, List.map_cons, List.map_nil, List.length_cons, List.length_nil, Int.reduceAdd]
      refine ahdq hy ?_
      simp -implicitDefEqProofs only [push_cast, Nat.reduceAdd, Nat.reduceSub, Nat.reduceMul, Nat.reduceLT, Nat.reduceLeDiff, Nat.reduceEqDiff, Nat.reduceBEq, reduceCtorEq, reduceIte, Int.reduceLE, Int.reduceLT, Int.reduceNeg, Int.reduceToNat, encQ, Int.reduceEq, if_false, if_true, or_true, or_false, true_or, false_or, List.map_cons, List.map_nil, List.length_cons, List.length_nil, Int.reduceAdd]
      refine ahdq hA ?_
      simp -implicitDefEqProofs only [push_cast, Nat.reduceAdd, Nat.reduceSub, Nat.reduceMul, Nat.reduceLT, Nat.reduceLeDiff, Nat.reduceEqDiff, Nat.reduceBEq, reduceCtorEq, reduceIte, Int.reduceLE, Int.reduceLT, Int.reduceNeg, Int.reduceToNat, encQ, Int.reduceEq, if_false, if_true, or_true, or_false, true_or, false_or, List.map_cons, List.map_nil, List.length_cons, List.length_nil, Int.reduceAdd]
    · have hv : costT (ownC c q) (.mk 2 occ a b [x, y]) = addK [costT (ownC c q) x, costT (ownC c q) y, hashK (rowsQ c q (treeP x).set) (rowsQ c q (treeP y).set)] := rfl
      have hA := Add10_ok [costT (ownC c q) x, costT (ownC c q) y, hashK (rowsQ c q (treeP x).set) (rowsQ c q (treeP y).set)] (by simp)
      rw [hv]
      simp -implicitDefEqProofs only [push_cast, Nat.reduceAdd, Nat.reduceSub, Nat.reduceMul, Nat.reduceLT, Nat.reduceLeDiff, Nat.reduceEqDiff, Nat.reduceBEq, reduceCtorEq, reduceIte, Int.reduceLE, Int.reduceLT, Int.reduceNeg, Int.reduceToNat, encQ, Int.reduceEq, if_false, if_true, or_true, or_false, true_or, false_or, List.map_cons, List.map_nil, List.length_cons, List.length_nil, Int.reduceAdd]
      refine areg_at 9 (by kernel_rfl) (by kernel_rfl) ?_
      simp -implicitDefEqProofs only [push_cast, Nat.reduceAdd, Nat.reduceSub, Nat.reduceMul, Nat.reduceLT, Nat.reduceLeDiff, Nat.reduceEqDiff, Nat.reduceBEq, reduceCtorEq, reduceIte, Int.reduceLE, Int.reduceLT, Int.reduceNeg, Int.reduceToNat, encQ, Int.reduceEq, if_false, if_true, or_true, or_false, true_or, false_or, List.map_cons, List.map_nil, List.length_cons, List.length_nil, Int.reduceAdd]
      refine ahdq hSx ?_
      simp -implicitDefEqProofs only [push_cast, Nat.reduceAdd, Nat.reduceSub, Nat.reduceMul, Nat.reduceLT, Nat.reduceLeDiff, Nat.reduceEqDiff, Nat.reduceBEq, reduceCtorEq, reduceIte, Int.reduceLE, Int.reduceLT, Int.reduceNeg, Int.reduceToNat, encQ, Int.reduceEq, if_false, if_true, or_true, or_false, true_or, false_or, List.map_cons, List.map_nil, List.length_cons, List.length_nil, Int.reduceAdd]
      refine ahdq (RowsR_ok c hcl q hq hqi _) ?_
      simp -implicitDefEqProofs only [push_cast, Nat.reduceAdd, Nat.reduceSub, Nat.reduceMul, Nat.reduceLT, Nat.reduceLeDiff, Nat.reduceEqDiff, Nat.reduceBEq, reduceCtorEq, reduceIte, Int.reduceLE, Int.reduceLT, Int.reduceNeg, Int.reduceToNat, encQ, Int.reduceEq, if_false, if_true, or_true, or_false, true_or, false_or, List.map_cons, List.map_nil, List.length_cons, List.length_nil, Int.reduceAdd]
      refine areg_at 9 (by kernel_rfl) (by kernel_rfl) ?_
      simp -implicitDefEqProofs only [push_cast, Nat.reduceAdd, Nat.reduceSub, Nat.reduceMul, Nat.reduceLT, Nat.reduceLeDiff, Nat.reduceEqDiff, Nat.reduceBEq, reduceCtorEq, reduceIte, Int.reduceLE, Int.reduceLT, Int.reduceNeg, Int.reduceToNat, encQ, Int.reduceEq, if_false, if_true, or_true, or_false, true_or, false_or, List.map_cons, List.map_nil, List.length_cons, List.length_nil, Int.reduceAdd]
      refine ahdq hSy ?_
      simp -implicitDefEqProofs only [push_cast, Nat.reduceAdd, Nat.reduceSub, Nat.reduceMul, Nat.reduceLT, Nat.reduceLeDiff, Nat.reduceEqDiff, Nat.reduceBEq, reduceCtorEq, reduceIte, Int.reduceLE, Int.reduceLT, Int.reduceNeg, Int.reduceToNat, encQ, Int.reduceEq, if_false, if_true, or_true, or_false, true_or, false_or, List.map_cons, List.map_nil, List.length_cons, List.length_nil, Int.reduceAdd]
      refine ahdq (RowsR_ok c hcl q hq hqi _) ?_
      simp -implicitDefEqProofs only [push_cast, Nat.reduceAdd, Nat.reduceSub, Nat.reduceMul, Nat.reduceLT, Nat.reduceLeDiff, Nat.reduceEqDiff, Nat.reduceBEq, reduceCtorEq, reduceIte, Int.reduceLE, Int.reduceLT, Int.reduceNeg, Int.reduceToNat, encQ, Int.reduceEq, if_false, if_true, or_true, or_false, true_or, false_or, List.map_cons, List.map_nil, List.length_cons, List.length_nil, Int.reduceAdd]
      refine callq (Nest10_ok _ _) ?_
      simp -implicitDefEqProofs only [push_cast, Nat.reduceAdd, Nat.reduceSub, Nat.reduceMul, Nat.reduceLT, Nat.reduceLeDiff, Nat.reduceEqDiff, Nat.reduceBEq, reduceCtorEq, reduceIte, Int.reduceLE, Int.reduceLT, Int.reduceNeg, Int.reduceToNat, encQ, Int.reduceEq, if_false, if_true, or_true, or_false, true_or, false_or, List.map_cons, List.map_nil, List.length_cons, List.length_nil, Int.reduceAdd]
      refine callq (Hash10_ok _ _) ?_
      simp -implicitDefEqProofs only [push_cast, Nat.reduceAdd, Nat.reduceSub, Nat.reduceMul, Nat.reduceLT, Nat.reduceLeDiff, Nat.reduceEqDiff, Nat.reduceBEq, reduceCtorEq, reduceIte, Int.reduceLE, Int.reduceLT, Int.reduceNeg, Int.reduceToNat, encQ, Int.reduceEq, if_false, if_true, or_true, or_false, true_or, false_or, List.map_cons, List.map_nil, List.length_cons, List.length_nil, Int.reduceAdd]
      refine areg_im [79] 18 (by kernel_rfl) (by kernel_rfl) ?_
      simp -implicitDefEqProofs only [push_cast, Nat.reduceAdd, Nat.reduceSub, Nat.reduceMul, Nat.reduceLT, Nat.reduceLeDiff, Nat.reduceEqDiff, Nat.reduceBEq, reduceCtorEq, reduceIte, Int.reduceLE, Int.reduceLT, Int.reduceNeg, Int.reduceToNat, encQ, Int.reduceEq, if_false, if_true, or_true, or_false, true_or, false_or, List.map_cons, List.map_nil, List.length_cons, List.length_nil, Int.reduceAdd]
      refine ahdq hx ?_
      simp -implicitDefEqProofs only [push_cast, Nat.reduceAdd, Nat.reduceSub, Nat.reduceMul, Nat.reduceLT, Nat.reduceLeDiff, Nat.reduceEqDiff, Nat.reduceBEq, reduceCtorEq, reduceIte, Int.reduceLE, Int.reduceLT, Int.reduceNeg, Int.reduceToNat, encQ, Int.reduceEq, if_false, if_true, or_true, or_false, true_or, false_or, List.map_cons, List.map_nil, List.length_cons, List.length_nil, Int.reduceAdd]
      refine ahdq hy ?_
      simp -implicitDefEqProofs only [push_cast, Nat.reduceAdd, Nat.reduceSub, Nat.reduceMul, Nat.reduceLT, Nat.reduceLeDiff, Nat.reduceEqDiff, Nat.reduceBEq, reduceCtorEq, reduceIte, Int.reduceLE, Int.reduceLT, Int.reduceNeg, Int.reduceToNat, encQ, Int.reduceEq, if_false, if_true, or_true, or_false, true_or, false_or, List.map_cons, List.map_nil, List.length_cons, List.length_nil, Int.reduceAdd]
      refine ahdq hA ?_
      simp -implicitDefEqProofs only [push_cast, Nat.reduceAdd, Nat.reduceSub, Nat.reduceMul, Nat.reduceLT, Nat.reduceLeDiff, Nat.reduceEqDiff, Nat.reduceBEq, reduceCtorEq, reduceIte, Int.reduceLE, Int.reduceLT, Int.reduceNeg, Int.reduceToNat, encQ, Int.reduceEq, if_false, if_true, or_true, or_false, true_or, false_or, List.map_cons, List.map_nil, List.length_cons, List.length_nil, Int.reduceAdd]
    · have hv : costT (ownC c q) (.mk 3 occ a b [x, y]) = addK [costT (ownC c q) x, costT (ownC c q) y, mergeK (rowsQ c q (treeP x).set) (rowsQ c q (treeP y).set)] := rfl
      have hA := Add10_ok [costT (ownC c q) x, costT (ownC c q) y, mergeK (rowsQ c q (treeP x).set) (rowsQ c q (treeP y).set)] (by simp)
      rw [hv]
      simp -implicitDefEqProofs only [push_cast, Nat.reduceAdd, Nat.reduceSub, Nat.reduceMul, Nat.reduceLT, Nat.reduceLeDiff, Nat.reduceEqDiff, Nat.reduceBEq, reduceCtorEq, reduceIte, Int.reduceLE, Int.reduceLT, Int.reduceNeg, Int.reduceToNat, encQ, Int.reduceEq, if_false, if_true, or_true, or_false, true_or, false_or, List.map_cons, List.map_nil, List.length_cons, List.length_nil, Int.reduceAdd]
      refine areg_at 9 (by kernel_rfl) (by kernel_rfl) ?_
      simp -implicitDefEqProofs only [push_cast, Nat.reduceAdd, Nat.reduceSub, Nat.reduceMul, Nat.reduceLT, Nat.reduceLeDiff, Nat.reduceEqDiff, Nat.reduceBEq, reduceCtorEq, reduceIte, Int.reduceLE, Int.reduceLT, Int.reduceNeg, Int.reduceToNat, encQ, Int.reduceEq, if_false, if_true, or_true, or_false, true_or, false_or, List.map_cons, List.map_nil, List.length_cons, List.length_nil, Int.reduceAdd]
      refine ahdq hSx ?_
      simp -implicitDefEqProofs only [push_cast, Nat.reduceAdd, Nat.reduceSub, Nat.reduceMul, Nat.reduceLT, Nat.reduceLeDiff, Nat.reduceEqDiff, Nat.reduceBEq, reduceCtorEq, reduceIte, Int.reduceLE, Int.reduceLT, Int.reduceNeg, Int.reduceToNat, encQ, Int.reduceEq, if_false, if_true, or_true, or_false, true_or, false_or, List.map_cons, List.map_nil, List.length_cons, List.length_nil, Int.reduceAdd]
      refine ahdq (RowsR_ok c hcl q hq hqi _) ?_
      simp -implicitDefEqProofs only [push_cast, Nat.reduceAdd, Nat.reduceSub, Nat.reduceMul, Nat.reduceLT, Nat.reduceLeDiff, Nat.reduceEqDiff, Nat.reduceBEq, reduceCtorEq, reduceIte, Int.reduceLE, Int.reduceLT, Int.reduceNeg, Int.reduceToNat, encQ, Int.reduceEq, if_false, if_true, or_true, or_false, true_or, false_or, List.map_cons, List.map_nil, List.length_cons, List.length_nil, Int.reduceAdd]
      refine areg_at 9 (by kernel_rfl) (by kernel_rfl) ?_
      simp -implicitDefEqProofs only [push_cast, Nat.reduceAdd, Nat.reduceSub, Nat.reduceMul, Nat.reduceLT, Nat.reduceLeDiff, Nat.reduceEqDiff, Nat.reduceBEq, reduceCtorEq, reduceIte, Int.reduceLE, Int.reduceLT, Int.reduceNeg, Int.reduceToNat, encQ, Int.reduceEq, if_false, if_true, or_true, or_false, true_or, false_or, List.map_cons, List.map_nil, List.length_cons, List.length_nil, Int.reduceAdd]
      refine ahdq hSy ?_
      simp -implicitDefEqProofs only [push_cast, Nat.reduceAdd, Nat.reduceSub, Nat.reduceMul, Nat.reduceLT, Nat.reduceLeDiff, Nat.reduceEqDiff, Nat.reduceBEq, reduceCtorEq, reduceIte, Int.reduceLE, Int.reduceLT, Int.reduceNeg, Int.reduceToNat, encQ, Int.reduceEq, if_false, if_true, or_true, or_false, true_or, false_or, List.map_cons, List.map_nil, List.length_cons, List.length_nil, Int.reduceAdd]
      refine ahdq (RowsR_ok c hcl q hq hqi _) ?_
      simp -implicitDefEqProofs only [push_cast, Nat.reduceAdd, Nat.reduceSub, Nat.reduceMul, Nat.reduceLT, Nat.reduceLeDiff, Nat.reduceEqDiff, Nat.reduceBEq, reduceCtorEq, reduceIte, Int.reduceLE, Int.reduceLT, Int.reduceNeg, Int.reduceToNat, encQ, Int.reduceEq, if_false, if_true, or_true, or_false, true_or, false_or, List.map_cons, List.map_nil, List.length_cons, List.length_nil, Int.reduceAdd]
      refine callq (Nest10_ok _ _) ?_
      simp -implicitDefEqProofs only [push_cast, Nat.reduceAdd, Nat.reduceSub, Nat.reduceMul, Nat.reduceLT, Nat.reduceLeDiff, Nat.reduceEqDiff, Nat.reduceBEq, reduceCtorEq, reduceIte, Int.reduceLE, Int.reduceLT, Int.reduceNeg, Int.reduceToNat, encQ, Int.reduceEq, if_false, if_true, or_true, or_false, true_or, false_or, List.map_cons, List.map_nil, List.length_cons, List.length_nil, Int.reduceAdd]
      refine callq (Merge10_ok _ _) ?_
      simp -implicitDefEqProofs only [push_cast, Nat.reduceAdd, Nat.reduceSub, Nat.reduceMul, Nat.reduceLT, Nat.reduceLeDiff, Nat.reduceEqDiff, Nat.reduceBEq, reduceCtorEq, reduceIte, Int.reduceLE, Int.reduceLT, Int.reduceNeg, Int.reduceToNat, encQ, Int.reduceEq, if_false, if_true, or_true, or_false, true_or, false_or, List.map_cons, List.map_nil, List.length_cons, List.length_nil, Int.reduceAdd]
      refine areg_im [79] 18 (by kernel_rfl) (by kernel_rfl) ?_
      simp -implicitDefEqProofs only [push_cast, Nat.reduceAdd, Nat.reduceSub, Nat.reduceMul, Nat.reduceLT, Nat.reduceLeDiff, Nat.reduceEqDiff, Nat.reduceBEq, reduceCtorEq, reduceIte, Int.reduceLE, Int.reduceLT, Int.reduceNeg, Int.reduceToNat, encQ, Int.reduceEq, if_false, if_true, or_true, or_false, true_or, false_or, List.map_cons, List.map_nil, List.length_cons, List.length_nil, Int.reduceAdd]
      refine ahdq hx ?_
      simp -implicitDefEqProofs only [push_cast, Nat.reduceAdd, Nat.reduceSub, Nat.reduceMul, Nat.reduceLT, Nat.reduceLeDiff, Nat.reduceEqDiff, Nat.reduceBEq, reduceCtorEq, reduceIte, Int.reduceLE, Int.reduceLT, Int.reduceNeg, Int.reduceToNat, encQ, Int.reduceEq, if_false, if_true, or_true, or_false, true_or, false_or, List.map_cons, List.map_nil, List.length_cons, List.length_nil, Int.reduceAdd]
      refine ahdq hy ?_
      simp -implicitDefEqProofs only [push_cast, Nat.reduceAdd, Nat.reduceSub, Nat.reduceMul, Nat.reduceLT, Nat.reduceLeDiff, Nat.reduceEqDiff, Nat.reduceBEq, reduceCtorEq, reduceIte, Int.reduceLE, Int.reduceLT, Int.reduceNeg, Int.reduceToNat, encQ, Int.reduceEq, if_false, if_true, or_true, or_false, true_or, false_or, List.map_cons, List.map_nil, List.length_cons, List.length_nil, Int.reduceAdd]
      refine ahdq hA ?_
      simp -implicitDefEqProofs only [push_cast, Nat.reduceAdd, Nat.reduceSub, Nat.reduceMul, Nat.reduceLT, Nat.reduceLeDiff, Nat.reduceEqDiff, Nat.reduceBEq, reduceCtorEq, reduceIte, Int.reduceLE, Int.reduceLT, Int.reduceNeg, Int.reduceToNat, encQ, Int.reduceEq, if_false, if_true, or_true, or_false, true_or, false_or, List.map_cons, List.map_nil, List.length_cons, List.length_nil, Int.reduceAdd]
theorem MayPR_ok (c : List Df) (hcl : c.length ≤ 1000000) (q : Qy) (hq : q.Ok) (hqi : q.In) (p : Pl) (hok : p.Ok) : Quiet Go.Proofs.Tryz.prog 36 [.agg [.sl (c.map encD)], .agg (encQ q), .agg (encPl p)] (.bool (mayP c q p)) := by
  have hT := TreeR_ok p hok
  have hM := MayRQ_ok c hcl q hq hqi
  refine quiet_of (rs := #[.tmp 6]) Go.Proofs.Tryz.func36 rfl rfl rfl mixed rfl rfl fun H hs => ?_
  simp -implicitDefEqProofs only [push_cast, Nat.reduceAdd, Nat.reduceSub, Nat.reduceMul, Nat.reduceLT, Nat.reduceLeDiff, Nat.reduceEqDiff, Nat.reduceBEq, reduceCtorEq, reduceIte, Int.reduceLE, Int.reduceLT, Int.reduceNeg, Int.reduceToNat, encQ]
  refine callq hT ?_
  simp -implicitDefEqProofs only [push_cast, Nat.reduceAdd, Nat.reduceSub, Nat.reduceMul, Nat.reduceLT, Nat.reduceLeDiff, Nat.reduceEqDiff, Nat.reduceBEq, reduceCtorEq, reduceIte, Int.reduceLE, Int.reduceLT, Int.reduceNeg, Int.reduceToNat, encQ]
  refine callq hM ?_
  unfold mayP
  cases ht : p.tree.2
  · simp -implicitDefEqProofs only [push_cast, Nat.reduceAdd, Nat.reduceSub, Nat.reduceMul, Nat.reduceLT, Nat.reduceLeDiff, Nat.reduceEqDiff, Nat.reduceBEq, reduceCtorEq, reduceIte, Int.reduceLE, Int.reduceLT, Int.reduceNeg, Int.reduceToNat, encQ, Bool.false_and, Bool.false_eq_true, if_false]
  cases hm : q.may c
  · simp -implicitDefEqProofs only [push_cast, Nat.reduceAdd, Nat.reduceSub, Nat.reduceMul, Nat.reduceLT, Nat.reduceLeDiff, Nat.reduceEqDiff, Nat.reduceBEq, reduceCtorEq, reduceIte, Int.reduceLE, Int.reduceLT, Int.reduceNeg, Int.reduceToNat, encQ, Bool.false_and, Bool.and_false, Bool.false_eq_true, if_false]
  have hfm : p.few = true ∧ (treeP p).may = true := by rw [tree_iff, Bool.and_eq_true] at ht; exact ht
  have hF := fitsR_ok c hcl q hq hqi p hok hfm.1 hfm.2
  have hL := LeavesR_ok (treeP p) (treeP_ok p)
  have h4 : q.occ.length ≤ 4 := (may_split hm).2.2.1
  have hb := set_below hfm.2 q.occ.length h4
  have hl16 := lvsT_len 4 (treeP p) (by omega)
  rw [tree_1 ht]
  simp -implicitDefEqProofs only [push_cast, Nat.reduceAdd, Nat.reduceSub, Nat.reduceMul, Nat.reduceLT, Nat.reduceLeDiff, Nat.reduceEqDiff, Nat.reduceBEq, reduceCtorEq, reduceIte, Int.reduceLE, Int.reduceLT, Int.reduceNeg, Int.reduceToNat, encQ, Bool.true_and]
  refine callq hL ?_
  simp -implicitDefEqProofs only [push_cast, Nat.reduceAdd, Nat.reduceSub, Nat.reduceMul, Nat.reduceLT, Nat.reduceLeDiff, Nat.reduceEqDiff, Nat.reduceBEq, reduceCtorEq, reduceIte, Int.reduceLE, Int.reduceLT, Int.reduceNeg, Int.reduceToNat, encQ]
  generalize (lvsT 4 (treeP p)).1 = lv at hb hl16 ⊢
  refine loop_at hs (σ := Nat) (fun i => i ≤ lv.length ∧ ∀ (j : Nat) (h : j < lv.length), j < i → lv[j] < q.occ.length) (fun i => lv.length - i)
    (fun i => [(11, .int i), (10, .sl (lv.map encI)), (3, .ptr (H.nxt + 0) 1 0 0), (4, .ptr (H.nxt + 1) 6 0 0), (5, .ptr (H.nxt + 2) 5 0 0)]) (fun i => [some (.cells 1 [[.sl (c.map encD)]] 0), some (.cells 6 [encQ q] 0), some (.cells 5 [encPl p] 0)]) [some 0, some 1, some 2] 0 ⟨by omega, fun j _ h => by omega⟩ rfl ?_ ?_ ?_
  · (try simp -implicitDefEqProofs only [push_cast, Nat.reduceAdd, Nat.reduceSub, Nat.reduceMul, Nat.reduceLT, Nat.reduceLeDiff, Nat.reduceEqDiff, Nat.reduceBEq, reduceCtorEq, reduceIte, Int.reduceLE, Int.reduceLT, Int.reduceNeg, Int.reduceToNat, encDs_pure, encEs_pure, encIs_pure, encQ])
  · (try simp -implicitDefEqProofs only [push_cast, Nat.reduceAdd, Nat.reduceSub, Nat.reduceMul, Nat.reduceLT, Nat.reduceLeDiff, Nat.reduceEqDiff, Nat.reduceBEq, reduceCtorEq, reduceIte, Int.reduceLE, Int.reduceLT, Int.reduceNeg, Int.reduceToNat, encDs_pure, encEs_pure, encIs_pure, encQ])
  rintro i ⟨hi2, hai⟩
  by_cases hi : i < lv.length
  · have hi' : ((i : Int) < (lv.length : Int)) = True := by simp; omega
    have hi0 : (0 ≤ (i : Int)) = True := by simp
    simp -implicitDefEqProofs only [push_cast, Nat.reduceAdd, Nat.reduceSub, Nat.reduceMul, Nat.reduceLT, Nat.reduceLeDiff, Nat.reduceEqDiff, Nat.reduceBEq, reduceCtorEq, reduceIte, Int.reduceLE, Int.reduceLT, Int.reduceNeg, Int.reduceToNat, hi', hi0, encIs_get lv i hi, encI, encQ]
    refine areg_at 8 (by kernel_rfl) (by kernel_rfl) ?_
    simp -implicitDefEqProofs only [push_cast, Nat.reduceAdd, Nat.reduceSub, Nat.reduceMul, Nat.reduceLT, Nat.reduceLeDiff, Nat.reduceEqDiff, Nat.reduceBEq, reduceCtorEq, reduceIte, Int.reduceLE, Int.reduceLT, Int.reduceNeg, Int.reduceToNat, hi', hi0, encIs_get lv i hi, encI, encQ]
    refine ⟨fun h => ?_, fun h => ?_⟩
    · have hn : ¬ (treeP p).set < 2 ^ q.occ.length := fun h2 => by have := hb.1 h2 lv[i] (List.getElem_mem hi); omega
      rw [decide_eq_false hn]
      try rfl
    · rw [wrap64 (n := (i : Int) + 1) (by omega) (by omega)]
      refine next_at [some 0, some 1, some 2] (i + 1) ⟨by omega, fun j hj hji => ?_⟩ (by omega) rfl ?_ ?_
      · rcases Nat.lt_or_ge j i with h4 | h4
        · exact hai j hj h4
        · obtain rfl : j = i := by omega
          omega
      · (try simp -implicitDefEqProofs only [push_cast, Nat.reduceAdd, Nat.reduceSub, Nat.reduceMul, Nat.reduceLT, Nat.reduceLeDiff, Nat.reduceEqDiff, Nat.reduceBEq, reduceCtorEq, reduceIte, Int.reduceLE, Int.reduceLT, Int.reduceNeg, Int.reduceToNat, encDs_pure, encEs_pure, encIs_pure, encQ])
      · (try simp -implicitDefEqProofs only [push_cast, Nat.reduceAdd, Nat.reduceSub, Nat.reduceMul, Nat.reduceLT, Nat.reduceLeDiff, Nat.reduceEqDiff, Nat.reduceBEq, reduceCtorEq, reduceIte, Int.reduceLE, Int.reduceLT, Int.reduceNeg, Int.reduceToNat, encDs_pure, encEs_pure, encIs_pure, encQ])
  · have hi' : ((i : Int) < (lv.length : Int)) = False := by simp; omega
    have hy : (treeP p).set < 2 ^ q.occ.length := hb.2 fun o ho => by
      obtain ⟨j, hj, rfl⟩ := List.getElem_of_mem ho
      exact hai j hj (by omega)
    rw [decide_eq_true hy]
    simp -implicitDefEqProofs only [push_cast, Nat.reduceAdd, Nat.reduceSub, Nat.reduceMul, Nat.reduceLT, Nat.reduceLeDiff, Nat.reduceEqDiff, Nat.reduceBEq, reduceCtorEq, reduceIte, Int.reduceLE, Int.reduceLT, Int.reduceNeg, Int.reduceToNat, hi', encQ, Bool.true_and]
    refine callq hF ?_
    simp -implicitDefEqProofs only [push_cast, Nat.reduceAdd, Nat.reduceSub, Nat.reduceMul, Nat.reduceLT, Nat.reduceLeDiff, Nat.reduceEqDiff, Nat.reduceBEq, reduceCtorEq, reduceIte, Int.reduceLE, Int.reduceLT, Int.reduceNeg, Int.reduceToNat, encQ]
theorem CostR_ok (c : List Df) (hcl : c.length ≤ 1000000) (q : Qy) (hq : q.Ok) (hqi : q.In) (p : Pl) (hok : p.Ok) : Quiet Go.Proofs.Tryz.prog 37 [.agg [.sl (c.map encD)], .agg (encQ q), .agg (encPl p)] (.int (costP c q p)) := by
  have hM := MayPR_ok c hcl q hq hqi p hok
  unfold costP
  refine quiet_of (rs := #[.tmp 6]) Go.Proofs.Tryz.func37 rfl rfl rfl mixed rfl rfl fun H hs => ?_
  simp -implicitDefEqProofs only [push_cast, Nat.reduceAdd, Nat.reduceSub, Nat.reduceMul, Nat.reduceLT, Nat.reduceLeDiff, Nat.reduceEqDiff, Nat.reduceBEq, reduceCtorEq, reduceIte, Int.reduceLE, Int.reduceLT, Int.reduceNeg, Int.reduceToNat, encQ]
  refine callq hM ?_
  cases hm : mayP c q p
  · simp -implicitDefEqProofs only [push_cast, Nat.reduceAdd, Nat.reduceSub, Nat.reduceMul, Nat.reduceLT, Nat.reduceLeDiff, Nat.reduceEqDiff, Nat.reduceBEq, reduceCtorEq, reduceIte, Int.reduceLE, Int.reduceLT, Int.reduceNeg, Int.reduceToNat, encQ, Bool.false_eq_true, if_false, capK]
  · have hfm : p.few = true ∧ (treeP p).may = true := by
      unfold mayP at hm
      simp only [Bool.and_eq_true] at hm
      have := hm.1.1.1
      rw [tree_iff, Bool.and_eq_true] at this
      exact this
    have hC := costsR_ok c hcl q hq hqi p hok hfm.1 hfm.2
    rw [cost_tree hfm.1]
    simp -implicitDefEqProofs only [push_cast, Nat.reduceAdd, Nat.reduceSub, Nat.reduceMul, Nat.reduceLT, Nat.reduceLeDiff, Nat.reduceEqDiff, Nat.reduceBEq, reduceCtorEq, reduceIte, Int.reduceLE, Int.reduceLT, Int.reduceNeg, Int.reduceToNat, encQ, if_true]
    refine callq hC ?_
    simp -implicitDefEqProofs only [push_cast, Nat.reduceAdd, Nat.reduceSub, Nat.reduceMul, Nat.reduceLT, Nat.reduceLeDiff, Nat.reduceEqDiff, Nat.reduceBEq, reduceCtorEq, reduceIte, Int.reduceLE, Int.reduceLT, Int.reduceNeg, Int.reduceToNat, encQ]
end
section
set_option linter.unusedSimpArgs false
set_option linter.unusedVariables false
set_option maxRecDepth 100000
attribute [local push_cast] encPl_mk encPl_take encPl_len encPl_one encPls_pure encPl_pure encT_pure encT_len encT_one encT_take

theorem indexP_ok (l : List (Int × Int)) (hl : l.length ≤ 140737488355328) (a b : Int) : Quiet Go.Proofs.Tryz.prog 166 [.sl (l.map encP), .agg [.int a, .int b]] (.int (idx (fun p => decide (a = p.1) && decide (b = p.2)) l)) := by
  refine quiet_of (rs := #[.tmp 4]) Go.Proofs.Tryz.func166 rfl rfl rfl mixed rfl rfl fun H hs => ?_
  simp -implicitDefEqProofs only [push_cast, Nat.reduceAdd, Nat.reduceSub, Nat.reduceMul, Nat.reduceLT, Nat.reduceLeDiff, Nat.reduceEqDiff, Nat.reduceBEq, reduceCtorEq, reduceIte, Int.reduceLE, Int.reduceLT, Int.reduceNeg, Int.reduceToNat]
  refine loop_at hs (σ := Nat) (fun i => i ≤ l.length ∧ ∀ (j : Nat) (h : j < l.length), j < i → (decide (a = l[j].1) && decide (b = l[j].2)) = false) (fun i => l.length - i)
    (fun i => [(0, .sl (l.map encP)), (3, .ptr (H.nxt + 0) 2 0 0), (7, .int l.length), (8, .int i)]) (fun i => [some (.cells 2 [[.int a, .int b]] 0)]) [some 0] 0 ⟨by omega, fun j _ h => by omega⟩ rfl ?_ ?_ ?_
  · (try simp -implicitDefEqProofs only [push_cast, Nat.reduceAdd, Nat.reduceSub, Nat.reduceMul, Nat.reduceLT, Nat.reduceLeDiff, Nat.reduceEqDiff, Nat.reduceBEq, reduceCtorEq, reduceIte, Int.reduceLE, Int.reduceLT, Int.reduceNeg, Int.reduceToNat, rowP_pure])
  · (try simp -implicitDefEqProofs only [push_cast, Nat.reduceAdd, Nat.reduceSub, Nat.reduceMul, Nat.reduceLT, Nat.reduceLeDiff, Nat.reduceEqDiff, Nat.reduceBEq, reduceCtorEq, reduceIte, Int.reduceLE, Int.reduceLT, Int.reduceNeg, Int.reduceToNat])
  rintro i ⟨h2, h3⟩
  by_cases hi : i < l.length
  · have hi' : ((i : Int) < (l.length : Int)) = True := by simp; omega
    have hi0 : (0 ≤ (i : Int)) = True := by simp
    have hps := encPs_get l i hi
    rw [encP] at hps
    simp -implicitDefEqProofs only [push_cast, Nat.reduceAdd, Nat.reduceSub, Nat.reduceMul, Nat.reduceLT, Nat.reduceLeDiff, Nat.reduceEqDiff, Nat.reduceBEq, reduceCtorEq, reduceIte, Int.reduceLE, Int.reduceLT, Int.reduceNeg, Int.reduceToNat, hi', hi0]
    refine areg_at 6 (by kernel_rfl) (by kernel_rfl) ?_
    simp -implicitDefEqProofs only [push_cast, Nat.reduceAdd, Nat.reduceSub, Nat.reduceMul, Nat.reduceLT, Nat.reduceLeDiff, Nat.reduceEqDiff, Nat.reduceBEq, reduceCtorEq, reduceIte, Int.reduceLE, Int.reduceLT, Int.reduceNeg, Int.reduceToNat, hi', hi0, hps, lits, cellsEq, cellEq, cmpPl]
    refine ⟨fun h => ?_, fun h => ?_⟩
    · exact (idx_hit (p := fun p : Int × Int => decide (a = p.1) && decide (b = p.2)) hi h3 h).symm
    · rw [wrap64 (n := (i : Int) + 1) (by omega) (by omega)]
      refine next_at [some 0] (i + 1) ⟨by omega, fun j hj hji => ?_⟩ (by omega) rfl ?_ ?_
      · rcases Nat.lt_or_ge j i with h4 | h4
        · exact h3 j hj h4
        · obtain rfl : j = i := by omega
          exact h
      · (try simp -implicitDefEqProofs only [push_cast, Nat.reduceAdd, Nat.reduceSub, Nat.reduceMul, Nat.reduceLT, Nat.reduceLeDiff, Nat.reduceEqDiff, Nat.reduceBEq, reduceCtorEq, reduceIte, Int.reduceLE, Int.reduceLT, Int.reduceNeg, Int.reduceToNat, rowP_pure])
      · (try simp -implicitDefEqProofs only [push_cast, Nat.reduceAdd, Nat.reduceSub, Nat.reduceMul, Nat.reduceLT, Nat.reduceLeDiff, Nat.reduceEqDiff, Nat.reduceBEq, reduceCtorEq, reduceIte, Int.reduceLE, Int.reduceLT, Int.reduceNeg, Int.reduceToNat])
  · have hi' : ((i : Int) < (l.length : Int)) = False := by simp; omega
    simp -implicitDefEqProofs only [push_cast, Nat.reduceAdd, Nat.reduceSub, Nat.reduceMul, Nat.reduceLT, Nat.reduceLeDiff, Nat.reduceEqDiff, Nat.reduceBEq, reduceCtorEq, reduceIte, Int.reduceLE, Int.reduceLT, Int.reduceNeg, Int.reduceToNat, hi']
    exact (idx_miss (p := fun p : Int × Int => decide (a = p.1) && decide (b = p.2)) fun j hj => h3 j hj (by omega)).symm
theorem any_pair (l : List (Int × Int)) (a b : Int) : l.any (fun p => decide (a = p.1) && decide (b = p.2)) = l.contains (a, b) := by
  induction l with
  | nil => rfl
  | cons p l ih =>
    rw [List.any_cons, List.contains_cons, ih]
    congr 1
theorem containsP_ok (l : List (Int × Int)) (hl : l.length ≤ 1000000) (a b : Int) : Quiet Go.Proofs.Tryz.prog 122 [.sl (l.map encP), .agg [.int a, .int b]] (.bool (l.contains (a, b))) := by
  rw [← any_pair]
  refine quiet_of (rs := #[.tmp 4]) Go.Proofs.Tryz.func122 rfl rfl rfl mixed rfl rfl fun H hs => ?_
  simp -implicitDefEqProofs only [push_cast, Nat.reduceAdd, Nat.reduceSub, Nat.reduceMul, Nat.reduceLT, Nat.reduceLeDiff, Nat.reduceEqDiff, Nat.reduceBEq, reduceCtorEq, reduceIte, Int.reduceLE, Int.reduceLT, Int.reduceNeg, Int.reduceToNat]
  refine callq (indexP_ok l (by omega) a b) ?_
  simp -implicitDefEqProofs only [push_cast, Nat.reduceAdd, Nat.reduceSub, Nat.reduceMul, Nat.reduceLT, Nat.reduceLeDiff, Nat.reduceEqDiff, Nat.reduceBEq, reduceCtorEq, reduceIte, Int.reduceLE, Int.reduceLT, Int.reduceNeg, Int.reduceToNat, idx_nonneg]
def Pl.good (p : Pl) : Prop := p.Ok ∧ p.few = true ∧ (treeP p).may = true
theorem good_part {op occ a b : Int} {l : List Pl} (h : Pl.good (.mk op occ a b l)) : ∀ x ∈ l, Pl.good x := by
  obtain ⟨⟨hl, hlo⟩, hf, hm⟩ := h
  exact fun x hx => ⟨hlo x hx, few_part hf hx, part_may (few_own hf) hm x hx⟩
set_option maxHeartbeats 4000000 in
theorem fits_ok (c : List Df) (hcl : c.length ≤ 1000000) (q : Qy) (hq : q.Ok) (p : Pl) (hp : Pl.good p) : Quiet Go.Proofs.Tryz.prog 64 [.agg (encPl p), .agg [.sl (c.map encD)], .agg (encQ q)] (.bool (fitP c q p)) := by
  obtain ⟨op, occ, a, b, l⟩ := p
  have hsub := good_part hp
  have hSp := partSet_ok _ (few_forms hp.2.1)
  rcases form_split (few_own hp.2.1) with ⟨rfl, rfl⟩ | ⟨rfl, x, rfl⟩ | ⟨hop, x, y, rfl⟩
  · refine quiet_of (rs := #[.tmp 6]) Go.Proofs.Tryz.func64 rfl rfl rfl mixed rfl rfl fun H hs => ?_
    simp -implicitDefEqProofs only [push_cast, Nat.reduceAdd, Nat.reduceSub, Nat.reduceMul, Nat.reduceLT, Nat.reduceLeDiff, Nat.reduceEqDiff, Nat.reduceBEq, reduceCtorEq, reduceIte, Int.reduceLE, Int.reduceLT, Int.reduceNeg, Int.reduceToNat, encQ, Int.reduceEq, if_false, if_true, or_true, or_false, true_or, false_or, List.map_cons, List.map_nil, List.length_cons, List.length_nil, Int.reduceAdd]
    try rfl
  · have hv : fitP c q (.mk 4 occ a b [x]) = (q.cols c (treeP (.mk 4 occ a b [x])).set).contains a := by rw [treeP]; rfl
    have hcl2 : (q.cols c (treeP (.mk 4 occ a b [x])).set).length ≤ 1000000 := by
      unfold Qy.cols
      split
      · have := colsIn_le c q (bitI (treeP (.mk 4 occ a b [x])).set); omega
      · simp
    rw [hv]
    refine quiet_of (rs := #[.tmp 6]) Go.Proofs.Tryz.func64 rfl rfl rfl mixed rfl rfl fun H hs => ?_
    rw [encPl_mk] at hSp
    simp -implicitDefEqProofs only [push_cast, Nat.reduceAdd, Nat.reduceSub, Nat.reduceMul, Nat.reduceLT, Nat.reduceLeDiff, Nat.reduceEqDiff, Nat.reduceBEq, reduceCtorEq, reduceIte, Int.reduceLE, Int.reduceLT, Int.reduceNeg, Int.reduceToNat, encQ, Int.reduceEq, if_false, if_true, or_true, or_false, true_or, false_or, List.map_cons, List.map_nil, List.length_cons, List.length_nil, Int.reduceAdd]
    refine areg_at 11 (by kernel_rfl) (by kernel_rfl) ?_
    simp -implicitDefEqProofs only [push_cast, Nat.reduceAdd, Nat.reduceSub, Nat.reduceMul, Nat.reduceLT, Nat.reduceLeDiff, Nat.reduceEqDiff, Nat.reduceBEq, reduceCtorEq, reduceIte, Int.reduceLE, Int.reduceLT, Int.reduceNeg, Int.reduceToNat, encQ, Int.reduceEq, if_false, if_true, or_true, or_false, true_or, false_or, List.map_cons, List.map_nil, List.length_cons, List.length_nil, Int.reduceAdd]
    refine ahdq hSp ?_
    simp -implicitDefEqProofs only [push_cast, Nat.reduceAdd, Nat.reduceSub, Nat.reduceMul, Nat.reduceLT, Nat.reduceLeDiff, Nat.reduceEqDiff, Nat.reduceBEq, reduceCtorEq, reduceIte, Int.reduceLE, Int.reduceLT, Int.reduceNeg, Int.reduceToNat, encQ, Int.reduceEq, if_false, if_true, or_true, or_false, true_or, false_or, List.map_cons, List.map_nil, List.length_cons, List.length_nil, Int.reduceAdd]
    refine ahdq (ColsQ_ok c hcl q hq _) ?_
    simp -implicitDefEqProofs only [push_cast, Nat.reduceAdd, Nat.reduceSub, Nat.reduceMul, Nat.reduceLT, Nat.reduceLeDiff, Nat.reduceEqDiff, Nat.reduceBEq, reduceCtorEq, reduceIte, Int.reduceLE, Int.reduceLT, Int.reduceNeg, Int.reduceToNat, encQ, Int.reduceEq, if_false, if_true, or_true, or_false, true_or, false_or, List.map_cons, List.map_nil, List.length_cons, List.length_nil, Int.reduceAdd]
    refine ahdq (containsI_ok _ hcl2 a) ?_
    simp -implicitDefEqProofs only [push_cast, Nat.reduceAdd, Nat.reduceSub, Nat.reduceMul, Nat.reduceLT, Nat.reduceLeDiff, Nat.reduceEqDiff, Nat.reduceBEq, reduceCtorEq, reduceIte, Int.reduceLE, Int.reduceLT, Int.reduceNeg, Int.reduceToNat, encQ, Int.reduceEq, if_false, if_true, or_true, or_false, true_or, false_or, List.map_cons, List.map_nil, List.length_cons, List.length_nil, Int.reduceAdd]
  · have hx := hsub x (by simp)
    have hy := hsub y (by simp)
    have hSx := partSet_ok x (few_forms hx.2.1)
    have hSy := partSet_ok y (few_forms hy.2.1)
    have hOx := Order_ok x hx.1
    have hOy := Order_ok y hy.1
    have hg0 : ∀ z : List AV, ([x, y].map encPl).getD 0 z = encPl x := fun _ => rfl
    have hg1 : ∀ z : List AV, ([x, y].map encPl).getD 1 z = encPl y := fun _ => rfl
    have hv : fitP c q (.mk op occ a b [x, y]) = (if op = 1 then true else (q.pairs (treeP x).set (treeP y).set).contains (a, b) && (decide (op = 2) || (decide (x.order = a) && decide (y.order = b)))) := rfl
    rw [hv]
    have hple := pairs_le q hq (treeP x).set (treeP y).set
    have hP := Pairs_ok q hq (treeP x).set (treeP y).set
    generalize q.pairs (treeP x).set (treeP y).set = ps at hple hP ⊢
    refine quiet_of (rs := #[.tmp 6]) Go.Proofs.Tryz.func64 rfl rfl rfl mixed rfl rfl fun H hs => ?_
    rcases hop with rfl | rfl | rfl
    · simp -implicitDefEqProofs only [push_cast, Nat.reduceAdd, Nat.reduceSub, Nat.reduceMul, Nat.reduceLT, Nat.reduceLeDiff, Nat.reduceEqDiff, Nat.reduceBEq, reduceCtorEq, reduceIte, Int.reduceLE, Int.reduceLT, Int.reduceNeg, Int.reduceToNat, encQ, Int.reduceEq, if_false, if_true, or_true, or_false, true_or, false_or, List.map_cons, List.map_nil, List.length_cons, List.length_nil, Int.reduceAdd]
    · simp -implicitDefEqProofs only [push_cast, Nat.reduceAdd, Nat.reduceSub, Nat.reduceMul, Nat.reduceLT, Nat.reduceLeDiff, Nat.reduceEqDiff, Nat.reduceBEq, reduceCtorEq, reduceIte, Int.reduceLE, Int.reduceLT, Int.reduceNeg, Int.reduceToNat, encQ, Int.reduceEq, if_false, if_true, or_true, or_false, true_or, false_or, List.map_cons, List.map_nil, List.length_cons, List.length_nil, Int.reduceAdd]
      refine areg_at 16 (by kernel_rfl) (by kernel_rfl) ?_
      simp -implicitDefEqProofs only [push_cast, Nat.reduceAdd, Nat.reduceSub, Nat.reduceMul, Nat.reduceLT, Nat.reduceLeDiff, Nat.reduceEqDiff, Nat.reduceBEq, reduceCtorEq, reduceIte, Int.reduceLE, Int.reduceLT, Int.reduceNeg, Int.reduceToNat, encQ, Int.reduceEq, if_false, if_true, or_true, or_false, true_or, false_or, List.map_cons, List.map_nil, List.length_cons, List.length_nil, Int.reduceAdd]
      refine areg_at 11 (by kernel_rfl) (by kernel_rfl) ?_
      simp -implicitDefEqProofs only [push_cast, Nat.reduceAdd, Nat.reduceSub, Nat.reduceMul, Nat.reduceLT, Nat.reduceLeDiff, Nat.reduceEqDiff, Nat.reduceBEq, reduceCtorEq, reduceIte, Int.reduceLE, Int.reduceLT, Int.reduceNeg, Int.reduceToNat, encQ, Int.reduceEq, if_false, if_true, or_true, or_false, true_or, false_or, List.map_cons, List.map_nil, List.length_cons, List.length_nil, Int.reduceAdd]
      refine ahdq hSx ?_
      simp -implicitDefEqProofs only [push_cast, Nat.reduceAdd, Nat.reduceSub, Nat.reduceMul, Nat.reduceLT, Nat.reduceLeDiff, Nat.reduceEqDiff, Nat.reduceBEq, reduceCtorEq, reduceIte, Int.reduceLE, Int.reduceLT, Int.reduceNeg, Int.reduceToNat, encQ, Int.reduceEq, if_false, if_true, or_true, or_false, true_or, false_or, List.map_cons, List.map_nil, List.length_cons, List.length_nil, Int.reduceAdd]
      refine ahdq hSy ?_
      simp -implicitDefEqProofs only [push_cast, Nat.reduceAdd, Nat.reduceSub, Nat.reduceMul, Nat.reduceLT, Nat.reduceLeDiff, Nat.reduceEqDiff, Nat.reduceBEq, reduceCtorEq, reduceIte, Int.reduceLE, Int.reduceLT, Int.reduceNeg, Int.reduceToNat, encQ, Int.reduceEq, if_false, if_true, or_true, or_false, true_or, false_or, List.map_cons, List.map_nil, List.length_cons, List.length_nil, Int.reduceAdd]
      refine ahdq hP ?_
      simp -implicitDefEqProofs only [push_cast, Nat.reduceAdd, Nat.reduceSub, Nat.reduceMul, Nat.reduceLT, Nat.reduceLeDiff, Nat.reduceEqDiff, Nat.reduceBEq, reduceCtorEq, reduceIte, Int.reduceLE, Int.reduceLT, Int.reduceNeg, Int.reduceToNat, encQ, Int.reduceEq, if_false, if_true, or_true, or_false, true_or, false_or, List.map_cons, List.map_nil, List.length_cons, List.length_nil, Int.reduceAdd]
      refine ahdq (containsP_ok ps hple a b) ?_
      simp -implicitDefEqProofs only [push_cast, Nat.reduceAdd, Nat.reduceSub, Nat.reduceMul, Nat.reduceLT, Nat.reduceLeDiff, Nat.reduceEqDiff, Nat.reduceBEq, reduceCtorEq, reduceIte, Int.reduceLE, Int.reduceLT, Int.reduceNeg, Int.reduceToNat, encQ, Int.reduceEq, if_false, if_true, or_true, or_false, true_or, false_or, List.map_cons, List.map_nil, List.length_cons, List.length_nil, Int.reduceAdd]
      refine areg_at 28 (by kernel_rfl) (by kernel_rfl) ?_
      simp -implicitDefEqProofs only [push_cast, Nat.reduceAdd, Nat.reduceSub, Nat.reduceMul, Nat.reduceLT, Nat.reduceLeDiff, Nat.reduceEqDiff, Nat.reduceBEq, reduceCtorEq, reduceIte, Int.reduceLE, Int.reduceLT, Int.reduceNeg, Int.reduceToNat, encQ, Int.reduceEq, if_false, if_true, or_true, or_false, true_or, false_or, List.map_cons, List.map_nil, List.length_cons, List.length_nil, Int.reduceAdd]
      refine gcallq (.int x.order) (fun _ => hOx) ?_
      simp -implicitDefEqProofs only [push_cast, Nat.reduceAdd, Nat.reduceSub, Nat.reduceMul, Nat.reduceLT, Nat.reduceLeDiff, Nat.reduceEqDiff, Nat.reduceBEq, reduceCtorEq, reduceIte, Int.reduceLE, Int.reduceLT, Int.reduceNeg, Int.reduceToNat, encQ, Int.reduceEq, if_false, if_true, or_true, or_false, true_or, false_or, List.map_cons, List.map_nil, List.length_cons, List.length_nil, Int.reduceAdd]
      refine gcallq (.int y.order) (fun _ => hOy) ?_
      simp -implicitDefEqProofs only [push_cast, Nat.reduceAdd, Nat.reduceSub, Nat.reduceMul, Nat.reduceLT, Nat.reduceLeDiff, Nat.reduceEqDiff, Nat.reduceBEq, reduceCtorEq, reduceIte, Int.reduceLE, Int.reduceLT, Int.reduceNeg, Int.reduceToNat, encQ, Int.reduceEq, if_false, if_true, or_true, or_false, true_or, false_or, List.map_cons, List.map_nil, List.length_cons, List.length_nil, Int.reduceAdd]
    · simp -implicitDefEqProofs only [push_cast, Nat.reduceAdd, Nat.reduceSub, Nat.reduceMul, Nat.reduceLT, Nat.reduceLeDiff, Nat.reduceEqDiff, Nat.reduceBEq, reduceCtorEq, reduceIte, Int.reduceLE, Int.reduceLT, Int.reduceNeg, Int.reduceToNat, encQ, Int.reduceEq, if_false, if_true, or_true, or_false, true_or, false_or, List.map_cons, List.map_nil, List.length_cons, List.length_nil, Int.reduceAdd]
      refine areg_at 16 (by kernel_rfl) (by kernel_rfl) ?_
      simp -implicitDefEqProofs only [push_cast, Nat.reduceAdd, Nat.reduceSub, Nat.reduceMul, Nat.reduceLT, Nat.reduceLeDiff, Nat.reduceEqDiff, Nat.reduceBEq, reduceCtorEq, reduceIte, Int.reduceLE, Int.reduceLT, Int.reduceNeg, Int.reduceToNat, encQ, Int.reduceEq, if_false, if_true, or_true, or_false, true_or, false_or, List.map_cons, List.map_nil, List.length_cons, List.length_nil, Int.reduceAdd]
      refine areg_at 11 (by kernel_rfl) (by kernel_rfl) ?_
      simp -implicitDefEqProofs only [push_cast, Nat.reduceAdd, Nat.reduceSub, Nat.reduceMul, Nat.reduceLT, Nat.reduceLeDiff, Nat.reduceEqDiff, Nat.reduceBEq, reduceCtorEq, reduceIte, Int.reduceLE, Int.reduceLT, Int.reduceNeg, Int.reduceToNat, encQ, Int.reduceEq, if_false, if_true, or_true, or_false, true_or, false_or, List.map_cons, List.map_nil, List.length_cons, List.length_nil, Int.reduceAdd]
      refine ahdq hSx ?_
      simp -implicitDefEqProofs only [push_cast, Nat.reduceAdd, Nat.reduceSub, Nat.reduceMul, Nat.reduceLT, Nat.reduceLeDiff, Nat.reduceEqDiff, Nat.reduceBEq, reduceCtorEq, reduceIte, Int.reduceLE, Int.reduceLT, Int.reduceNeg, Int.reduceToNat, encQ, Int.reduceEq, if_false, if_true, or_true, or_false, true_or, false_or, List.map_cons, List.map_nil, List.length_cons, List.length_nil, Int.reduceAdd]
      refine ahdq hSy ?_
      simp -implicitDefEqProofs only [push_cast, Nat.reduceAdd, Nat.reduceSub, Nat.reduceMul, Nat.reduceLT, Nat.reduceLeDiff, Nat.reduceEqDiff, Nat.reduceBEq, reduceCtorEq, reduceIte, Int.reduceLE, Int.reduceLT, Int.reduceNeg, Int.reduceToNat, encQ, Int.reduceEq, if_false, if_true, or_true, or_false, true_or, false_or, List.map_cons, List.map_nil, List.length_cons, List.length_nil, Int.reduceAdd]
      refine ahdq hP ?_
      simp -implicitDefEqProofs only [push_cast, Nat.reduceAdd, Nat.reduceSub, Nat.reduceMul, Nat.reduceLT, Nat.reduceLeDiff, Nat.reduceEqDiff, Nat.reduceBEq, reduceCtorEq, reduceIte, Int.reduceLE, Int.reduceLT, Int.reduceNeg, Int.reduceToNat, encQ, Int.reduceEq, if_false, if_true, or_true, or_false, true_or, false_or, List.map_cons, List.map_nil, List.length_cons, List.length_nil, Int.reduceAdd]
      refine ahdq (containsP_ok ps hple a b) ?_
      simp -implicitDefEqProofs only [push_cast, Nat.reduceAdd, Nat.reduceSub, Nat.reduceMul, Nat.reduceLT, Nat.reduceLeDiff, Nat.reduceEqDiff, Nat.reduceBEq, reduceCtorEq, reduceIte, Int.reduceLE, Int.reduceLT, Int.reduceNeg, Int.reduceToNat, encQ, Int.reduceEq, if_false, if_true, or_true, or_false, true_or, false_or, List.map_cons, List.map_nil, List.length_cons, List.length_nil, Int.reduceAdd]
      refine areg_at 28 (by kernel_rfl) (by kernel_rfl) ?_
      simp -implicitDefEqProofs only [push_cast, Nat.reduceAdd, Nat.reduceSub, Nat.reduceMul, Nat.reduceLT, Nat.reduceLeDiff, Nat.reduceEqDiff, Nat.reduceBEq, reduceCtorEq, reduceIte, Int.reduceLE, Int.reduceLT, Int.reduceNeg, Int.reduceToNat, encQ, Int.reduceEq, if_false, if_true, or_true, or_false, true_or, false_or, List.map_cons, List.map_nil, List.length_cons, List.length_nil, Int.reduceAdd]
      refine gcallq (.int x.order) (fun _ => hOx) ?_
      simp -implicitDefEqProofs only [push_cast, Nat.reduceAdd, Nat.reduceSub, Nat.reduceMul, Nat.reduceLT, Nat.reduceLeDiff, Nat.reduceEqDiff, Nat.reduceBEq, reduceCtorEq, reduceIte, Int.reduceLE, Int.reduceLT, Int.reduceNeg, Int.reduceToNat, encQ, Int.reduceEq, if_false, if_true, or_true, or_false, true_or, false_or, List.map_cons, List.map_nil, List.length_cons, List.length_nil, Int.reduceAdd]
      refine gcallq (.int y.order) (fun _ => hOy) ?_
      simp -implicitDefEqProofs only [push_cast, Nat.reduceAdd, Nat.reduceSub, Nat.reduceMul, Nat.reduceLT, Nat.reduceLeDiff, Nat.reduceEqDiff, Nat.reduceBEq, reduceCtorEq, reduceIte, Int.reduceLE, Int.reduceLT, Int.reduceNeg, Int.reduceToNat, encQ, Int.reduceEq, if_false, if_true, or_true, or_false, true_or, false_or, List.map_cons, List.map_nil, List.length_cons, List.length_nil, Int.reduceAdd]
      exact fun h1 h2 => by rw [h1, decide_eq_true h2]; rfl
end
section
set_option linter.unusedSimpArgs false
set_option linter.unusedVariables false
set_option maxRecDepth 100000
attribute [local push_cast] encPl_mk encPl_take encPl_len encPl_one encPls_pure encPl_pure encT_pure encT_len encT_one encT_take

/-- No state. -/
def stNone : St Unit where
  inv _ _ B := B = fun _ => False
  stable := by rintro s H H' B rfl _ _; rfl
  low := by rintro s H B rfl q hq; exact hq.elim
def allStep (f : Pl → Bool) (s : Unit) (p : Pl) : Unit × Bool := ((), f p)
mutual
theorem eachP_all (f : Pl → Bool) : ∀ (p : Pl) (s : Unit), (eachP (allStep f) p s).2 = (parts p).all f
  | .mk op occ a b l, s => by
    rw [eachP, parts_mk, List.all_cons]
    have h := eachPL_all f l ()
    by_cases hf : f (.mk op occ a b l) = true
    · simp only [allStep, hf, if_true, Bool.true_and]; exact h
    · rw [Bool.not_eq_true] at hf
      simp [allStep, hf]
theorem eachPL_all (f : Pl → Bool) : ∀ (l : List Pl) (s : Unit), (eachPL (allStep f) l s).2 = (partsPl l).all f
  | [], s => by rw [eachPL, partsPl]; rfl
  | x :: l, s => by
    rw [eachPL, partsPl_cons, List.all_append, ← eachP_all f x s]
    cases hx : (eachP (allStep f) x s).2
    · simp
    · rw [if_pos rfl, Bool.true_and]; exact eachPL_all f l _
end
def addStep (f : Pl → Int) (s : List Int) (p : Pl) : List Int × Bool := (s ++ [f p], true)
mutual
theorem eachP_add (f : Pl → Int) : ∀ (p : Pl) (s : List Int), eachP (addStep f) p s = (s ++ (parts p).map f, true)
  | .mk op occ a b l, s => by
    rw [eachP, parts_mk, List.map_cons]
    simp only [addStep, if_true]
    have h := eachPL_add f l (s ++ [f (.mk op occ a b l)])
    rw [h, List.append_assoc]
    rfl
theorem eachPL_add (f : Pl → Int) : ∀ (l : List Pl) (s : List Int), eachPL (addStep f) l s = (s ++ (partsPl l).map f, true)
  | [], s => by rw [eachPL, partsPl, List.map_nil, List.append_nil]
  | x :: l, s => by
    rw [eachPL, partsPl_cons, List.map_append, eachP_add f x s]
    simp only [if_true]
    rw [eachPL_add f l, List.append_assoc]
end
mutual
theorem cntP_parts : ∀ p : Pl, cntP p = (parts p).length
  | .mk op occ a b l => by rw [cntP, parts_mk, List.length_cons, cntPL_parts l]; omega
theorem cntPL_parts : ∀ l : List Pl, cntPL l = (partsPl l).length
  | [] => by rw [cntPL, partsPl]; rfl
  | x :: l => by rw [cntPL, partsPl_cons, List.length_append, cntP_parts x, cntPL_parts l]
end
theorem mayPl1_ok (c : List Df) (hcl : c.length ≤ 1000000) (q : Qy) (hq : q.Ok) (p : Pl) (hp : Pl.good p) (s : Unit) (H : AH) (B : Nat → Prop) (hI : stNone.inv s H B) :
    ACalls Go.Proofs.Tryz.prog 63 [.agg (encPl p), .iptr [.sl (c.map encD)], .iptr (encQ q)] H (fun r H' => r = .bool (allStep (fitP c q) s p).2 ∧ Moves stNone (allStep (fitP c q) s p).1 H B H') := by
  have hF := fits_ok c hcl q hq p hp
  obtain ⟨op, occ, a, b, l⟩ := p
  rw [encPl_mk] at hF
  refine acalls_sc (rs := #[.tmp 4]) Go.Proofs.Tryz.func63 rfl rfl rfl mixed rfl (Nat.le_of_ble_eq_true rfl) fun hs _ => ?_
  simp -implicitDefEqProofs only [push_cast, Nat.reduceAdd, Nat.reduceSub, Nat.reduceMul, Nat.reduceLT, Nat.reduceLeDiff, Nat.reduceEqDiff, Nat.reduceBEq, reduceCtorEq, reduceIte, Int.reduceLE, Int.reduceLT, Int.reduceNeg, Int.reduceToNat, encQ]
  refine callq hF ?_
  simp -implicitDefEqProofs only [push_cast, Nat.reduceAdd, Nat.reduceSub, Nat.reduceMul, Nat.reduceLT, Nat.reduceLeDiff, Nat.reduceEqDiff, Nat.reduceBEq, reduceCtorEq, reduceIte, Int.reduceLE, Int.reduceLT, Int.reduceNeg, Int.reduceToNat, encQ]
  exact retk trivial ⟨rfl, Moves.new hI _⟩
theorem mayP_split {c : List Df} {q : Qy} {p : Pl} (h : mayP c q p = true) : q.may c = true ∧ p.tree.2 = true ∧ (p.few = true ∧ (treeP p).may = true) ∧ (treeP p).set < 2 ^ q.occ.length := by
  unfold mayP at h
  simp only [Bool.and_eq_true, decide_eq_true_eq] at h
  obtain ⟨⟨⟨h1, h2⟩, h3⟩, h4⟩ := h
  refine ⟨h2, h1, ?_, h3⟩
  rw [tree_iff, Bool.and_eq_true] at h1
  exact h1
theorem shr_iff {t : Tr} {n : Nat} (hn : n ≤ 4) : ¬ 0 < bshr .i64 t.set n ↔ t.set < 2 ^ n := by
  have hs := t.set_range
  generalize t.set = s at hs ⊢
  obtain ⟨i, rfl⟩ : ∃ i : Fin 16, s = (i.val : Int) := ⟨⟨s.toNat, by omega⟩, by simp; omega⟩
  obtain ⟨j, rfl⟩ : ∃ j : Fin 5, n = j.val := ⟨⟨n, by omega⟩, rfl⟩
  clear hs hn
  revert i j
  decide +kernel
theorem shr_below {t : Tr} {n : Nat} (h : t.set < 2 ^ n) (hn : n ≤ 4) : ¬ 0 < bshr .i64 t.set n := (shr_iff hn).2 h
theorem below_shr {t : Tr} {n : Nat} (h : ¬ 0 < bshr .i64 t.set n) (hn : n ≤ 4) : t.set < 2 ^ n := (shr_iff hn).1 h
theorem MayPl_ok (c : List Df) (hcl : c.length ≤ 1000000) (q : Qy) (hq : q.Ok) (p : Pl) (hok : p.Ok) : Quiet Go.Proofs.Tryz.prog 18 [.agg [.sl (c.map encD)], .agg (encQ q), .agg (encPl p)] (.bool (mayP c q p)) := by
  have hT := Tree_ok p hok
  have hM := MayQ_ok c hcl q hq
  refine quiet_of (rs := #[.tmp 6]) Go.Proofs.Tryz.func18 rfl rfl rfl mixed rfl rfl fun H hs => ?_
  simp -implicitDefEqProofs only [push_cast, Nat.reduceAdd, Nat.reduceSub, Nat.reduceMul, Nat.reduceLT, Nat.reduceLeDiff, Nat.reduceEqDiff, Nat.reduceBEq, reduceCtorEq, reduceIte, Int.reduceLE, Int.reduceLT, Int.reduceNeg, Int.reduceToNat, encQ]
  refine callq hT ?_
  simp -implicitDefEqProofs only [push_cast, Nat.reduceAdd, Nat.reduceSub, Nat.reduceMul, Nat.reduceLT, Nat.reduceLeDiff, Nat.reduceEqDiff, Nat.reduceBEq, reduceCtorEq, reduceIte, Int.reduceLE, Int.reduceLT, Int.reduceNeg, Int.reduceToNat, encQ]
  refine areg_at 17 (by kernel_rfl) (by kernel_rfl) ?_
  simp -implicitDefEqProofs only [push_cast, Nat.reduceAdd, Nat.reduceSub, Nat.reduceMul, Nat.reduceLT, Nat.reduceLeDiff, Nat.reduceEqDiff, Nat.reduceBEq, reduceCtorEq, reduceIte, Int.reduceLE, Int.reduceLT, Int.reduceNeg, Int.reduceToNat, encQ]
  refine gcallq (.bool (q.may c)) (fun _ => hM) ?_
  simp -implicitDefEqProofs only [push_cast, Nat.reduceAdd, Nat.reduceSub, Nat.reduceMul, Nat.reduceLT, Nat.reduceLeDiff, Nat.reduceEqDiff, Nat.reduceBEq, reduceCtorEq, reduceIte, Int.reduceLE, Int.reduceLT, Int.reduceNeg, Int.reduceToNat, encQ]
  refine gcallq (.int p.tree.1.set) (fun _ => SetT_ok _ (tree_ok p)) ?_
  simp -implicitDefEqProofs only [push_cast, Nat.reduceAdd, Nat.reduceSub, Nat.reduceMul, Nat.reduceLT, Nat.reduceLeDiff, Nat.reduceEqDiff, Nat.reduceBEq, reduceCtorEq, reduceIte, Int.reduceLE, Int.reduceLT, Int.reduceNeg, Int.reduceToNat, encQ]
  refine ⟨fun _ => by omega, fun h => ?_, fun h => ?_⟩
  · cases hm : mayP c q p
    · rfl
    have h1 := mayP_split hm
    rw [tree_1 h1.2.1, h1.2.1, h1.1] at h
    have := shr_below h1.2.2.2 (may_split h1.1).2.2.1
    simp only [Bool.not_true, Bool.false_or, decide_eq_true_eq] at h
    exact absurd h this
  simp only [Bool.or_eq_false_iff, Bool.not_eq_false', decide_eq_false_iff_not] at h
  obtain ⟨⟨ht, hm⟩, hb⟩ := h
  have hfm : p.few = true ∧ (treeP p).may = true := by rw [tree_iff, Bool.and_eq_true] at ht; exact ht
  rw [tree_1 ht] at hb
  have hv : mayP c q p = (parts p).all (fitP c q) := by
    rw [mayP, ht, hm, decide_eq_true (below_shr hb (may_split hm).2.2.1)]
    rfl
  rw [hv, ← eachP_all (fitP c q) p ()]
  refine fzk H 0 1 [.agg (encPl p), .clo (.func 63) [] [.iptr [.sl (c.map encD)], .ptr (H.nxt + 1) 6 0 0]] (by rfl) (by omega) (by simp) ?_ ?_
  · (try simp -implicitDefEqProofs only [push_cast, Nat.reduceAdd, Nat.reduceSub, Nat.reduceMul, Nat.reduceLT, Nat.reduceLeDiff, Nat.reduceEqDiff, Nat.reduceBEq, reduceCtorEq, reduceIte, Int.reduceLE, Int.reduceLT, Int.reduceNeg, Int.reduceToNat, encDs_pure])
  refine fzk H 1 1 [.agg (encPl p), .clo (.func 63) [] [.iptr [.sl (c.map encD)], .iptr (encQ q)]] (by rfl) (by omega) (by simp) ?_ ?_
  · (try simp -implicitDefEqProofs only [push_cast, Nat.reduceAdd, Nat.reduceSub, Nat.reduceMul, Nat.reduceLT, Nat.reduceLeDiff, Nat.reduceEqDiff, Nat.reduceBEq, reduceCtorEq, reduceIte, Int.reduceLE, Int.reduceLT, Int.reduceNeg, Int.reduceToNat, encDs_pure, encIs_pure, encEs_pure, encQ])
  refine ((eachQ_ok Pl.good (fun e h => h.1) (fun _ _ _ _ _ h => good_part h) stNone (allStep (fitP c q)) _ [.iptr [.sl (c.map encD)], .iptr (encQ q)] (fun _ => 0) (fun _ _ => by omega) (cntP p) (fun s e H B he _ hI => mayPl1_ok c hcl q hq e he s H B hI) p () _ (fun _ => False) ⟨hok, hfm⟩ (by omega) rfl).hsc).mono ?_
  rintro r H2 ⟨⟨rfl, hm⟩, hsc2, hle2, -⟩
  obtain ⟨l', rfl⟩ := hm.is_plus (fun q hq => hq.elim) hsc2
  simp -implicitDefEqProofs only [push_cast, Nat.reduceAdd, Nat.reduceSub, Nat.reduceMul, Nat.reduceLT, Nat.reduceLeDiff, Nat.reduceEqDiff, Nat.reduceBEq, reduceCtorEq, reduceIte, Int.reduceLE, Int.reduceLT, Int.reduceNeg, Int.reduceToNat]
set_option maxHeartbeats 4000000 in
theorem partCost_ok (c : List Df) (hcl : c.length ≤ 1000000) (q : Qy) (hq : q.Ok) (p : Pl) (hp : Pl.good p) : Quiet Go.Proofs.Tryz.prog 62 [.agg (encPl p), .agg [.sl (c.map encD)], .agg (encQ q)] (.int (ownC c q p)) := by
  obtain ⟨op, occ, a, b, l⟩ := p
  have hsub := good_part hp
  have hSp := partSet_ok _ (few_forms hp.2.1)
  rcases form_split (few_own hp.2.1) with ⟨rfl, rfl⟩ | ⟨rfl, x, rfl⟩ | ⟨hop, x, y, rfl⟩
  · have hlf := leaf_in hp.2.2
    refine quiet_of (rs := #[.tmp 6]) Go.Proofs.Tryz.func62 rfl rfl rfl mixed rfl rfl fun H hs => ?_
    simp -implicitDefEqProofs only [push_cast, Nat.reduceAdd, Nat.reduceSub, Nat.reduceMul, Nat.reduceLT, Nat.reduceLeDiff, Nat.reduceEqDiff, Nat.reduceBEq, reduceCtorEq, reduceIte, Int.reduceLE, Int.reduceLT, Int.reduceNeg, Int.reduceToNat, encQ, Int.reduceEq, if_false, if_true, or_true, or_false, true_or, false_or, List.map_cons, List.map_nil, List.length_cons, List.length_nil, Int.reduceAdd]
    refine callq (Base_ok c hcl q hq occ (by unfold In64; omega)) ?_
    simp -implicitDefEqProofs only [push_cast, Nat.reduceAdd, Nat.reduceSub, Nat.reduceMul, Nat.reduceLT, Nat.reduceLeDiff, Nat.reduceEqDiff, Nat.reduceBEq, reduceCtorEq, reduceIte, Int.reduceLE, Int.reduceLT, Int.reduceNeg, Int.reduceToNat, encQ, Int.reduceEq, if_false, if_true, or_true, or_false, true_or, false_or, List.map_cons, List.map_nil, List.length_cons, List.length_nil, Int.reduceAdd]
    refine callq (ScanK_ok _) ?_
    simp -implicitDefEqProofs only [push_cast, Nat.reduceAdd, Nat.reduceSub, Nat.reduceMul, Nat.reduceLT, Nat.reduceLeDiff, Nat.reduceEqDiff, Nat.reduceBEq, reduceCtorEq, reduceIte, Int.reduceLE, Int.reduceLT, Int.reduceNeg, Int.reduceToNat, encQ, Int.reduceEq, if_false, if_true, or_true, or_false, true_or, false_or, List.map_cons, List.map_nil, List.length_cons, List.length_nil, Int.reduceAdd, ownC]
  · have hv : ownC c q (.mk 4 occ a b [x]) = sortK (rowsQ c q (treeP (.mk 4 occ a b [x])).set) := by rw [treeP]; rfl
    rw [hv]
    rw [encPl_mk] at hSp
    refine quiet_of (rs := #[.tmp 6]) Go.Proofs.Tryz.func62 rfl rfl rfl mixed rfl rfl fun H hs => ?_
    simp -implicitDefEqProofs only [push_cast, Nat.reduceAdd, Nat.reduceSub, Nat.reduceMul, Nat.reduceLT, Nat.reduceLeDiff, Nat.reduceEqDiff, Nat.reduceBEq, reduceCtorEq, reduceIte, Int.reduceLE, Int.reduceLT, Int.reduceNeg, Int.reduceToNat, encQ, Int.reduceEq, if_false, if_true, or_true, or_false, true_or, false_or, List.map_cons, List.map_nil, List.length_cons, List.length_nil, Int.reduceAdd]
    refine areg_at 7 (by kernel_rfl) (by kernel_rfl) ?_
    simp -implicitDefEqProofs only [push_cast, Nat.reduceAdd, Nat.reduceSub, Nat.reduceMul, Nat.reduceLT, Nat.reduceLeDiff, Nat.reduceEqDiff, Nat.reduceBEq, reduceCtorEq, reduceIte, Int.reduceLE, Int.reduceLT, Int.reduceNeg, Int.reduceToNat, encQ, Int.reduceEq, if_false, if_true, or_true, or_false, true_or, false_or, List.map_cons, List.map_nil, List.length_cons, List.length_nil, Int.reduceAdd]
    refine ahdq hSp ?_
    simp -implicitDefEqProofs only [push_cast, Nat.reduceAdd, Nat.reduceSub, Nat.reduceMul, Nat.reduceLT, Nat.reduceLeDiff, Nat.reduceEqDiff, Nat.reduceBEq, reduceCtorEq, reduceIte, Int.reduceLE, Int.reduceLT, Int.reduceNeg, Int.reduceToNat, encQ, Int.reduceEq, if_false, if_true, or_true, or_false, true_or, false_or, List.map_cons, List.map_nil, List.length_cons, List.length_nil, Int.reduceAdd]
    refine ahdq (Rows_ok c hcl q hq _) ?_
    simp -implicitDefEqProofs only [push_cast, Nat.reduceAdd, Nat.reduceSub, Nat.reduceMul, Nat.reduceLT, Nat.reduceLeDiff, Nat.reduceEqDiff, Nat.reduceBEq, reduceCtorEq, reduceIte, Int.reduceLE, Int.reduceLT, Int.reduceNeg, Int.reduceToNat, encQ, Int.reduceEq, if_false, if_true, or_true, or_false, true_or, false_or, List.map_cons, List.map_nil, List.length_cons, List.length_nil, Int.reduceAdd]
    refine ahdq (SortK_ok _) ?_
    simp -implicitDefEqProofs only [push_cast, Nat.reduceAdd, Nat.reduceSub, Nat.reduceMul, Nat.reduceLT, Nat.reduceLeDiff, Nat.reduceEqDiff, Nat.reduceBEq, reduceCtorEq, reduceIte, Int.reduceLE, Int.reduceLT, Int.reduceNeg, Int.reduceToNat, encQ, Int.reduceEq, if_false, if_true, or_true, or_false, true_or, false_or, List.map_cons, List.map_nil, List.length_cons, List.length_nil, Int.reduceAdd]
  · have hx := hsub x (by simp)
    have hy := hsub y (by simp)
    have hSx := partSet_ok x (few_forms hx.2.1)
    have hSy := partSet_ok y (few_forms hy.2.1)
    have hg0 : ∀ z : List AV, ([x, y].map encPl).getD 0 z = encPl x := fun _ => rfl
    have hg1 : ∀ z : List AV, ([x, y].map encPl).getD 1 z = encPl y := fun _ => rfl
    have hPr := prices_ok op
    refine quiet_of (rs := #[.tmp 6]) Go.Proofs.Tryz.func62 rfl rfl rfl mixed rfl rfl fun H hs => ?_
    rcases hop with rfl | rfl | rfl
    · simp -implicitDefEqProofs only [push_cast, Nat.reduceAdd, Nat.reduceSub, Nat.reduceMul, Nat.reduceLT, Nat.reduceLeDiff, Nat.reduceEqDiff, Nat.reduceBEq, reduceCtorEq, reduceIte, Int.reduceLE, Int.reduceLT, Int.reduceNeg, Int.reduceToNat, encQ, Int.reduceEq, if_false, if_true, or_true, or_false, true_or, false_or, List.map_cons, List.map_nil, List.length_cons, List.length_nil, Int.reduceAdd]
      refine areg_at 16 (by kernel_rfl) (by kernel_rfl) ?_
      simp -implicitDefEqProofs only [push_cast, Nat.reduceAdd, Nat.reduceSub, Nat.reduceMul, Nat.reduceLT, Nat.reduceLeDiff, Nat.reduceEqDiff, Nat.reduceBEq, reduceCtorEq, reduceIte, Int.reduceLE, Int.reduceLT, Int.reduceNeg, Int.reduceToNat, encQ, Int.reduceEq, if_false, if_true, or_true, or_false, true_or, false_or, List.map_cons, List.map_nil, List.length_cons, List.length_nil, Int.reduceAdd]
      refine areg_at 17 (by kernel_rfl) (by kernel_rfl) ?_
      simp -implicitDefEqProofs only [push_cast, Nat.reduceAdd, Nat.reduceSub, Nat.reduceMul, Nat.reduceLT, Nat.reduceLeDiff, Nat.reduceEqDiff, Nat.reduceBEq, reduceCtorEq, reduceIte, Int.reduceLE, Int.reduceLT, Int.reduceNeg, Int.reduceToNat, encQ, Int.reduceEq, if_false, if_true, or_true, or_false, true_or, false_or, List.map_cons, List.map_nil, List.length_cons, List.length_nil, Int.reduceAdd]
      refine ahdq hPr ?_
      simp -implicitDefEqProofs only [push_cast, Nat.reduceAdd, Nat.reduceSub, Nat.reduceMul, Nat.reduceLT, Nat.reduceLeDiff, Nat.reduceEqDiff, Nat.reduceBEq, reduceCtorEq, reduceIte, Int.reduceLE, Int.reduceLT, Int.reduceNeg, Int.reduceToNat, encQ, Int.reduceEq, if_false, if_true, or_true, or_false, true_or, false_or, List.map_cons, List.map_nil, List.length_cons, List.length_nil, Int.reduceAdd]
      refine ahdq hSx ?_
      simp -implicitDefEqProofs only [push_cast, Nat.reduceAdd, Nat.reduceSub, Nat.reduceMul, Nat.reduceLT, Nat.reduceLeDiff, Nat.reduceEqDiff, Nat.reduceBEq, reduceCtorEq, reduceIte, Int.reduceLE, Int.reduceLT, Int.reduceNeg, Int.reduceToNat, encQ, Int.reduceEq, if_false, if_true, or_true, or_false, true_or, false_or, List.map_cons, List.map_nil, List.length_cons, List.length_nil, Int.reduceAdd]
      refine ahdq (Rows_ok c hcl q hq _) ?_
      simp -implicitDefEqProofs only [push_cast, Nat.reduceAdd, Nat.reduceSub, Nat.reduceMul, Nat.reduceLT, Nat.reduceLeDiff, Nat.reduceEqDiff, Nat.reduceBEq, reduceCtorEq, reduceIte, Int.reduceLE, Int.reduceLT, Int.reduceNeg, Int.reduceToNat, encQ, Int.reduceEq, if_false, if_true, or_true, or_false, true_or, false_or, List.map_cons, List.map_nil, List.length_cons, List.length_nil, Int.reduceAdd]
      refine ahdq hSy ?_
      simp -implicitDefEqProofs only [push_cast, Nat.reduceAdd, Nat.reduceSub, Nat.reduceMul, Nat.reduceLT, Nat.reduceLeDiff, Nat.reduceEqDiff, Nat.reduceBEq, reduceCtorEq, reduceIte, Int.reduceLE, Int.reduceLT, Int.reduceNeg, Int.reduceToNat, encQ, Int.reduceEq, if_false, if_true, or_true, or_false, true_or, false_or, List.map_cons, List.map_nil, List.length_cons, List.length_nil, Int.reduceAdd]
      refine ahdq (Rows_ok c hcl q hq _) ?_
      simp -implicitDefEqProofs only [push_cast, Nat.reduceAdd, Nat.reduceSub, Nat.reduceMul, Nat.reduceLT, Nat.reduceLeDiff, Nat.reduceEqDiff, Nat.reduceBEq, reduceCtorEq, reduceIte, Int.reduceLE, Int.reduceLT, Int.reduceNeg, Int.reduceToNat, encQ, Int.reduceEq, if_false, if_true, or_true, or_false, true_or, false_or, List.map_cons, List.map_nil, List.length_cons, List.length_nil, Int.reduceAdd]
      refine ahdq (NestK_ok _ _) ?_
      simp -implicitDefEqProofs only [push_cast, Nat.reduceAdd, Nat.reduceSub, Nat.reduceMul, Nat.reduceLT, Nat.reduceLeDiff, Nat.reduceEqDiff, Nat.reduceBEq, reduceCtorEq, reduceIte, Int.reduceLE, Int.reduceLT, Int.reduceNeg, Int.reduceToNat, encQ, Int.reduceEq, if_false, if_true, or_true, or_false, true_or, false_or, List.map_cons, List.map_nil, List.length_cons, List.length_nil, Int.reduceAdd, ownC]
    · simp -implicitDefEqProofs only [push_cast, Nat.reduceAdd, Nat.reduceSub, Nat.reduceMul, Nat.reduceLT, Nat.reduceLeDiff, Nat.reduceEqDiff, Nat.reduceBEq, reduceCtorEq, reduceIte, Int.reduceLE, Int.reduceLT, Int.reduceNeg, Int.reduceToNat, encQ, Int.reduceEq, if_false, if_true, or_true, or_false, true_or, false_or, List.map_cons, List.map_nil, List.length_cons, List.length_nil, Int.reduceAdd]
      refine areg_at 16 (by kernel_rfl) (by kernel_rfl) ?_
      simp -implicitDefEqProofs only [push_cast, Nat.reduceAdd, Nat.reduceSub, Nat.reduceMul, Nat.reduceLT, Nat.reduceLeDiff, Nat.reduceEqDiff, Nat.reduceBEq, reduceCtorEq, reduceIte, Int.reduceLE, Int.reduceLT, Int.reduceNeg, Int.reduceToNat, encQ, Int.reduceEq, if_false, if_true, or_true, or_false, true_or, false_or, List.map_cons, List.map_nil, List.length_cons, List.length_nil, Int.reduceAdd]
      refine areg_at 17 (by kernel_rfl) (by kernel_rfl) ?_
      simp -implicitDefEqProofs only [push_cast, Nat.reduceAdd, Nat.reduceSub, Nat.reduceMul, Nat.reduceLT, Nat.reduceLeDiff, Nat.reduceEqDiff, Nat.reduceBEq, reduceCtorEq, reduceIte, Int.reduceLE, Int.reduceLT, Int.reduceNeg, Int.reduceToNat, encQ, Int.reduceEq, if_false, if_true, or_true, or_false, true_or, false_or, List.map_cons, List.map_nil, List.length_cons, List.length_nil, Int.reduceAdd]
      refine ahdq hPr ?_
      simp -implicitDefEqProofs only [push_cast, Nat.reduceAdd, Nat.reduceSub, Nat.reduceMul, Nat.reduceLT, Nat.reduceLeDiff, Nat.reduceEqDiff, Nat.reduceBEq, reduceCtorEq, reduceIte, Int.reduceLE, Int.reduceLT, Int.reduceNeg, Int.reduceToNat, encQ, Int.reduceEq, if_false, if_true, or_true, or_false, true_or, false_or, List.map_cons, List.map_nil, List.length_cons, List.length_nil, Int.reduceAdd]
      refine ahdq hSx ?_
      simp -implicitDefEqProofs only [push_cast, Nat.reduceAdd, Nat.reduceSub, Nat.reduceMul, Nat.reduceLT, Nat.reduceLeDiff, Nat.reduceEqDiff, Nat.reduceBEq, reduceCtorEq, reduceIte, Int.reduceLE, Int.reduceLT, Int.reduceNeg, Int.reduceToNat, encQ, Int.reduceEq, if_false, if_true, or_true, or_false, true_or, false_or, List.map_cons, List.map_nil, List.length_cons, List.length_nil, Int.reduceAdd]
      refine ahdq (Rows_ok c hcl q hq _) ?_
      simp -implicitDefEqProofs only [push_cast, Nat.reduceAdd, Nat.reduceSub, Nat.reduceMul, Nat.reduceLT, Nat.reduceLeDiff, Nat.reduceEqDiff, Nat.reduceBEq, reduceCtorEq, reduceIte, Int.reduceLE, Int.reduceLT, Int.reduceNeg, Int.reduceToNat, encQ, Int.reduceEq, if_false, if_true, or_true, or_false, true_or, false_or, List.map_cons, List.map_nil, List.length_cons, List.length_nil, Int.reduceAdd]
      refine ahdq hSy ?_
      simp -implicitDefEqProofs only [push_cast, Nat.reduceAdd, Nat.reduceSub, Nat.reduceMul, Nat.reduceLT, Nat.reduceLeDiff, Nat.reduceEqDiff, Nat.reduceBEq, reduceCtorEq, reduceIte, Int.reduceLE, Int.reduceLT, Int.reduceNeg, Int.reduceToNat, encQ, Int.reduceEq, if_false, if_true, or_true, or_false, true_or, false_or, List.map_cons, List.map_nil, List.length_cons, List.length_nil, Int.reduceAdd]
      refine ahdq (Rows_ok c hcl q hq _) ?_
      simp -implicitDefEqProofs only [push_cast, Nat.reduceAdd, Nat.reduceSub, Nat.reduceMul, Nat.reduceLT, Nat.reduceLeDiff, Nat.reduceEqDiff, Nat.reduceBEq, reduceCtorEq, reduceIte, Int.reduceLE, Int.reduceLT, Int.reduceNeg, Int.reduceToNat, encQ, Int.reduceEq, if_false, if_true, or_true, or_false, true_or, false_or, List.map_cons, List.map_nil, List.length_cons, List.length_nil, Int.reduceAdd]
      refine ahdq (HashK_ok _ _) ?_
      simp -implicitDefEqProofs only [push_cast, Nat.reduceAdd, Nat.reduceSub, Nat.reduceMul, Nat.reduceLT, Nat.reduceLeDiff, Nat.reduceEqDiff, Nat.reduceBEq, reduceCtorEq, reduceIte, Int.reduceLE, Int.reduceLT, Int.reduceNeg, Int.reduceToNat, encQ, Int.reduceEq, if_false, if_true, or_true, or_false, true_or, false_or, List.map_cons, List.map_nil, List.length_cons, List.length_nil, Int.reduceAdd, ownC]
    · simp -implicitDefEqProofs only [push_cast, Nat.reduceAdd, Nat.reduceSub, Nat.reduceMul, Nat.reduceLT, Nat.reduceLeDiff, Nat.reduceEqDiff, Nat.reduceBEq, reduceCtorEq, reduceIte, Int.reduceLE, Int.reduceLT, Int.reduceNeg, Int.reduceToNat, encQ, Int.reduceEq, if_false, if_true, or_true, or_false, true_or, false_or, List.map_cons, List.map_nil, List.length_cons, List.length_nil, Int.reduceAdd]
      refine areg_at 16 (by kernel_rfl) (by kernel_rfl) ?_
      simp -implicitDefEqProofs only [push_cast, Nat.reduceAdd, Nat.reduceSub, Nat.reduceMul, Nat.reduceLT, Nat.reduceLeDiff, Nat.reduceEqDiff, Nat.reduceBEq, reduceCtorEq, reduceIte, Int.reduceLE, Int.reduceLT, Int.reduceNeg, Int.reduceToNat, encQ, Int.reduceEq, if_false, if_true, or_true, or_false, true_or, false_or, List.map_cons, List.map_nil, List.length_cons, List.length_nil, Int.reduceAdd]
      refine areg_at 17 (by kernel_rfl) (by kernel_rfl) ?_
      simp -implicitDefEqProofs only [push_cast, Nat.reduceAdd, Nat.reduceSub, Nat.reduceMul, Nat.reduceLT, Nat.reduceLeDiff, Nat.reduceEqDiff, Nat.reduceBEq, reduceCtorEq, reduceIte, Int.reduceLE, Int.reduceLT, Int.reduceNeg, Int.reduceToNat, encQ, Int.reduceEq, if_false, if_true, or_true, or_false, true_or, false_or, List.map_cons, List.map_nil, List.length_cons, List.length_nil, Int.reduceAdd]
      refine ahdq hPr ?_
      simp -implicitDefEqProofs only [push_cast, Nat.reduceAdd, Nat.reduceSub, Nat.reduceMul, Nat.reduceLT, Nat.reduceLeDiff, Nat.reduceEqDiff, Nat.reduceBEq, reduceCtorEq, reduceIte, Int.reduceLE, Int.reduceLT, Int.reduceNeg, Int.reduceToNat, encQ, Int.reduceEq, if_false, if_true, or_true, or_false, true_or, false_or, List.map_cons, List.map_nil, List.length_cons, List.length_nil, Int.reduceAdd]
      refine ahdq hSx ?_
      simp -implicitDefEqProofs only [push_cast, Nat.reduceAdd, Nat.reduceSub, Nat.reduceMul, Nat.reduceLT, Nat.reduceLeDiff, Nat.reduceEqDiff, Nat.reduceBEq, reduceCtorEq, reduceIte, Int.reduceLE, Int.reduceLT, Int.reduceNeg, Int.reduceToNat, encQ, Int.reduceEq, if_false, if_true, or_true, or_false, true_or, false_or, List.map_cons, List.map_nil, List.length_cons, List.length_nil, Int.reduceAdd]
      refine ahdq (Rows_ok c hcl q hq _) ?_
      simp -implicitDefEqProofs only [push_cast, Nat.reduceAdd, Nat.reduceSub, Nat.reduceMul, Nat.reduceLT, Nat.reduceLeDiff, Nat.reduceEqDiff, Nat.reduceBEq, reduceCtorEq, reduceIte, Int.reduceLE, Int.reduceLT, Int.reduceNeg, Int.reduceToNat, encQ, Int.reduceEq, if_false, if_true, or_true, or_false, true_or, false_or, List.map_cons, List.map_nil, List.length_cons, List.length_nil, Int.reduceAdd]
      refine ahdq hSy ?_
      simp -implicitDefEqProofs only [push_cast, Nat.reduceAdd, Nat.reduceSub, Nat.reduceMul, Nat.reduceLT, Nat.reduceLeDiff, Nat.reduceEqDiff, Nat.reduceBEq, reduceCtorEq, reduceIte, Int.reduceLE, Int.reduceLT, Int.reduceNeg, Int.reduceToNat, encQ, Int.reduceEq, if_false, if_true, or_true, or_false, true_or, false_or, List.map_cons, List.map_nil, List.length_cons, List.length_nil, Int.reduceAdd]
      refine ahdq (Rows_ok c hcl q hq _) ?_
      simp -implicitDefEqProofs only [push_cast, Nat.reduceAdd, Nat.reduceSub, Nat.reduceMul, Nat.reduceLT, Nat.reduceLeDiff, Nat.reduceEqDiff, Nat.reduceBEq, reduceCtorEq, reduceIte, Int.reduceLE, Int.reduceLT, Int.reduceNeg, Int.reduceToNat, encQ, Int.reduceEq, if_false, if_true, or_true, or_false, true_or, false_or, List.map_cons, List.map_nil, List.length_cons, List.length_nil, Int.reduceAdd]
      refine ahdq (MergeK_ok _ _) ?_
      simp -implicitDefEqProofs only [push_cast, Nat.reduceAdd, Nat.reduceSub, Nat.reduceMul, Nat.reduceLT, Nat.reduceLeDiff, Nat.reduceEqDiff, Nat.reduceBEq, reduceCtorEq, reduceIte, Int.reduceLE, Int.reduceLT, Int.reduceNeg, Int.reduceToNat, encQ, Int.reduceEq, if_false, if_true, or_true, or_false, true_or, false_or, List.map_cons, List.map_nil, List.length_cons, List.length_nil, Int.reduceAdd, ownC]
end
section
set_option linter.unusedSimpArgs false
set_option linter.unusedVariables false
set_option maxRecDepth 100000
attribute [local push_cast] encPl_mk encPl_take encPl_len encPl_one encPls_pure encPl_pure encT_pure encT_len encT_one encT_take

theorem cost1_ok (c : List Df) (hcl : c.length ≤ 1000000) (q : Qy) (hq : q.Ok) (i : Nat) (p : Pl) (hp : Pl.good p) (s : List Int) (H : AH) (B : Nat → Prop) (hs1 : s.length < 1000000) (hI : (stRow i).inv s H B) :
    ACalls Go.Proofs.Tryz.prog 61 [.agg (encPl p), .ptr i 1 0 0, .iptr [.sl (c.map encD)], .iptr (encQ q)] H (fun r H' => r = .bool (addStep (ownC c q) s p).2 ∧ Moves (stRow i) (addStep (ownC c q) s p).1 H B H') := by
  have hC := partCost_ok c hcl q hq p hp
  have hpl := encPl_len p
  refine acalls_sc (rs := #[.tmp 5]) Go.Proofs.Tryz.func61 rfl rfl rfl mixed rfl (Nat.le_of_ble_eq_true rfl) fun hs _ => ?_
  have hIc := hI
  rcases hI with ⟨rfl, h2, h3, rfl⟩ | ⟨j, h1, h2, h3, h4, h5, rfl⟩
  · have hob : ∀ l, (H.plus l).obj i = some (.cells 1 [[.nilS]] 0) := fun l => by rw [plus_low H l h2]; exact h3
    have hset : ∀ l o, (H.plus l).set i o = (H.set i o).plus l := fun l o => plus_setlow H l h2 o
    simp -implicitDefEqProofs only [push_cast, Nat.reduceAdd, Nat.reduceSub, Nat.reduceMul, Nat.reduceLT, Nat.reduceLeDiff, Nat.reduceEqDiff, Nat.reduceBEq, reduceCtorEq, reduceIte, Int.reduceLE, Int.reduceLT, Int.reduceNeg, Int.reduceToNat, hob, hset, encQ]
    refine areg_grow [some (.cells 5 [encPl p] 0)] 7 ?_ (by kernel_rfl) (by kernel_rfl) (by kernel_rfl) ?_
    · intro j o hj
      exact hj
    simp -implicitDefEqProofs only [push_cast, Nat.reduceAdd, Nat.reduceSub, Nat.reduceMul, Nat.reduceLT, Nat.reduceLeDiff, Nat.reduceEqDiff, Nat.reduceBEq, reduceCtorEq, reduceIte, Int.reduceLE, Int.reduceLT, Int.reduceNeg, Int.reduceToNat, hob, hset, encQ]
    refine ⟨_, hC, ?_⟩
    simp -implicitDefEqProofs only [push_cast, Nat.reduceAdd, Nat.reduceSub, Nat.reduceMul, Nat.reduceLT, Nat.reduceLeDiff, Nat.reduceEqDiff, Nat.reduceBEq, reduceCtorEq, reduceIte, Int.reduceLE, Int.reduceLT, Int.reduceNeg, Int.reduceToNat, hob, hset, encQ]
    refine retk trivial ⟨rfl, ?_⟩
    simp only [addStep, List.nil_append]
    refine stRow_push rfl rfl (fun q hq hb => ?_) h2 1 rfl ?_
    · show (if q = i then _ else H.obj q) = _
      rw [if_neg hb]
    · show (if i = i then _ else H.obj i) = _
      rw [if_pos rfl]
      rfl
  · have hob : ∀ l, (H.plus l).obj i = some (.cells 1 [[.rsl j 1 0 s.length]] 0) := fun l => by rw [plus_low H l h2]; exact h4
    have hoj : ∀ l, (H.plus l).obj j = some (.cells 1 (rowI s) 0) := fun l => by rw [plus_low H l h3]; exact h5
    have hdel : ∀ l, (H.plus l).del j = (H.del j).plus l := fun l => plus_dellow H l h3
    have hob2 : ∀ l, ((H.del j).plus l).obj i = some (.cells 1 [[.rsl j 1 0 s.length]] 0) := fun l => by
      rw [plus_low (H.del j) l h2]
      show (if i = j then none else H.obj i) = _
      rw [if_neg (Ne.symm h1), h4]
    have hoj2 : ∀ l, ((H.del j).plus l).obj j = none := fun l => by
      rw [plus_low (H.del j) l h3]
      show (if j = j then none else H.obj j) = _
      rw [if_pos rfl]
    have hpo : ∀ l k, ((H.del j).plus l).obj (H.nxt + k) = (l[k]?).join := fun l k => plus_obj (H.del j) l k
    have hset2 : ∀ l o, ((H.del j).plus l).set i o = ((H.del j).set i o).plus l := fun l o => plus_setlow (H.del j) l h2 o
    simp -implicitDefEqProofs only [push_cast, Nat.reduceAdd, Nat.reduceSub, Nat.reduceMul, Nat.reduceLT, Nat.reduceLeDiff, Nat.reduceEqDiff, Nat.reduceBEq, reduceCtorEq, reduceIte, Int.reduceLE, Int.reduceLT, Int.reduceNeg, Int.reduceToNat, hob, hoj, hdel, hob2, hset2, del_nxt, encQ]
    refine .inl (aregE_chain ((H.del j).plus [some (.cells 5 [encPl p] 0)]) 7 (by kernel_rfl) (by kernel_rfl) (by kernel_rfl) (fun k o hk => ?_) ?_)
    · rw [← hdel] at hk
      change (if k = j then none else _) = _ at hk
      split at hk
      · cases hk
      · exact hk
    simp -implicitDefEqProofs only [push_cast, Nat.reduceAdd, Nat.reduceSub, Nat.reduceMul, Nat.reduceLT, Nat.reduceLeDiff, Nat.reduceEqDiff, Nat.reduceBEq, reduceCtorEq, reduceIte, Int.reduceLE, Int.reduceLT, Int.reduceNeg, Int.reduceToNat, hob, hoj, hdel, hob2, hoj2, hset2, hpo, del_nxt, encQ]
    refine ⟨_, hC, ?_⟩
    simp -implicitDefEqProofs only [push_cast, Nat.reduceAdd, Nat.reduceSub, Nat.reduceMul, Nat.reduceLT, Nat.reduceLeDiff, Nat.reduceEqDiff, Nat.reduceBEq, reduceCtorEq, reduceIte, Int.reduceLE, Int.reduceLT, Int.reduceNeg, Int.reduceToNat, hob, hoj, hdel, hob2, hoj2, hset2, hpo, del_nxt, encQ]
    refine ⟨by omega, retk trivial ⟨rfl, ?_⟩⟩
    simp only [addStep]
    refine stRow_push rfl (.inl rfl) (fun q hq hb => ?_) h2 1 ?_ ?_
    · show (if q = i then _ else (if q = j then none else H.obj q)) = _
      rw [if_neg (fun e => hb (.inl e)), if_neg (fun e => hb (.inr e))]
    · simp only [List.getElem?_cons_succ, List.getElem?_cons_zero]
      rw [List.take_of_length_le (by simp [rowI]), rowI, rowI, List.map_append]
      rfl
    · show (if i = i then _ else _) = _
      rw [if_pos rfl, List.length_append]
      rfl
theorem CostPl_ok (c : List Df) (hcl : c.length ≤ 1000000) (q : Qy) (hq : q.Ok) (p : Pl) (hok : p.Ok) : Quiet Go.Proofs.Tryz.prog 17 [.agg [.sl (c.map encD)], .agg (encQ q), .agg (encPl p)] (.int (costP c q p)) := by
  have hM := MayPl_ok c hcl q hq p hok
  unfold costP
  refine quiet_of (rs := #[.tmp 6]) Go.Proofs.Tryz.func17 rfl rfl rfl mixed rfl rfl fun H hs => ?_
  simp -implicitDefEqProofs only [push_cast, Nat.reduceAdd, Nat.reduceSub, Nat.reduceMul, Nat.reduceLT, Nat.reduceLeDiff, Nat.reduceEqDiff, Nat.reduceBEq, reduceCtorEq, reduceIte, Int.reduceLE, Int.reduceLT, Int.reduceNeg, Int.reduceToNat, encQ]
  refine callq hM ?_
  cases hm : mayP c q p
  · simp -implicitDefEqProofs only [push_cast, Nat.reduceAdd, Nat.reduceSub, Nat.reduceMul, Nat.reduceLT, Nat.reduceLeDiff, Nat.reduceEqDiff, Nat.reduceBEq, reduceCtorEq, reduceIte, Int.reduceLE, Int.reduceLT, Int.reduceNeg, Int.reduceToNat, encQ, Bool.false_eq_true, if_false, capK]
  have h1 := mayP_split hm
  have hgood : Pl.good p := ⟨hok, h1.2.2.1⟩
  have hpl : (parts p).length ≤ 20 := by
    have := h1.2.2.1.1
    unfold Pl.few at this
    simp only [Bool.and_eq_true, decide_eq_true_eq] at this
    exact this.1
  have hpp : 1 ≤ (parts p).length := by obtain ⟨op, occ, a, b, l⟩ := p; rw [parts_mk]; simp
  have hA := AddK_ok ((parts p).map (ownC c q)) (by rw [List.length_map]; omega)
  have hst := eachP_add (ownC c q) p []
  rw [List.nil_append] at hst
  simp -implicitDefEqProofs only [push_cast, Nat.reduceAdd, Nat.reduceSub, Nat.reduceMul, Nat.reduceLT, Nat.reduceLeDiff, Nat.reduceEqDiff, Nat.reduceBEq, reduceCtorEq, reduceIte, Int.reduceLE, Int.reduceLT, Int.reduceNeg, Int.reduceToNat, encQ, if_true]
  refine fzk H 0 1 [.agg (encPl p), .clo (.func 61) [] [.ptr (H.nxt + 3) 1 0 0, .iptr [.sl (c.map encD)], .ptr (H.nxt + 1) 6 0 0]] (by rfl) (by omega) (by simp) ?_ ?_
  · (try simp -implicitDefEqProofs only [push_cast, Nat.reduceAdd, Nat.reduceSub, Nat.reduceMul, Nat.reduceLT, Nat.reduceLeDiff, Nat.reduceEqDiff, Nat.reduceBEq, reduceCtorEq, reduceIte, Int.reduceLE, Int.reduceLT, Int.reduceNeg, Int.reduceToNat, encDs_pure])
  refine fzk H 1 1 [.agg (encPl p), .clo (.func 61) [] [.ptr (H.nxt + 3) 1 0 0, .iptr [.sl (c.map encD)], .iptr (encQ q)]] (by rfl) (by omega) (by simp) ?_ ?_
  · (try simp -implicitDefEqProofs only [push_cast, Nat.reduceAdd, Nat.reduceSub, Nat.reduceMul, Nat.reduceLT, Nat.reduceLeDiff, Nat.reduceEqDiff, Nat.reduceBEq, reduceCtorEq, reduceIte, Int.reduceLE, Int.reduceLT, Int.reduceNeg, Int.reduceToNat, encDs_pure, encIs_pure, encEs_pure, encQ])
  refine ((eachQ_ok Pl.good (fun e h => h.1) (fun _ _ _ _ _ h => good_part h) (stRow (H.nxt + 3)) (addStep (ownC c q)) _ [.ptr (H.nxt + 3) 1 0 0, .iptr [.sl (c.map encD)], .iptr (encQ q)] List.length (fun _ _ => by simp [addStep]) 1000000 (fun s e H B he hw hI => cost1_ok c hcl q hq _ e he s H B hw hI) p [] _ (fun q => q = H.nxt + 3) hgood (by rw [cntP_parts]; simp; omega) (.inl ⟨rfl, by simp [plus_nxt], by rw [plus_obj]; rfl, rfl⟩)).hsc).mono ?_
  rintro r H2 ⟨⟨rfl, hm⟩, hsc2, hle2, -⟩
  rw [hst] at hm ⊢
  obtain ⟨l', rfl⟩ := hm.is_plus (fun q hq => by omega) hsc2
  obtain ⟨hm1, hm2, B', hB', hBB⟩ := hm
  rcases hB' with ⟨hnil, _, hv, rfl⟩ | ⟨j, hj1, hj2, hj3, hv, hrow, rfl⟩
  · have : ((parts p).map (ownC c q)).length = 0 := by dsimp only at hnil; rw [hnil]; rfl
    rw [List.length_map] at this
    omega
  have hjn : H.nxt ≤ j := by
    rcases hBB j (.inr rfl) with h1 | h1
    · omega
    · rw [plus_nxt] at h1; omega
  obtain ⟨k, rfl⟩ : ∃ k, j = H.nxt + k := ⟨j - H.nxt, by omega⟩
  have hkl : k < l'.length := by rw [plus_nxt] at hj3; omega
  rw [plus_obj] at hv hrow
  simp -implicitDefEqProofs only [push_cast, Nat.reduceAdd, Nat.reduceSub, Nat.reduceMul, Nat.reduceLT, Nat.reduceLeDiff, Nat.reduceEqDiff, Nat.reduceBEq, reduceCtorEq, reduceIte, Int.reduceLE, Int.reduceLT, Int.reduceNeg, Int.reduceToNat, hv, hrow]
  have hk : l'[k]? = some (some (.cells 1 (rowI ((parts p).map (ownC c q))) 0)) := by
    cases hx : l'[k]? with
    | none => rw [hx] at hrow; cases hrow
    | some x => rw [hx] at hrow; simp only [Option.join_some] at hrow; rw [hrow]
  have htk : List.take (parts p).length (rowI ((parts p).map (ownC c q))) = ((parts p).map (ownC c q)).map encI := List.take_of_length_le (by simp [rowI])
  refine fzk H k (parts p).length [.sl (((parts p).map (ownC c q)).map encI)] hk (by omega) (by simp [rowI]) ?_ ?_
  · (try simp -implicitDefEqProofs only [push_cast, Nat.reduceAdd, Nat.reduceSub, Nat.reduceMul, Nat.reduceLT, Nat.reduceLeDiff, Nat.reduceEqDiff, Nat.reduceBEq, reduceCtorEq, reduceIte, Int.reduceLE, Int.reduceLT, Int.reduceNeg, Int.reduceToNat, hrow, htk, encIs_pure])
    rw [List.getElem?_set_self hkl]
    exact Nat.le_refl (parts p).length
  refine callq hA ?_
  simp -implicitDefEqProofs only [push_cast, Nat.reduceAdd, Nat.reduceSub, Nat.reduceMul, Nat.reduceLT, Nat.reduceLeDiff, Nat.reduceEqDiff, Nat.reduceBEq, reduceCtorEq, reduceIte, Int.reduceLE, Int.reduceLT, Int.reduceNeg, Int.reduceToNat]
end
section
set_option linter.unusedSimpArgs false
set_option linter.unusedVariables false
set_option maxRecDepth 100000
attribute [local push_cast] encPl_mk encPl_take encPl_len encPl_one encPls_pure encPl_pure encT_pure encT_len encT_one encT_take

def encW (p : Pl) (e : Int) (s : Bool) : List AV := encPl p ++ [.int e, .bool s]
theorem encW_mk (op occ a b : Int) (l : List Pl) (e : Int) (s : Bool) : encW (.mk op occ a b l) e s = [.int op, .int occ, .int a, .int b, .sl (l.map encPl), .int e, .bool s] := by rw [encW, encPl_mk]; rfl
/-- Its end, of what may be and is of all occurrences. -/
def endP (q : Qy) (o e : Int) (s : Bool) : Bool := decide (0 ≤ e) && decide (e < 3) && (decide (e = 0) == decide (q.by_ = -1)) &&
  (if s then decide (q.ord ≠ -1) && decide (e = 1) else if e = 2 then decide (o = q.by_) else if q.ord ≠ -1 then decide (e = 0) && decide (o = q.ord) else true)
def fineP (c : List Df) (q : Qy) (p : Pl) (e : Int) (s : Bool) : Bool := mayP c q p && decide ((treeP p).set = 2 ^ q.occ.length - 1) && endP q p.order e s
def allL (c : List Df) (q : Qy) (p : Pl) (e : Int) (s : Bool) : List Int := [costP c q p] ++ (if e = 0 then [] else [groupK (rowsQ c q 15) (decide (e = 1))]) ++ (if s then [sortK (groupsQ c q)] else [])
def allP (c : List Df) (q : Qy) (p : Pl) (e : Int) (s : Bool) : Int := if fineP c q p e s then addK (allL c q p e s) else capK
theorem shl_one {n : Nat} (hn : n ≤ 4) : bshl .i64 1 n = 2 ^ n := by
  obtain ⟨j, rfl⟩ : ∃ j : Fin 5, n = j.val := ⟨⟨n, by omega⟩, rfl⟩
  clear hn
  revert j
  decide +kernel
theorem pow_full {n : Nat} (hn : n ≤ 4) : (1 : Int) ≤ 2 ^ n ∧ (2 : Int) ^ n ≤ 16 := by
  obtain ⟨j, rfl⟩ : ∃ j : Fin 5, n = j.val := ⟨⟨n, by omega⟩, rfl⟩
  clear hn
  revert j
  decide +kernel
theorem rows_full {c : List Df} {q : Qy} (h : q.may c = true) : rowsQ c q (2 ^ q.occ.length - 1) = rowsQ c q 15 := by
  refine rowsQ_congr h fun i hi => ?_
  have h4 := (may_split h).2.2.1
  obtain ⟨j, hj⟩ : ∃ j : Fin 5, q.occ.length = j.val := ⟨⟨q.occ.length, by omega⟩, rfl⟩
  rw [hj] at hi ⊢
  obtain ⟨k, rfl⟩ : ∃ k : Fin 5, i = k.val := ⟨⟨i, by omega⟩, rfl⟩
  clear hj h4
  revert hi
  revert j k
  decide +kernel
set_option maxHeartbeats 4000000 in
theorem FinePl_ok (c : List Df) (hcl : c.length ≤ 1000000) (q : Qy) (hq : q.Ok) (p : Pl) (hok : p.Ok) (e : Int) (s : Bool) : Quiet Go.Proofs.Tryz.prog 29 [.agg [.sl (c.map encD)], .agg (encQ q), .agg (encW p e s)] (.bool (fineP c q p e s)) := by
  have hM := MayPl_ok c hcl q hq p hok
  have hT := Tree_ok p hok
  have hO := Order_ok p hok
  have hS := SetT_ok _ (tree_ok p)
  cases hm : mayP c q p
  · have hv : fineP c q p e s = false := by rw [fineP, hm]; rfl
    rw [hv]
    rw [hm] at hM
    obtain ⟨op, occ, a, b, l⟩ := p
    rw [encPl_mk] at hM hT hO
    rw [encW_mk]
    refine quiet_of (rs := #[.tmp 6]) Go.Proofs.Tryz.func29 rfl rfl rfl mixed rfl rfl fun H hs => ?_
    simp -implicitDefEqProofs only [push_cast, Nat.reduceAdd, Nat.reduceSub, Nat.reduceMul, Nat.reduceLT, Nat.reduceLeDiff, Nat.reduceEqDiff, Nat.reduceBEq, reduceCtorEq, reduceIte, Int.reduceLE, Int.reduceLT, Int.reduceNeg, Int.reduceToNat, encQ]
    refine callq hT ?_
    simp -implicitDefEqProofs only [push_cast, Nat.reduceAdd, Nat.reduceSub, Nat.reduceMul, Nat.reduceLT, Nat.reduceLeDiff, Nat.reduceEqDiff, Nat.reduceBEq, reduceCtorEq, reduceIte, Int.reduceLE, Int.reduceLT, Int.reduceNeg, Int.reduceToNat, encQ]
    refine areg_at 35 (by kernel_rfl) (by kernel_rfl) ?_
    simp -implicitDefEqProofs only [push_cast, Nat.reduceAdd, Nat.reduceSub, Nat.reduceMul, Nat.reduceLT, Nat.reduceLeDiff, Nat.reduceEqDiff, Nat.reduceBEq, reduceCtorEq, reduceIte, Int.reduceLE, Int.reduceLT, Int.reduceNeg, Int.reduceToNat, encQ]
    refine ahdq hM ?_
    simp -implicitDefEqProofs only [push_cast, Nat.reduceAdd, Nat.reduceSub, Nat.reduceMul, Nat.reduceLT, Nat.reduceLeDiff, Nat.reduceEqDiff, Nat.reduceBEq, reduceCtorEq, reduceIte, Int.reduceLE, Int.reduceLT, Int.reduceNeg, Int.reduceToNat, encQ]
    refine gcallq (.int 0) (fun h => by cases h) ?_
    simp -implicitDefEqProofs only [push_cast, Nat.reduceAdd, Nat.reduceSub, Nat.reduceMul, Nat.reduceLT, Nat.reduceLeDiff, Nat.reduceEqDiff, Nat.reduceBEq, reduceCtorEq, reduceIte, Int.reduceLE, Int.reduceLT, Int.reduceNeg, Int.reduceToNat, encQ]
  · have h1 := mayP_split hm
    have h4 := (may_split h1.1).2.2.1
    have hpw := pow_full h4
    have hsh := shl_one h4
    have hv : fineP c q p e s = (decide ((treeP p).set = 2 ^ q.occ.length - 1) && endP q p.order e s) := by rw [fineP, hm]; rfl
    rw [hv]
    rw [hm] at hM
    rw [tree_1 h1.2.1] at hT hS
    generalize (treeP p).set = S at hS ⊢
    generalize p.order = O at hO ⊢
    obtain ⟨op, occ, a, b, l⟩ := p
    rw [encPl_mk] at hM hT hO
    rw [encW_mk]
    refine quiet_of (rs := #[.tmp 6]) Go.Proofs.Tryz.func29 rfl rfl rfl mixed rfl rfl fun H hs => ?_
    simp -implicitDefEqProofs only [push_cast, Nat.reduceAdd, Nat.reduceSub, Nat.reduceMul, Nat.reduceLT, Nat.reduceLeDiff, Nat.reduceEqDiff, Nat.reduceBEq, reduceCtorEq, reduceIte, Int.reduceLE, Int.reduceLT, Int.reduceNeg, Int.reduceToNat, encQ]
    refine callq hT ?_
    simp -implicitDefEqProofs only [push_cast, Nat.reduceAdd, Nat.reduceSub, Nat.reduceMul, Nat.reduceLT, Nat.reduceLeDiff, Nat.reduceEqDiff, Nat.reduceBEq, reduceCtorEq, reduceIte, Int.reduceLE, Int.reduceLT, Int.reduceNeg, Int.reduceToNat, encQ]
    refine areg_at 35 (by kernel_rfl) (by kernel_rfl) ?_
    simp -implicitDefEqProofs only [push_cast, Nat.reduceAdd, Nat.reduceSub, Nat.reduceMul, Nat.reduceLT, Nat.reduceLeDiff, Nat.reduceEqDiff, Nat.reduceBEq, reduceCtorEq, reduceIte, Int.reduceLE, Int.reduceLT, Int.reduceNeg, Int.reduceToNat, encQ]
    refine ahdq hM ?_
    simp -implicitDefEqProofs only [push_cast, Nat.reduceAdd, Nat.reduceSub, Nat.reduceMul, Nat.reduceLT, Nat.reduceLeDiff, Nat.reduceEqDiff, Nat.reduceBEq, reduceCtorEq, reduceIte, Int.reduceLE, Int.reduceLT, Int.reduceNeg, Int.reduceToNat, encQ]
    refine gcallq (.int S) (fun _ => hS) ?_
    simp -implicitDefEqProofs only [push_cast, Nat.reduceAdd, Nat.reduceSub, Nat.reduceMul, Nat.reduceLT, Nat.reduceLeDiff, Nat.reduceEqDiff, Nat.reduceBEq, reduceCtorEq, reduceIte, Int.reduceLE, Int.reduceLT, Int.reduceNeg, Int.reduceToNat, encQ, hsh]
    rw [wrap64 (n := 2 ^ q.occ.length - 1) (by omega) (by omega)]
    generalize (2 : Int) ^ q.occ.length - 1 = F
    refine ⟨by omega, fun h => ?_, fun h => ?_⟩
    · unfold endP
      generalize q.by_ = by_ at h ⊢
      grind
    simp only [Bool.or_eq_false_iff, Bool.not_eq_false', decide_eq_false_iff_not, decide_eq_true_eq] at h
    obtain ⟨⟨⟨rfl, h0⟩, h3⟩, hb⟩ := h
    refine callq hO ?_
    have hv2 : (decide (S = S) && endP q O e s) = (if s then decide (q.ord ≠ -1) && decide (e = 1) else if e = 2 then decide (O = q.by_) else if q.ord ≠ -1 then decide (e = 0) && decide (O = q.ord) else true) := by
      unfold endP
      generalize q.by_ = by_ at hb ⊢
      grind
    rw [hv2]
    cases s
    · simp -implicitDefEqProofs only [push_cast, Nat.reduceAdd, Nat.reduceSub, Nat.reduceMul, Nat.reduceLT, Nat.reduceLeDiff, Nat.reduceEqDiff, Nat.reduceBEq, reduceCtorEq, reduceIte, Int.reduceLE, Int.reduceLT, Int.reduceNeg, Int.reduceToNat, encQ]
      generalize q.by_ = by_
      grind
    · simp -implicitDefEqProofs only [push_cast, Nat.reduceAdd, Nat.reduceSub, Nat.reduceMul, Nat.reduceLT, Nat.reduceLeDiff, Nat.reduceEqDiff, Nat.reduceBEq, reduceCtorEq, reduceIte, Int.reduceLE, Int.reduceLT, Int.reduceNeg, Int.reduceToNat, encQ, if_true]
      grind
theorem fine_split {c : List Df} {q : Qy} {p : Pl} {e : Int} {s : Bool} (h : fineP c q p e s = true) : mayP c q p = true ∧ (treeP p).set = 2 ^ q.occ.length - 1 ∧ endP q p.order e s = true := by
  unfold fineP at h
  simp only [Bool.and_eq_true, decide_eq_true_eq] at h
  exact ⟨h.1.1, h.1.2, h.2⟩
set_option maxHeartbeats 4000000 in
theorem AllPl_ok (c : List Df) (hcl : c.length ≤ 1000000) (q : Qy) (hq : q.Ok) (p : Pl) (hok : p.Ok) (e : Int) (s : Bool) : Quiet Go.Proofs.Tryz.prog 28 [.agg [.sl (c.map encD)], .agg (encQ q), .agg (encW p e s)] (.int (allP c q p e s)) := by
  have hF := FinePl_ok c hcl q hq p hok e s
  have hC := CostPl_ok c hcl q hq p hok
  unfold allP
  cases hf : fineP c q p e s
  · rw [hf] at hF
    obtain ⟨op, occ, a, b, l⟩ := p
    rw [encW_mk] at hF ⊢
    refine quiet_of (rs := #[.tmp 6]) Go.Proofs.Tryz.func28 rfl rfl rfl mixed rfl rfl fun H hs => ?_
    simp -implicitDefEqProofs only [push_cast, Nat.reduceAdd, Nat.reduceSub, Nat.reduceMul, Nat.reduceLT, Nat.reduceLeDiff, Nat.reduceEqDiff, Nat.reduceBEq, reduceCtorEq, reduceIte, Int.reduceLE, Int.reduceLT, Int.reduceNeg, Int.reduceToNat, encQ]
    refine callq hF ?_
    simp -implicitDefEqProofs only [push_cast, Nat.reduceAdd, Nat.reduceSub, Nat.reduceMul, Nat.reduceLT, Nat.reduceLeDiff, Nat.reduceEqDiff, Nat.reduceBEq, reduceCtorEq, reduceIte, Int.reduceLE, Int.reduceLT, Int.reduceNeg, Int.reduceToNat, encQ, capK, Bool.false_eq_true, if_false]
  · rw [hf] at hF
    have h1 := mayP_split (fine_split hf).1
    have h4 := (may_split h1.1).2.2.1
    have hpw := pow_full h4
    have hsh := shl_one h4
    have hR := Rows_ok c hcl q hq (2 ^ q.occ.length - 1)
    rw [rows_full h1.1] at hR
    have hA := AddK_ok (allL c q p e s) (by unfold allL; split <;> split <;> simp)
    generalize hX : costP c q p = X at hC
    rw [if_pos rfl]
    have hL : allL c q p e s = [X] ++ (if e = 0 then [] else [groupK (rowsQ c q 15) (decide (e = 1))]) ++ (if s then [sortK (groupsQ c q)] else []) := by rw [allL, hX]
    rw [hL] at hA ⊢
    clear hX hf hL h1
    obtain ⟨op, occ, a, b, l⟩ := p
    rw [encPl_mk] at hC
    rw [encW_mk] at hF ⊢
    refine quiet_of (rs := #[.tmp 6]) Go.Proofs.Tryz.func28 rfl rfl rfl mixed rfl rfl fun H hs => ?_
    by_cases he : e = 0
    · subst he
      cases s
      · simp -implicitDefEqProofs only [push_cast, Nat.reduceAdd, Nat.reduceSub, Nat.reduceMul, Nat.reduceLT, Nat.reduceLeDiff, Nat.reduceEqDiff, Nat.reduceBEq, reduceCtorEq, reduceIte, Int.reduceLE, Int.reduceLT, Int.reduceNeg, Int.reduceToNat, encQ]
        refine callq hF ?_
        simp -implicitDefEqProofs only [push_cast, Nat.reduceAdd, Nat.reduceSub, Nat.reduceMul, Nat.reduceLT, Nat.reduceLeDiff, Nat.reduceEqDiff, Nat.reduceBEq, reduceCtorEq, reduceIte, Int.reduceLE, Int.reduceLT, Int.reduceNeg, Int.reduceToNat, encQ]
        refine callq hC ?_
        simp -implicitDefEqProofs only [push_cast, Nat.reduceAdd, Nat.reduceSub, Nat.reduceMul, Nat.reduceLT, Nat.reduceLeDiff, Nat.reduceEqDiff, Nat.reduceBEq, reduceCtorEq, reduceIte, Int.reduceLE, Int.reduceLT, Int.reduceNeg, Int.reduceToNat, encQ, Int.reduceEq, if_false, if_true, or_true, or_false, true_or, false_or, List.map_cons, List.map_nil, List.length_cons, List.length_nil, Int.reduceAdd, List.cons_append, List.nil_append, List.append_nil]
        refine fzk H 3 1 [.sl ([X].map encI)] (by rfl) (by omega) (by simp) ?_ ?_
        · (try simp -implicitDefEqProofs only [push_cast, Nat.reduceAdd, Nat.reduceSub, Nat.reduceMul, Nat.reduceLT, Nat.reduceLeDiff, Nat.reduceEqDiff, Nat.reduceBEq, reduceCtorEq, reduceIte, Int.reduceLE, Int.reduceLT, Int.reduceNeg, Int.reduceToNat, encI, Int.reduceEq, if_false, if_true, or_true, or_false, true_or, false_or, List.map_cons, List.map_nil, List.length_cons, List.length_nil, Int.reduceAdd, List.cons_append, List.nil_append, List.append_nil])
        refine callq hA ?_
        simp -implicitDefEqProofs only [push_cast, Nat.reduceAdd, Nat.reduceSub, Nat.reduceMul, Nat.reduceLT, Nat.reduceLeDiff, Nat.reduceEqDiff, Nat.reduceBEq, reduceCtorEq, reduceIte, Int.reduceLE, Int.reduceLT, Int.reduceNeg, Int.reduceToNat, encQ, Int.reduceEq, if_false, if_true, or_true, or_false, true_or, false_or, List.map_cons, List.map_nil, List.length_cons, List.length_nil, Int.reduceAdd, List.cons_append, List.nil_append, List.append_nil]
      · simp -implicitDefEqProofs only [push_cast, Nat.reduceAdd, Nat.reduceSub, Nat.reduceMul, Nat.reduceLT, Nat.reduceLeDiff, Nat.reduceEqDiff, Nat.reduceBEq, reduceCtorEq, reduceIte, Int.reduceLE, Int.reduceLT, Int.reduceNeg, Int.reduceToNat, encQ]
        refine callq hF ?_
        simp -implicitDefEqProofs only [push_cast, Nat.reduceAdd, Nat.reduceSub, Nat.reduceMul, Nat.reduceLT, Nat.reduceLeDiff, Nat.reduceEqDiff, Nat.reduceBEq, reduceCtorEq, reduceIte, Int.reduceLE, Int.reduceLT, Int.reduceNeg, Int.reduceToNat, encQ]
        refine callq hC ?_
        simp -implicitDefEqProofs only [push_cast, Nat.reduceAdd, Nat.reduceSub, Nat.reduceMul, Nat.reduceLT, Nat.reduceLeDiff, Nat.reduceEqDiff, Nat.reduceBEq, reduceCtorEq, reduceIte, Int.reduceLE, Int.reduceLT, Int.reduceNeg, Int.reduceToNat, encQ, Int.reduceEq, if_false, if_true, or_true, or_false, true_or, false_or, List.map_cons, List.map_nil, List.length_cons, List.length_nil, Int.reduceAdd, List.cons_append, List.nil_append, List.append_nil]
        refine callq (Groups_ok c hcl q hq) ?_
        simp -implicitDefEqProofs only [push_cast, Nat.reduceAdd, Nat.reduceSub, Nat.reduceMul, Nat.reduceLT, Nat.reduceLeDiff, Nat.reduceEqDiff, Nat.reduceBEq, reduceCtorEq, reduceIte, Int.reduceLE, Int.reduceLT, Int.reduceNeg, Int.reduceToNat, encQ, Int.reduceEq, if_false, if_true, or_true, or_false, true_or, false_or, List.map_cons, List.map_nil, List.length_cons, List.length_nil, Int.reduceAdd, List.cons_append, List.nil_append, List.append_nil]
        refine callq (SortK_ok _) ?_
        simp -implicitDefEqProofs only [push_cast, Nat.reduceAdd, Nat.reduceSub, Nat.reduceMul, Nat.reduceLT, Nat.reduceLeDiff, Nat.reduceEqDiff, Nat.reduceBEq, reduceCtorEq, reduceIte, Int.reduceLE, Int.reduceLT, Int.reduceNeg, Int.reduceToNat, encQ, Int.reduceEq, if_false, if_true, or_true, or_false, true_or, false_or, List.map_cons, List.map_nil, List.length_cons, List.length_nil, Int.reduceAdd, List.cons_append, List.nil_append, List.append_nil]
        refine fzk H 5 2 [.sl ([X, sortK (groupsQ c q)].map encI)] (by rfl) (by omega) (by simp) ?_ ?_
        · (try simp -implicitDefEqProofs only [push_cast, Nat.reduceAdd, Nat.reduceSub, Nat.reduceMul, Nat.reduceLT, Nat.reduceLeDiff, Nat.reduceEqDiff, Nat.reduceBEq, reduceCtorEq, reduceIte, Int.reduceLE, Int.reduceLT, Int.reduceNeg, Int.reduceToNat, encI, Int.reduceEq, if_false, if_true, or_true, or_false, true_or, false_or, List.map_cons, List.map_nil, List.length_cons, List.length_nil, Int.reduceAdd, List.cons_append, List.nil_append, List.append_nil])
        refine callq hA ?_
        simp -implicitDefEqProofs only [push_cast, Nat.reduceAdd, Nat.reduceSub, Nat.reduceMul, Nat.reduceLT, Nat.reduceLeDiff, Nat.reduceEqDiff, Nat.reduceBEq, reduceCtorEq, reduceIte, Int.reduceLE, Int.reduceLT, Int.reduceNeg, Int.reduceToNat, encQ, Int.reduceEq, if_false, if_true, or_true, or_false, true_or, false_or, List.map_cons, List.map_nil, List.length_cons, List.length_nil, Int.reduceAdd, List.cons_append, List.nil_append, List.append_nil]
    · have he' : (e = 0) = False := by simp [he]
      have hen : decide (e = 0) = false := by simp [he]
      cases s
      · simp -implicitDefEqProofs only [push_cast, Nat.reduceAdd, Nat.reduceSub, Nat.reduceMul, Nat.reduceLT, Nat.reduceLeDiff, Nat.reduceEqDiff, Nat.reduceBEq, reduceCtorEq, reduceIte, Int.reduceLE, Int.reduceLT, Int.reduceNeg, Int.reduceToNat, encQ]
        refine callq hF ?_
        simp -implicitDefEqProofs only [push_cast, Nat.reduceAdd, Nat.reduceSub, Nat.reduceMul, Nat.reduceLT, Nat.reduceLeDiff, Nat.reduceEqDiff, Nat.reduceBEq, reduceCtorEq, reduceIte, Int.reduceLE, Int.reduceLT, Int.reduceNeg, Int.reduceToNat, encQ]
        refine callq hC ?_
        simp -implicitDefEqProofs only [push_cast, Nat.reduceAdd, Nat.reduceSub, Nat.reduceMul, Nat.reduceLT, Nat.reduceLeDiff, Nat.reduceEqDiff, Nat.reduceBEq, reduceCtorEq, reduceIte, Int.reduceLE, Int.reduceLT, Int.reduceNeg, Int.reduceToNat, encQ, Int.reduceEq, if_false, if_true, or_true, or_false, true_or, false_or, List.map_cons, List.map_nil, List.length_cons, List.length_nil, Int.reduceAdd, List.cons_append, List.nil_append, List.append_nil, he', hen]
        refine areg_grow [some (.cells 1 [[.sl (c.map encD)]] 0), some (.cells 6 [encQ q] 0), some (.cells 7 [[.int op, .int occ, .int a, .int b, .sl (l.map encPl), .int e, .bool false]] 0)] 16 ?_ (by kernel_rfl) (by kernel_rfl) (by kernel_rfl) ?_
        · intro j o hj
          match j, hj with
          | 0, hj => exact hj
          | 1, hj => exact hj
          | 2, hj => exact hj
          | j + 3, hj => simp at hj
        simp -implicitDefEqProofs only [push_cast, Nat.reduceAdd, Nat.reduceSub, Nat.reduceMul, Nat.reduceLT, Nat.reduceLeDiff, Nat.reduceEqDiff, Nat.reduceBEq, reduceCtorEq, reduceIte, Int.reduceLE, Int.reduceLT, Int.reduceNeg, Int.reduceToNat, encQ, Int.reduceEq, if_false, if_true, or_true, or_false, true_or, false_or, List.map_cons, List.map_nil, List.length_cons, List.length_nil, Int.reduceAdd, List.cons_append, List.nil_append, List.append_nil, he', hen, hsh]
        rw [wrap64 (n := 2 ^ q.occ.length - 1) (by omega) (by omega)]
        refine ⟨by omega, ahdq hR ?_⟩
        simp -implicitDefEqProofs only [push_cast, Nat.reduceAdd, Nat.reduceSub, Nat.reduceMul, Nat.reduceLT, Nat.reduceLeDiff, Nat.reduceEqDiff, Nat.reduceBEq, reduceCtorEq, reduceIte, Int.reduceLE, Int.reduceLT, Int.reduceNeg, Int.reduceToNat, encQ, Int.reduceEq, if_false, if_true, or_true, or_false, true_or, false_or, List.map_cons, List.map_nil, List.length_cons, List.length_nil, Int.reduceAdd, List.cons_append, List.nil_append, List.append_nil]
        refine ahdq (GroupK_ok _ _) ?_
        simp -implicitDefEqProofs only [push_cast, Nat.reduceAdd, Nat.reduceSub, Nat.reduceMul, Nat.reduceLT, Nat.reduceLeDiff, Nat.reduceEqDiff, Nat.reduceBEq, reduceCtorEq, reduceIte, Int.reduceLE, Int.reduceLT, Int.reduceNeg, Int.reduceToNat, encQ, Int.reduceEq, if_false, if_true, or_true, or_false, true_or, false_or, List.map_cons, List.map_nil, List.length_cons, List.length_nil, Int.reduceAdd, List.cons_append, List.nil_append, List.append_nil]
        refine fzk H 4 2 [.sl ([X, groupK (rowsQ c q 15) (decide (e = 1))].map encI)] (by rfl) (by omega) (by simp) ?_ ?_
        · (try simp -implicitDefEqProofs only [push_cast, Nat.reduceAdd, Nat.reduceSub, Nat.reduceMul, Nat.reduceLT, Nat.reduceLeDiff, Nat.reduceEqDiff, Nat.reduceBEq, reduceCtorEq, reduceIte, Int.reduceLE, Int.reduceLT, Int.reduceNeg, Int.reduceToNat, encI, Int.reduceEq, if_false, if_true, or_true, or_false, true_or, false_or, List.map_cons, List.map_nil, List.length_cons, List.length_nil, Int.reduceAdd, List.cons_append, List.nil_append, List.append_nil])
        simp only [he', if_false, if_true, Bool.false_eq_true, List.cons_append, List.nil_append, List.append_nil] at hA
        refine callq hA ?_
        simp -implicitDefEqProofs only [push_cast, Nat.reduceAdd, Nat.reduceSub, Nat.reduceMul, Nat.reduceLT, Nat.reduceLeDiff, Nat.reduceEqDiff, Nat.reduceBEq, reduceCtorEq, reduceIte, Int.reduceLE, Int.reduceLT, Int.reduceNeg, Int.reduceToNat, encQ, Int.reduceEq, if_false, if_true, or_true, or_false, true_or, false_or, List.map_cons, List.map_nil, List.length_cons, List.length_nil, Int.reduceAdd, List.cons_append, List.nil_append, List.append_nil]
      · simp -implicitDefEqProofs only [push_cast, Nat.reduceAdd, Nat.reduceSub, Nat.reduceMul, Nat.reduceLT, Nat.reduceLeDiff, Nat.reduceEqDiff, Nat.reduceBEq, reduceCtorEq, reduceIte, Int.reduceLE, Int.reduceLT, Int.reduceNeg, Int.reduceToNat, encQ]
        refine callq hF ?_
        simp -implicitDefEqProofs only [push_cast, Nat.reduceAdd, Nat.reduceSub, Nat.reduceMul, Nat.reduceLT, Nat.reduceLeDiff, Nat.reduceEqDiff, Nat.reduceBEq, reduceCtorEq, reduceIte, Int.reduceLE, Int.reduceLT, Int.reduceNeg, Int.reduceToNat, encQ]
        refine callq hC ?_
        simp -implicitDefEqProofs only [push_cast, Nat.reduceAdd, Nat.reduceSub, Nat.reduceMul, Nat.reduceLT, Nat.reduceLeDiff, Nat.reduceEqDiff, Nat.reduceBEq, reduceCtorEq, reduceIte, Int.reduceLE, Int.reduceLT, Int.reduceNeg, Int.reduceToNat, encQ, Int.reduceEq, if_false, if_true, or_true, or_false, true_or, false_or, List.map_cons, List.map_nil, List.length_cons, List.length_nil, Int.reduceAdd, List.cons_append, List.nil_append, List.append_nil, he', hen]
        refine areg_grow [some (.cells 1 [[.sl (c.map encD)]] 0), some (.cells 6 [encQ q] 0), some (.cells 7 [[.int op, .int occ, .int a, .int b, .sl (l.map encPl), .int e, .bool true]] 0)] 16 ?_ (by kernel_rfl) (by kernel_rfl) (by kernel_rfl) ?_
        · intro j o hj
          match j, hj with
          | 0, hj => exact hj
          | 1, hj => exact hj
          | 2, hj => exact hj
          | j + 3, hj => simp at hj
        simp -implicitDefEqProofs only [push_cast, Nat.reduceAdd, Nat.reduceSub, Nat.reduceMul, Nat.reduceLT, Nat.reduceLeDiff, Nat.reduceEqDiff, Nat.reduceBEq, reduceCtorEq, reduceIte, Int.reduceLE, Int.reduceLT, Int.reduceNeg, Int.reduceToNat, encQ, Int.reduceEq, if_false, if_true, or_true, or_false, true_or, false_or, List.map_cons, List.map_nil, List.length_cons, List.length_nil, Int.reduceAdd, List.cons_append, List.nil_append, List.append_nil, he', hen, hsh]
        rw [wrap64 (n := 2 ^ q.occ.length - 1) (by omega) (by omega)]
        refine ⟨by omega, ahdq hR ?_⟩
        simp -implicitDefEqProofs only [push_cast, Nat.reduceAdd, Nat.reduceSub, Nat.reduceMul, Nat.reduceLT, Nat.reduceLeDiff, Nat.reduceEqDiff, Nat.reduceBEq, reduceCtorEq, reduceIte, Int.reduceLE, Int.reduceLT, Int.reduceNeg, Int.reduceToNat, encQ, Int.reduceEq, if_false, if_true, or_true, or_false, true_or, false_or, List.map_cons, List.map_nil, List.length_cons, List.length_nil, Int.reduceAdd, List.cons_append, List.nil_append, List.append_nil]
        refine ahdq (GroupK_ok _ _) ?_
        simp -implicitDefEqProofs only [push_cast, Nat.reduceAdd, Nat.reduceSub, Nat.reduceMul, Nat.reduceLT, Nat.reduceLeDiff, Nat.reduceEqDiff, Nat.reduceBEq, reduceCtorEq, reduceIte, Int.reduceLE, Int.reduceLT, Int.reduceNeg, Int.reduceToNat, encQ, Int.reduceEq, if_false, if_true, or_true, or_false, true_or, false_or, List.map_cons, List.map_nil, List.length_cons, List.length_nil, Int.reduceAdd, List.cons_append, List.nil_append, List.append_nil]
        refine callq (Groups_ok c hcl q hq) ?_
        simp -implicitDefEqProofs only [push_cast, Nat.reduceAdd, Nat.reduceSub, Nat.reduceMul, Nat.reduceLT, Nat.reduceLeDiff, Nat.reduceEqDiff, Nat.reduceBEq, reduceCtorEq, reduceIte, Int.reduceLE, Int.reduceLT, Int.reduceNeg, Int.reduceToNat, encQ, Int.reduceEq, if_false, if_true, or_true, or_false, true_or, false_or, List.map_cons, List.map_nil, List.length_cons, List.length_nil, Int.reduceAdd, List.cons_append, List.nil_append, List.append_nil]
        refine callq (SortK_ok _) ?_
        simp -implicitDefEqProofs only [push_cast, Nat.reduceAdd, Nat.reduceSub, Nat.reduceMul, Nat.reduceLT, Nat.reduceLeDiff, Nat.reduceEqDiff, Nat.reduceBEq, reduceCtorEq, reduceIte, Int.reduceLE, Int.reduceLT, Int.reduceNeg, Int.reduceToNat, encQ, Int.reduceEq, if_false, if_true, or_true, or_false, true_or, false_or, List.map_cons, List.map_nil, List.length_cons, List.length_nil, Int.reduceAdd, List.cons_append, List.nil_append, List.append_nil]
        refine fzk H 6 3 [.sl ([X, groupK (rowsQ c q 15) (decide (e = 1)), sortK (groupsQ c q)].map encI)] (by rfl) (by omega) (by simp) ?_ ?_
        · (try simp -implicitDefEqProofs only [push_cast, Nat.reduceAdd, Nat.reduceSub, Nat.reduceMul, Nat.reduceLT, Nat.reduceLeDiff, Nat.reduceEqDiff, Nat.reduceBEq, reduceCtorEq, reduceIte, Int.reduceLE, Int.reduceLT, Int.reduceNeg, Int.reduceToNat, encI, Int.reduceEq, if_false, if_true, or_true, or_false, true_or, false_or, List.map_cons, List.map_nil, List.length_cons, List.length_nil, Int.reduceAdd, List.cons_append, List.nil_append, List.append_nil])
        simp only [he', if_false, if_true, Bool.false_eq_true, List.cons_append, List.nil_append, List.append_nil] at hA
        refine callq hA ?_
        simp -implicitDefEqProofs only [push_cast, Nat.reduceAdd, Nat.reduceSub, Nat.reduceMul, Nat.reduceLT, Nat.reduceLeDiff, Nat.reduceEqDiff, Nat.reduceBEq, reduceCtorEq, reduceIte, Int.reduceLE, Int.reduceLT, Int.reduceNeg, Int.reduceToNat, encQ, Int.reduceEq, if_false, if_true, or_true, or_false, true_or, false_or, List.map_cons, List.map_nil, List.length_cons, List.length_nil, Int.reduceAdd, List.cons_append, List.nil_append, List.append_nil]
end
section
set_option linter.unusedSimpArgs false
set_option linter.unusedVariables false
set_option maxRecDepth 100000
attribute [local push_cast] encPl_mk encPl_take encPl_len encPl_one encPls_pure encPl_pure encT_pure encT_len encT_one encT_take

theorem fullR_ok (q : Qy) (h4 : q.occ.length ≤ 4) : Quiet Go.Proofs.Tryz.prog 88 [.agg (encQ q)] (.int (2 ^ q.occ.length - 1)) := by
  have hc : q.occ.length = 0 ∨ q.occ.length = 1 ∨ q.occ.length = 2 ∨ q.occ.length = 3 ∨ q.occ.length = 4 := by omega
  refine quiet_of (rs := #[.tmp 2]) Go.Proofs.Tryz.func88 rfl rfl rfl mixed rfl rfl fun H hs => ?_
  rcases hc with hc | hc | hc | hc | hc
  · rw [hc]; simp -implicitDefEqProofs only [push_cast, Nat.reduceAdd, Nat.reduceSub, Nat.reduceMul, Nat.reduceLT, Nat.reduceLeDiff, Nat.reduceEqDiff, Nat.reduceBEq, reduceCtorEq, reduceIte, Int.reduceLE, Int.reduceLT, Int.reduceNeg, Int.reduceToNat, encQ, hc, Int.reduceAdd]; decide
  · rw [hc]; simp -implicitDefEqProofs only [push_cast, Nat.reduceAdd, Nat.reduceSub, Nat.reduceMul, Nat.reduceLT, Nat.reduceLeDiff, Nat.reduceEqDiff, Nat.reduceBEq, reduceCtorEq, reduceIte, Int.reduceLE, Int.reduceLT, Int.reduceNeg, Int.reduceToNat, encQ, hc, Int.reduceAdd]; decide
  · rw [hc]; simp -implicitDefEqProofs only [push_cast, Nat.reduceAdd, Nat.reduceSub, Nat.reduceMul, Nat.reduceLT, Nat.reduceLeDiff, Nat.reduceEqDiff, Nat.reduceBEq, reduceCtorEq, reduceIte, Int.reduceLE, Int.reduceLT, Int.reduceNeg, Int.reduceToNat, encQ, hc, Int.reduceAdd]; decide
  · rw [hc]; simp -implicitDefEqProofs only [push_cast, Nat.reduceAdd, Nat.reduceSub, Nat.reduceMul, Nat.reduceLT, Nat.reduceLeDiff, Nat.reduceEqDiff, Nat.reduceBEq, reduceCtorEq, reduceIte, Int.reduceLE, Int.reduceLT, Int.reduceNeg, Int.reduceToNat, encQ, hc, Int.reduceAdd]; decide
  · rw [hc]; simp -implicitDefEqProofs only [push_cast, Nat.reduceAdd, Nat.reduceSub, Nat.reduceMul, Nat.reduceLT, Nat.reduceLeDiff, Nat.reduceEqDiff, Nat.reduceBEq, reduceCtorEq, reduceIte, Int.reduceLE, Int.reduceLT, Int.reduceNeg, Int.reduceToNat, encQ, hc, Int.reduceAdd]; decide
set_option maxHeartbeats 4000000 in
theorem FineR_ok (c : List Df) (hcl : c.length ≤ 1000000) (q : Qy) (hq : q.Ok) (hqi : q.In) (p : Pl) (hok : p.Ok) (e : Int) (s : Bool) : Quiet Go.Proofs.Tryz.prog 38 [.agg [.sl (c.map encD)], .agg (encQ q), .agg (encW p e s)] (.bool (fineP c q p e s)) := by
  have hM := MayPR_ok c hcl q hq hqi p hok
  have hO := OrderR_ok p hok
  have hS := SetP_ok p hok
  cases hm : mayP c q p
  · have hv : fineP c q p e s = false := by rw [fineP, hm]; rfl
    rw [hv]
    rw [hm] at hM
    obtain ⟨op, occ, a, b, l⟩ := p
    rw [encPl_mk] at hM hS hO
    rw [encW_mk]
    refine quiet_of (rs := #[.tmp 6]) Go.Proofs.Tryz.func38 rfl rfl rfl mixed rfl rfl fun H hs => ?_
    simp -implicitDefEqProofs only [push_cast, Nat.reduceAdd, Nat.reduceSub, Nat.reduceMul, Nat.reduceLT, Nat.reduceLeDiff, Nat.reduceEqDiff, Nat.reduceBEq, reduceCtorEq, reduceIte, Int.reduceLE, Int.reduceLT, Int.reduceNeg, Int.reduceToNat, encQ]
    refine callq hM ?_
    simp -implicitDefEqProofs only [push_cast, Nat.reduceAdd, Nat.reduceSub, Nat.reduceMul, Nat.reduceLT, Nat.reduceLeDiff, Nat.reduceEqDiff, Nat.reduceBEq, reduceCtorEq, reduceIte, Int.reduceLE, Int.reduceLT, Int.reduceNeg, Int.reduceToNat, encQ]
    refine areg_at 40 (by kernel_rfl) (by kernel_rfl) ?_
    simp -implicitDefEqProofs only [push_cast, Nat.reduceAdd, Nat.reduceSub, Nat.reduceMul, Nat.reduceLT, Nat.reduceLeDiff, Nat.reduceEqDiff, Nat.reduceBEq, reduceCtorEq, reduceIte, Int.reduceLE, Int.reduceLT, Int.reduceNeg, Int.reduceToNat, encQ]
    refine gcallq (.int 0) (fun h => by cases h) ?_
    simp -implicitDefEqProofs only [push_cast, Nat.reduceAdd, Nat.reduceSub, Nat.reduceMul, Nat.reduceLT, Nat.reduceLeDiff, Nat.reduceEqDiff, Nat.reduceBEq, reduceCtorEq, reduceIte, Int.reduceLE, Int.reduceLT, Int.reduceNeg, Int.reduceToNat, encQ]
    refine gcallq (.int 0) (fun h => by cases h) ?_
    simp -implicitDefEqProofs only [push_cast, Nat.reduceAdd, Nat.reduceSub, Nat.reduceMul, Nat.reduceLT, Nat.reduceLeDiff, Nat.reduceEqDiff, Nat.reduceBEq, reduceCtorEq, reduceIte, Int.reduceLE, Int.reduceLT, Int.reduceNeg, Int.reduceToNat, encQ]
  · have h1 := mayP_split hm
    have h4 := (may_split h1.1).2.2.1
    have hFl := fullR_ok q h4
    have hv : fineP c q p e s = (decide ((treeP p).set = 2 ^ q.occ.length - 1) && endP q p.order e s) := by rw [fineP, hm]; rfl
    rw [hv]
    rw [hm] at hM
    rw [setOf_may h1.2.2.1.1 h1.2.2.1.2] at hS
    generalize (treeP p).set = S at hS ⊢
    generalize p.order = O at hO ⊢
    obtain ⟨op, occ, a, b, l⟩ := p
    rw [encPl_mk] at hM hS hO
    rw [encW_mk]
    generalize (2 : Int) ^ q.occ.length - 1 = F at hFl ⊢
    refine quiet_of (rs := #[.tmp 6]) Go.Proofs.Tryz.func38 rfl rfl rfl mixed rfl rfl fun H hs => ?_
    simp -implicitDefEqProofs only [push_cast, Nat.reduceAdd, Nat.reduceSub, Nat.reduceMul, Nat.reduceLT, Nat.reduceLeDiff, Nat.reduceEqDiff, Nat.reduceBEq, reduceCtorEq, reduceIte, Int.reduceLE, Int.reduceLT, Int.reduceNeg, Int.reduceToNat, encQ]
    refine callq hM ?_
    simp -implicitDefEqProofs only [push_cast, Nat.reduceAdd, Nat.reduceSub, Nat.reduceMul, Nat.reduceLT, Nat.reduceLeDiff, Nat.reduceEqDiff, Nat.reduceBEq, reduceCtorEq, reduceIte, Int.reduceLE, Int.reduceLT, Int.reduceNeg, Int.reduceToNat, encQ]
    refine areg_at 40 (by kernel_rfl) (by kernel_rfl) ?_
    simp -implicitDefEqProofs only [push_cast, Nat.reduceAdd, Nat.reduceSub, Nat.reduceMul, Nat.reduceLT, Nat.reduceLeDiff, Nat.reduceEqDiff, Nat.reduceBEq, reduceCtorEq, reduceIte, Int.reduceLE, Int.reduceLT, Int.reduceNeg, Int.reduceToNat, encQ]
    refine gcallq (.int S) (fun _ => hS) ?_
    simp -implicitDefEqProofs only [push_cast, Nat.reduceAdd, Nat.reduceSub, Nat.reduceMul, Nat.reduceLT, Nat.reduceLeDiff, Nat.reduceEqDiff, Nat.reduceBEq, reduceCtorEq, reduceIte, Int.reduceLE, Int.reduceLT, Int.reduceNeg, Int.reduceToNat, encQ]
    refine gcallq (.int F) (fun _ => hFl) ?_
    simp -implicitDefEqProofs only [push_cast, Nat.reduceAdd, Nat.reduceSub, Nat.reduceMul, Nat.reduceLT, Nat.reduceLeDiff, Nat.reduceEqDiff, Nat.reduceBEq, reduceCtorEq, reduceIte, Int.reduceLE, Int.reduceLT, Int.reduceNeg, Int.reduceToNat, encQ]
    refine ⟨fun h1 h2 => by rw [h1, decide_eq_true h2]; rfl, fun h1 h2 => by rw [h1, decide_eq_false h2]; rfl, fun h => ?_, fun h => ?_⟩
    · unfold endP
      generalize q.by_ = by_ at h ⊢
      grind
    have hv2 : (decide (S = F) && endP q O e s) = (if s then decide (q.ord ≠ -1) && decide (e = 1) else if e = 2 then decide (O = q.by_) else if q.ord ≠ -1 then decide (e = 0) && decide (O = q.ord) else true) := by
      unfold endP
      generalize q.by_ = by_ at h ⊢
      grind
    have h5 : 0 ≤ e ∧ e ≤ 2 ∧ (e = 0 ↔ q.by_ = -1) := by
      generalize q.by_ = by_ at h ⊢
      grind
    obtain ⟨e0, e2, hb⟩ := h5
    clear h
    rw [hv2]
    refine areg_at 25 (by kernel_rfl) (by kernel_rfl) ?_
    simp -implicitDefEqProofs only [push_cast, Nat.reduceAdd, Nat.reduceSub, Nat.reduceMul, Nat.reduceLT, Nat.reduceLeDiff, Nat.reduceEqDiff, Nat.reduceBEq, reduceCtorEq, reduceIte, Int.reduceLE, Int.reduceLT, Int.reduceNeg, Int.reduceToNat, encQ]
    refine ⟨fun h1 h2 => by rw [h1, decide_eq_false h2]; rfl, gcallq (.int O) (fun _ => hO) ?_⟩
    simp -implicitDefEqProofs only [push_cast, Nat.reduceAdd, Nat.reduceSub, Nat.reduceMul, Nat.reduceLT, Nat.reduceLeDiff, Nat.reduceEqDiff, Nat.reduceBEq, reduceCtorEq, reduceIte, Int.reduceLE, Int.reduceLT, Int.reduceNeg, Int.reduceToNat, encQ]
    refine ⟨fun h1 h2 => by rw [h1, decide_eq_true h2]; rfl, fun h => ?_, fun h => ?_⟩
    · generalize q.by_ = by_ at h hb ⊢
      grind
    refine areg_at 26 (by kernel_rfl) (by kernel_rfl) ?_
    simp -implicitDefEqProofs only [push_cast, Nat.reduceAdd, Nat.reduceSub, Nat.reduceMul, Nat.reduceLT, Nat.reduceLeDiff, Nat.reduceEqDiff, Nat.reduceBEq, reduceCtorEq, reduceIte, Int.reduceLE, Int.reduceLT, Int.reduceNeg, Int.reduceToNat, encQ]
    refine gcallq (.int O) (fun _ => hO) ?_
    simp -implicitDefEqProofs only [push_cast, Nat.reduceAdd, Nat.reduceSub, Nat.reduceMul, Nat.reduceLT, Nat.reduceLeDiff, Nat.reduceEqDiff, Nat.reduceBEq, reduceCtorEq, reduceIte, Int.reduceLE, Int.reduceLT, Int.reduceNeg, Int.reduceToNat, encQ]
    refine ⟨fun h1 h2 => by rw [h1, decide_eq_true h2]; rfl, ?_⟩
    generalize q.by_ = by_ at h hb ⊢
    grind
set_option maxHeartbeats 4000000 in
theorem AllR_ok (c : List Df) (hcl : c.length ≤ 1000000) (q : Qy) (hq : q.Ok) (hqi : q.In) (p : Pl) (hok : p.Ok) (e : Int) (s : Bool) : Quiet Go.Proofs.Tryz.prog 39 [.agg [.sl (c.map encD)], .agg (encQ q), .agg (encW p e s)] (.int (allP c q p e s)) := by
  have hF := FineR_ok c hcl q hq hqi p hok e s
  have hC := CostR_ok c hcl q hq hqi p hok
  unfold allP
  cases hf : fineP c q p e s
  · rw [hf] at hF
    obtain ⟨op, occ, a, b, l⟩ := p
    rw [encW_mk] at hF ⊢
    refine quiet_of (rs := #[.tmp 6]) Go.Proofs.Tryz.func39 rfl rfl rfl mixed rfl rfl fun H hs => ?_
    simp -implicitDefEqProofs only [push_cast, Nat.reduceAdd, Nat.reduceSub, Nat.reduceMul, Nat.reduceLT, Nat.reduceLeDiff, Nat.reduceEqDiff, Nat.reduceBEq, reduceCtorEq, reduceIte, Int.reduceLE, Int.reduceLT, Int.reduceNeg, Int.reduceToNat, encQ]
    refine callq hF ?_
    simp -implicitDefEqProofs only [push_cast, Nat.reduceAdd, Nat.reduceSub, Nat.reduceMul, Nat.reduceLT, Nat.reduceLeDiff, Nat.reduceEqDiff, Nat.reduceBEq, reduceCtorEq, reduceIte, Int.reduceLE, Int.reduceLT, Int.reduceNeg, Int.reduceToNat, encQ, capK, Bool.false_eq_true, if_false]
  · rw [hf] at hF
    have hR := RowsR_ok c hcl q hq hqi 15
    have hA := Add10_ok (allL c q p e s) (by unfold allL; split <;> split <;> simp)
    generalize hX : costP c q p = X at hC
    rw [if_pos rfl]
    have hL : allL c q p e s = [X] ++ (if e = 0 then [] else [groupK (rowsQ c q 15) (decide (e = 1))]) ++ (if s then [sortK (groupsQ c q)] else []) := by rw [allL, hX]
    rw [hL] at hA ⊢
    clear hX hf hL
    obtain ⟨op, occ, a, b, l⟩ := p
    rw [encPl_mk] at hC
    rw [encW_mk] at hF ⊢
    refine quiet_of (rs := #[.tmp 6]) Go.Proofs.Tryz.func39 rfl rfl rfl mixed rfl rfl fun H hs => ?_
    by_cases he : e = 0
    · subst he
      cases s
      · simp -implicitDefEqProofs only [push_cast, Nat.reduceAdd, Nat.reduceSub, Nat.reduceMul, Nat.reduceLT, Nat.reduceLeDiff, Nat.reduceEqDiff, Nat.reduceBEq, reduceCtorEq, reduceIte, Int.reduceLE, Int.reduceLT, Int.reduceNeg, Int.reduceToNat, encQ]
        refine callq hF ?_
        simp -implicitDefEqProofs only [push_cast, Nat.reduceAdd, Nat.reduceSub, Nat.reduceMul, Nat.reduceLT, Nat.reduceLeDiff, Nat.reduceEqDiff, Nat.reduceBEq, reduceCtorEq, reduceIte, Int.reduceLE, Int.reduceLT, Int.reduceNeg, Int.reduceToNat, encQ]
        refine callq hC ?_
        simp -implicitDefEqProofs only [push_cast, Nat.reduceAdd, Nat.reduceSub, Nat.reduceMul, Nat.reduceLT, Nat.reduceLeDiff, Nat.reduceEqDiff, Nat.reduceBEq, reduceCtorEq, reduceIte, Int.reduceLE, Int.reduceLT, Int.reduceNeg, Int.reduceToNat, encQ, Int.reduceEq, if_false, if_true, or_true, or_false, true_or, false_or, List.map_cons, List.map_nil, List.length_cons, List.length_nil, Int.reduceAdd, List.cons_append, List.nil_append, List.append_nil]
        refine fzk H 3 1 [.sl ([X].map encI)] (by rfl) (by omega) (by simp) ?_ ?_
        · (try simp -implicitDefEqProofs only [push_cast, Nat.reduceAdd, Nat.reduceSub, Nat.reduceMul, Nat.reduceLT, Nat.reduceLeDiff, Nat.reduceEqDiff, Nat.reduceBEq, reduceCtorEq, reduceIte, Int.reduceLE, Int.reduceLT, Int.reduceNeg, Int.reduceToNat, encI, Int.reduceEq, if_false, if_true, or_true, or_false, true_or, false_or, List.map_cons, List.map_nil, List.length_cons, List.length_nil, Int.reduceAdd, List.cons_append, List.nil_append, List.append_nil])
        refine callq hA ?_
        simp -implicitDefEqProofs only [push_cast, Nat.reduceAdd, Nat.reduceSub, Nat.reduceMul, Nat.reduceLT, Nat.reduceLeDiff, Nat.reduceEqDiff, Nat.reduceBEq, reduceCtorEq, reduceIte, Int.reduceLE, Int.reduceLT, Int.reduceNeg, Int.reduceToNat, encQ, Int.reduceEq, if_false, if_true, or_true, or_false, true_or, false_or, List.map_cons, List.map_nil, List.length_cons, List.length_nil, Int.reduceAdd, List.cons_append, List.nil_append, List.append_nil]
      · simp -implicitDefEqProofs only [push_cast, Nat.reduceAdd, Nat.reduceSub, Nat.reduceMul, Nat.reduceLT, Nat.reduceLeDiff, Nat.reduceEqDiff, Nat.reduceBEq, reduceCtorEq, reduceIte, Int.reduceLE, Int.reduceLT, Int.reduceNeg, Int.reduceToNat, encQ]
        refine callq hF ?_
        simp -implicitDefEqProofs only [push_cast, Nat.reduceAdd, Nat.reduceSub, Nat.reduceMul, Nat.reduceLT, Nat.reduceLeDiff, Nat.reduceEqDiff, Nat.reduceBEq, reduceCtorEq, reduceIte, Int.reduceLE, Int.reduceLT, Int.reduceNeg, Int.reduceToNat, encQ]
        refine callq hC ?_
        simp -implicitDefEqProofs only [push_cast, Nat.reduceAdd, Nat.reduceSub, Nat.reduceMul, Nat.reduceLT, Nat.reduceLeDiff, Nat.reduceEqDiff, Nat.reduceBEq, reduceCtorEq, reduceIte, Int.reduceLE, Int.reduceLT, Int.reduceNeg, Int.reduceToNat, encQ, Int.reduceEq, if_false, if_true, or_true, or_false, true_or, false_or, List.map_cons, List.map_nil, List.length_cons, List.length_nil, Int.reduceAdd, List.cons_append, List.nil_append, List.append_nil]
        refine callq (GroupsR_ok c hcl q hq hqi) ?_
        simp -implicitDefEqProofs only [push_cast, Nat.reduceAdd, Nat.reduceSub, Nat.reduceMul, Nat.reduceLT, Nat.reduceLeDiff, Nat.reduceEqDiff, Nat.reduceBEq, reduceCtorEq, reduceIte, Int.reduceLE, Int.reduceLT, Int.reduceNeg, Int.reduceToNat, encQ, Int.reduceEq, if_false, if_true, or_true, or_false, true_or, false_or, List.map_cons, List.map_nil, List.length_cons, List.length_nil, Int.reduceAdd, List.cons_append, List.nil_append, List.append_nil]
        refine callq (Sort10_ok _) ?_
        simp -implicitDefEqProofs only [push_cast, Nat.reduceAdd, Nat.reduceSub, Nat.reduceMul, Nat.reduceLT, Nat.reduceLeDiff, Nat.reduceEqDiff, Nat.reduceBEq, reduceCtorEq, reduceIte, Int.reduceLE, Int.reduceLT, Int.reduceNeg, Int.reduceToNat, encQ, Int.reduceEq, if_false, if_true, or_true, or_false, true_or, false_or, List.map_cons, List.map_nil, List.length_cons, List.length_nil, Int.reduceAdd, List.cons_append, List.nil_append, List.append_nil]
        refine fzk H 5 2 [.sl ([X, sortK (groupsQ c q)].map encI)] (by rfl) (by omega) (by simp) ?_ ?_
        · (try simp -implicitDefEqProofs only [push_cast, Nat.reduceAdd, Nat.reduceSub, Nat.reduceMul, Nat.reduceLT, Nat.reduceLeDiff, Nat.reduceEqDiff, Nat.reduceBEq, reduceCtorEq, reduceIte, Int.reduceLE, Int.reduceLT, Int.reduceNeg, Int.reduceToNat, encI, Int.reduceEq, if_false, if_true, or_true, or_false, true_or, false_or, List.map_cons, List.map_nil, List.length_cons, List.length_nil, Int.reduceAdd, List.cons_append, List.nil_append, List.append_nil])
        refine callq hA ?_
        simp -implicitDefEqProofs only [push_cast, Nat.reduceAdd, Nat.reduceSub, Nat.reduceMul, Nat.reduceLT, Nat.reduceLeDiff, Nat.reduceEqDiff, Nat.reduceBEq, reduceCtorEq, reduceIte, Int.reduceLE, Int.reduceLT, Int.reduceNeg, Int.reduceToNat, encQ, Int.reduceEq, if_false, if_true, or_true, or_false, true_or, false_or, List.map_cons, List.map_nil, List.length_cons, List.length_nil, Int.reduceAdd, List.cons_append, List.nil_append, List.append_nil]
    · have he' : (e = 0) = False := by simp [he]
      have hen : decide (e = 0) = false := by simp [he]
      cases s
      · simp -implicitDefEqProofs only [push_cast, Nat.reduceAdd, Nat.reduceSub, Nat.reduceMul, Nat.reduceLT, Nat.reduceLeDiff, Nat.reduceEqDiff, Nat.reduceBEq, reduceCtorEq, reduceIte, Int.reduceLE, Int.reduceLT, Int.reduceNeg, Int.reduceToNat, encQ]
        refine callq hF ?_
        simp -implicitDefEqProofs only [push_cast, Nat.reduceAdd, Nat.reduceSub, Nat.reduceMul, Nat.reduceLT, Nat.reduceLeDiff, Nat.reduceEqDiff, Nat.reduceBEq, reduceCtorEq, reduceIte, Int.reduceLE, Int.reduceLT, Int.reduceNeg, Int.reduceToNat, encQ]
        refine callq hC ?_
        simp -implicitDefEqProofs only [push_cast, Nat.reduceAdd, Nat.reduceSub, Nat.reduceMul, Nat.reduceLT, Nat.reduceLeDiff, Nat.reduceEqDiff, Nat.reduceBEq, reduceCtorEq, reduceIte, Int.reduceLE, Int.reduceLT, Int.reduceNeg, Int.reduceToNat, encQ, Int.reduceEq, if_false, if_true, or_true, or_false, true_or, false_or, List.map_cons, List.map_nil, List.length_cons, List.length_nil, Int.reduceAdd, List.cons_append, List.nil_append, List.append_nil, he', hen]
        refine areg_grow [some (.cells 1 [[.sl (c.map encD)]] 0), some (.cells 6 [encQ q] 0), some (.cells 7 [[.int op, .int occ, .int a, .int b, .sl (l.map encPl), .int e, .bool false]] 0)] 11 ?_ (by kernel_rfl) (by kernel_rfl) (by kernel_rfl) ?_
        · intro j o hj
          match j, hj with
          | 0, hj => exact hj
          | 1, hj => exact hj
          | 2, hj => exact hj
          | j + 3, hj => simp at hj
        simp -implicitDefEqProofs only [push_cast, Nat.reduceAdd, Nat.reduceSub, Nat.reduceMul, Nat.reduceLT, Nat.reduceLeDiff, Nat.reduceEqDiff, Nat.reduceBEq, reduceCtorEq, reduceIte, Int.reduceLE, Int.reduceLT, Int.reduceNeg, Int.reduceToNat, encQ, Int.reduceEq, if_false, if_true, or_true, or_false, true_or, false_or, List.map_cons, List.map_nil, List.length_cons, List.length_nil, Int.reduceAdd, List.cons_append, List.nil_append, List.append_nil, he', hen]
        refine ahdq hR ?_
        simp -implicitDefEqProofs only [push_cast, Nat.reduceAdd, Nat.reduceSub, Nat.reduceMul, Nat.reduceLT, Nat.reduceLeDiff, Nat.reduceEqDiff, Nat.reduceBEq, reduceCtorEq, reduceIte, Int.reduceLE, Int.reduceLT, Int.reduceNeg, Int.reduceToNat, encQ, Int.reduceEq, if_false, if_true, or_true, or_false, true_or, false_or, List.map_cons, List.map_nil, List.length_cons, List.length_nil, Int.reduceAdd, List.cons_append, List.nil_append, List.append_nil]
        refine ahdq (Group10_ok _ _) ?_
        simp -implicitDefEqProofs only [push_cast, Nat.reduceAdd, Nat.reduceSub, Nat.reduceMul, Nat.reduceLT, Nat.reduceLeDiff, Nat.reduceEqDiff, Nat.reduceBEq, reduceCtorEq, reduceIte, Int.reduceLE, Int.reduceLT, Int.reduceNeg, Int.reduceToNat, encQ, Int.reduceEq, if_false, if_true, or_true, or_false, true_or, false_or, List.map_cons, List.map_nil, List.length_cons, List.length_nil, Int.reduceAdd, List.cons_append, List.nil_append, List.append_nil]
        simp only [he', if_false, if_true, Bool.false_eq_true, List.cons_append, List.nil_append, List.append_nil] at hA
        refine fzk H 4 2 [.sl ([X, groupK (rowsQ c q 15) (decide (e = 1))].map encI)] (by rfl) (by omega) (by simp) ?_ ?_
        · (try simp -implicitDefEqProofs only [push_cast, Nat.reduceAdd, Nat.reduceSub, Nat.reduceMul, Nat.reduceLT, Nat.reduceLeDiff, Nat.reduceEqDiff, Nat.reduceBEq, reduceCtorEq, reduceIte, Int.reduceLE, Int.reduceLT, Int.reduceNeg, Int.reduceToNat, encI, Int.reduceEq, if_false, if_true, or_true, or_false, true_or, false_or, List.map_cons, List.map_nil, List.length_cons, List.length_nil, Int.reduceAdd, List.cons_append, List.nil_append, List.append_nil])
        refine callq hA ?_
        simp -implicitDefEqProofs only [push_cast, Nat.reduceAdd, Nat.reduceSub, Nat.reduceMul, Nat.reduceLT, Nat.reduceLeDiff, Nat.reduceEqDiff, Nat.reduceBEq, reduceCtorEq, reduceIte, Int.reduceLE, Int.reduceLT, Int.reduceNeg, Int.reduceToNat, encQ, Int.reduceEq, if_false, if_true, or_true, or_false, true_or, false_or, List.map_cons, List.map_nil, List.length_cons, List.length_nil, Int.reduceAdd, List.cons_append, List.nil_append, List.append_nil]
      · simp -implicitDefEqProofs only [push_cast, Nat.reduceAdd, Nat.reduceSub, Nat.reduceMul, Nat.reduceLT, Nat.reduceLeDiff, Nat.reduceEqDiff, Nat.reduceBEq, reduceCtorEq, reduceIte, Int.reduceLE, Int.reduceLT, Int.reduceNeg, Int.reduceToNat, encQ]
        refine callq hF ?_
        simp -implicitDefEqProofs only [push_cast, Nat.reduceAdd, Nat.reduceSub, Nat.reduceMul, Nat.reduceLT, Nat.reduceLeDiff, Nat.reduceEqDiff, Nat.reduceBEq, reduceCtorEq, reduceIte, Int.reduceLE, Int.reduceLT, Int.reduceNeg, Int.reduceToNat, encQ]
        refine callq hC ?_
        simp -implicitDefEqProofs only [push_cast, Nat.reduceAdd, Nat.reduceSub, Nat.reduceMul, Nat.reduceLT, Nat.reduceLeDiff, Nat.reduceEqDiff, Nat.reduceBEq, reduceCtorEq, reduceIte, Int.reduceLE, Int.reduceLT, Int.reduceNeg, Int.reduceToNat, encQ, Int.reduceEq, if_false, if_true, or_true, or_false, true_or, false_or, List.map_cons, List.map_nil, List.length_cons, List.length_nil, Int.reduceAdd, List.cons_append, List.nil_append, List.append_nil, he', hen]
        refine areg_grow [some (.cells 1 [[.sl (c.map encD)]] 0), some (.cells 6 [encQ q] 0), some (.cells 7 [[.int op, .int occ, .int a, .int b, .sl (l.map encPl), .int e, .bool true]] 0)] 11 ?_ (by kernel_rfl) (by kernel_rfl) (by kernel_rfl) ?_
        · intro j o hj
          match j, hj with
          | 0, hj => exact hj
          | 1, hj => exact hj
          | 2, hj => exact hj
          | j + 3, hj => simp at hj
        simp -implicitDefEqProofs only [push_cast, Nat.reduceAdd, Nat.reduceSub, Nat.reduceMul, Nat.reduceLT, Nat.reduceLeDiff, Nat.reduceEqDiff, Nat.reduceBEq, reduceCtorEq, reduceIte, Int.reduceLE, Int.reduceLT, Int.reduceNeg, Int.reduceToNat, encQ, Int.reduceEq, if_false, if_true, or_true, or_false, true_or, false_or, List.map_cons, List.map_nil, List.length_cons, List.length_nil, Int.reduceAdd, List.cons_append, List.nil_append, List.append_nil, he', hen]
        refine ahdq hR ?_
        simp -implicitDefEqProofs only [push_cast, Nat.reduceAdd, Nat.reduceSub, Nat.reduceMul, Nat.reduceLT, Nat.reduceLeDiff, Nat.reduceEqDiff, Nat.reduceBEq, reduceCtorEq, reduceIte, Int.reduceLE, Int.reduceLT, Int.reduceNeg, Int.reduceToNat, encQ, Int.reduceEq, if_false, if_true, or_true, or_false, true_or, false_or, List.map_cons, List.map_nil, List.length_cons, List.length_nil, Int.reduceAdd, List.cons_append, List.nil_append, List.append_nil]
        refine ahdq (Group10_ok _ _) ?_
        simp -implicitDefEqProofs only [push_cast, Nat.reduceAdd, Nat.reduceSub, Nat.reduceMul, Nat.reduceLT, Nat.reduceLeDiff, Nat.reduceEqDiff, Nat.reduceBEq, reduceCtorEq, reduceIte, Int.reduceLE, Int.reduceLT, Int.reduceNeg, Int.reduceToNat, encQ, Int.reduceEq, if_false, if_true, or_true, or_false, true_or, false_or, List.map_cons, List.map_nil, List.length_cons, List.length_nil, Int.reduceAdd, List.cons_append, List.nil_append, List.append_nil]
        simp only [he', if_false, if_true, Bool.false_eq_true, List.cons_append, List.nil_append, List.append_nil] at hA
        refine callq (GroupsR_ok c hcl q hq hqi) ?_
        simp -implicitDefEqProofs only [push_cast, Nat.reduceAdd, Nat.reduceSub, Nat.reduceMul, Nat.reduceLT, Nat.reduceLeDiff, Nat.reduceEqDiff, Nat.reduceBEq, reduceCtorEq, reduceIte, Int.reduceLE, Int.reduceLT, Int.reduceNeg, Int.reduceToNat, encQ, Int.reduceEq, if_false, if_true, or_true, or_false, true_or, false_or, List.map_cons, List.map_nil, List.length_cons, List.length_nil, Int.reduceAdd, List.cons_append, List.nil_append, List.append_nil]
        refine callq (Sort10_ok _) ?_
        simp -implicitDefEqProofs only [push_cast, Nat.reduceAdd, Nat.reduceSub, Nat.reduceMul, Nat.reduceLT, Nat.reduceLeDiff, Nat.reduceEqDiff, Nat.reduceBEq, reduceCtorEq, reduceIte, Int.reduceLE, Int.reduceLT, Int.reduceNeg, Int.reduceToNat, encQ, Int.reduceEq, if_false, if_true, or_true, or_false, true_or, false_or, List.map_cons, List.map_nil, List.length_cons, List.length_nil, Int.reduceAdd, List.cons_append, List.nil_append, List.append_nil]
        refine fzk H 6 3 [.sl ([X, groupK (rowsQ c q 15) (decide (e = 1)), sortK (groupsQ c q)].map encI)] (by rfl) (by omega) (by simp) ?_ ?_
        · (try simp -implicitDefEqProofs only [push_cast, Nat.reduceAdd, Nat.reduceSub, Nat.reduceMul, Nat.reduceLT, Nat.reduceLeDiff, Nat.reduceEqDiff, Nat.reduceBEq, reduceCtorEq, reduceIte, Int.reduceLE, Int.reduceLT, Int.reduceNeg, Int.reduceToNat, encI, Int.reduceEq, if_false, if_true, or_true, or_false, true_or, false_or, List.map_cons, List.map_nil, List.length_cons, List.length_nil, Int.reduceAdd, List.cons_append, List.nil_append, List.append_nil])
        refine callq hA ?_
        simp -implicitDefEqProofs only [push_cast, Nat.reduceAdd, Nat.reduceSub, Nat.reduceMul, Nat.reduceLT, Nat.reduceLeDiff, Nat.reduceEqDiff, Nat.reduceBEq, reduceCtorEq, reduceIte, Int.reduceLE, Int.reduceLT, Int.reduceNeg, Int.reduceToNat, encQ, Int.reduceEq, if_false, if_true, or_true, or_false, true_or, false_or, List.map_cons, List.map_nil, List.length_cons, List.length_nil, Int.reduceAdd, List.cons_append, List.nil_append, List.append_nil]
end
end Go.Sim.Tryz
