/- The columns of an expression. Conditions: none. -/
import Derived.Test.YtnoajklojkmonaaGreatSimExpr2
import Derived.Test.YtnoajklojkmonaaGreatSimLib
set_option linter.unusedSimpArgs false
set_option linter.unusedVariables false
set_option maxRecDepth 100000
namespace Go.Sim.Tryz
open Go Go.Sim
attribute [local push_cast] aops_cons aops_nil aopG_none aopG_some aopP_eq aopE_eq aopC_eq aopE?_eq aopC?_eq gopP_eq gopL_eq ahead_cons ahead_nil ahdG_none ahdG_some ahdP_eq ahdN_eq ahdC_eq ahdN?_eq ahdS_eq ahdS?_eq astoreN ahdC?_eq ghdP_eq ghdC_eq ghdC?_eq ghdZ_eq opt_some opt_none no_eq acondT_true acondT_false acondT_lit aw_skip aw_region aw_regionD aw_seq aw_cond aw_block aw_loop aw_exit aw_label aw_ret thn_normal thn_exit thn_ret inb_normal inb_exit inb_ret qret_ret qret_normal gcond apure aeff anew acallee ares aresT aresL aresC ares1 qfin_eq ev ofV evL gokL tget tput_some tput_none initT abin aint aun aload afaddr aiaddr afield aindex aextract apick pickv_lit Bool.or_false Bool.false_or Bool.or_true Bool.true_or imp_self aslice abound aconv abuild afill splice alen aminmax abuiltin anil apart Value.oneCell' astore aappend srcEs abuildSlice asets isEq plus_obj plus_nxt plus_add plus_set plus_del IntKind.bits Option.map_some Option.map_none Option.bind_some Option.bind_none Option.join_some Option.getD_some Option.getD_none Option.toList Option.isSome_some List.getElem?_toArray List.getElem?_cons_zero List.getElem?_cons_succ List.getElem?_nil List.length_cons List.length_nil List.length_map List.head?_cons List.cons_append List.nil_append List.append_nil List.map_cons List.map_nil List.getD_cons_zero List.getD_cons_succ List.replicate_succ List.replicate_zero List.set_cons_zero List.set_cons_succ List.take_succ_cons List.take_zero List.drop_succ_cons List.drop_zero List.all_cons List.all_nil Nat.zero_add if_true if_false true_and and_true false_and and_false true_implies implies_true forall_const Bool.and_true Bool.true_and Bool.false_and Bool.and_false Bool.true_beq Bool.false_beq Bool.not_not beq_tt beq_ff Int.toNat_natCast decide_true decide_false Bool.not_true Bool.not_false Bool.true_eq_false Bool.false_eq_true false_implies exists_prop eq_self bne_self_eq_false beq_self_eq_true decide_eq_true_eq decide_eq_false_iff_not Bool.not_eq_true' Bool.not_eq_false' AV.int AV.bool AV.nilS ne_eq not_false_eq_true not_true_eq_false exists_eq_left exists_eq_left' Nat.lt_irrefl core_lit grd_lit acells_lit one_lit core_agg grd_agg acells_agg one_agg core_tup grd_tup acells_tup one_tup core_sl grd_sl acells_sl one_sl core_esl grd_esl acells_esl one_esl core_rsl grd_rsl acells_rsl one_rsl core_ptr grd_ptr acells_ptr one_ptr core_iptr grd_iptr acells_iptr one_iptr core_clo grd_clo acells_clo one_clo core_mp grd_mp acells_mp one_mp core_any grd_any acells_any one_any core_gv grd_gv fit_agg fit_lit fit_sl fit_esl fit_rsl fit_ptr fit_iptr fit_clo fit_mp retq_ret retq_normal set_nxt set_set plus_obj_set plus_set_set app_get0 app_get app_set0 app_set List.append_assoc List.length_append List.length_set Nat.lt_add_one Nat.add_lt_add_iff_right Nat.lt_add_right_iff_pos Nat.add_lt_add_iff_left List.mem_cons List.not_mem_nil or_false forall_eq forall_eq_or_imp lt_s0 lt_s1 lt_s2 lt_s3 lt_s4 lt_s5 lt_s6 lt_s7 lt_s8 pickv_t pickv_f or_nand or_nand2 imp_and_l SealT SealOs sealO_cells sl_lit sl_any sl_agg sl_tup sl_sl sl_rsl slO sl_esl sl_nil sl_eslesl sl_eslnil sl_rslrsl sl_eslrsl sl_nilrsl sl_ptr sl_iptr sl_ptri slP sl_clo sl_mp sl_gv sll_nil sll_cons slll_nil slll_cons shut_eq shutO Option.join_none Fn.func.injEq and_self sealL_self sealLL_self seal_self PureL PureLL Pure Nat.le_refl Nat.zero_le AV.lit.injEq Value.int.injEq Value.bool.injEq false_or or_true true_or Int.natCast_zero Int.ofNat_zero Int.cast_ofNat_Int Int.natCast_add Int.natCast_one Option.some.injEq piL_is sop_nil sop_cons sop_none sop_some sopO_some sop_new shut_pi shutL_nil shutL_cons exQ_exit exQ_ret exQ_normal Go.Sim.Tryz.ty_load1 Go.Sim.Tryz.ty_zero1 Go.Sim.Tryz.ty_load2 Go.Sim.Tryz.ty_zero2 Go.Sim.Tryz.ty_und2 Go.Sim.Tryz.ty_load3 Go.Sim.Tryz.ty_zero3 Go.Sim.Tryz.ty_und3 Go.Sim.Tryz.ty_load4 Go.Sim.Tryz.ty_zero4 Go.Sim.Tryz.ty_und4 Go.Sim.Tryz.ty_load5 Go.Sim.Tryz.ty_zero5 Go.Sim.Tryz.ty_und5 Go.Sim.Tryz.ty_load9 Go.Sim.Tryz.ty_zero9 Go.Sim.Tryz.ty_und9 Go.Sim.Tryz.ty_load23 Go.Sim.Tryz.ty_zero23 Go.Sim.Tryz.ty_fld23_0 Go.Sim.Tryz.ty_part23_0 Go.Sim.Tryz.ty_fld23_1 Go.Sim.Tryz.ty_part23_1 Go.Sim.Tryz.ty_struct23 Go.Sim.Tryz.ty_load24 Go.Sim.Tryz.ty_zero24 Go.Sim.Tryz.ty_el24 Go.Sim.Tryz.ty_zeroE24 Go.Sim.Tryz.ty_load26 Go.Sim.Tryz.ty_zero26 Go.Sim.Tryz.ty_fld26_0 Go.Sim.Tryz.ty_part26_0 Go.Sim.Tryz.ty_fld26_1 Go.Sim.Tryz.ty_part26_1 Go.Sim.Tryz.ty_fld26_2 Go.Sim.Tryz.ty_part26_2 Go.Sim.Tryz.ty_fld26_3 Go.Sim.Tryz.ty_part26_3 Go.Sim.Tryz.ty_struct26 Go.Sim.Tryz.ty_load27 Go.Sim.Tryz.ty_zero27 Go.Sim.Tryz.ty_el27 Go.Sim.Tryz.ty_zeroE27 Go.Sim.Tryz.ty_load28 Go.Sim.Tryz.ty_zero28 Go.Sim.Tryz.ty_el28 Go.Sim.Tryz.ty_zeroE28 Go.Sim.Tryz.ty_load30 Go.Sim.Tryz.ty_zero30 Go.Sim.Tryz.ty_load34 Go.Sim.Tryz.ty_zero34 Go.Sim.Tryz.ty_load46 Go.Sim.Tryz.ty_zero46 Go.Sim.Tryz.ty_load49 Go.Sim.Tryz.ty_zero49 Go.Sim.Tryz.ty_fld49_0 Go.Sim.Tryz.ty_part49_0 Go.Sim.Tryz.ty_fld49_1 Go.Sim.Tryz.ty_part49_1 Go.Sim.Tryz.ty_fld49_2 Go.Sim.Tryz.ty_part49_2 Go.Sim.Tryz.ty_struct49 Go.Sim.Tryz.ty_load54 Go.Sim.Tryz.ty_zero54 Go.Sim.Tryz.ty_und54 Go.Sim.Tryz.ty_load56 Go.Sim.Tryz.ty_zero56 Go.Sim.Tryz.ty_load61 Go.Sim.Tryz.ty_zero61 Go.Sim.Tryz.ty_und61 Go.Sim.Tryz.ty_load69 Go.Sim.Tryz.ty_zero69 Go.Sim.Tryz.ty_und69 Go.Sim.Tryz.ty_load71 Go.Sim.Tryz.ty_zero71 Go.Sim.Tryz.ty_und71 Go.Sim.Tryz.ty_load77 Go.Sim.Tryz.ty_zero77 Go.Sim.Tryz.ty_load84 Go.Sim.Tryz.ty_zero84 Go.Sim.Tryz.ty_und84 Go.Sim.Tryz.ty_load88 Go.Sim.Tryz.ty_zero88 encE_mk encE_take encE_len encV encE_one encEs_pure encE_pure

/-- A variable that holds a row of numbers of its own. -/
def stRow (i : Nat) : St (List Int) where
  inv s H B := (s = [] ∧ i < H.nxt ∧ H.obj i = some (.cells 1 [[.nilS]] 0) ∧ B = fun q => q = i) ∨
    ∃ j, j ≠ i ∧ i < H.nxt ∧ j < H.nxt ∧ H.obj i = some (.cells 1 [[.rsl j 1 0 s.length]] 0) ∧ H.obj j = some (.cells 1 (rowI s) 0) ∧ B = fun q => q = i ∨ q = j
  stable := by
    rintro s H H' B (⟨h1, h2, h3, rfl⟩ | ⟨j, h1, h2, h3, h4, h5, rfl⟩) k1 k2
    · exact .inl ⟨h1, by omega, by rw [k1 i rfl]; exact h3, rfl⟩
    · exact .inr ⟨j, h1, by omega, by omega, by rw [k1 i (.inl rfl)]; exact h4, by rw [k1 j (.inr rfl)]; exact h5, rfl⟩
  low := by
    rintro s H B (⟨h1, h2, h3, rfl⟩ | ⟨j, h1, h2, h3, h4, h5, rfl⟩) q hq
    · rw [hq]; exact h2
    · rcases hq with rfl | rfl
      · exact h2
      · exact h3

theorem stRow_push {H H1 : AH} {i : Nat} {B : Nat → Prop} {s : List Int} {l : List (Option AObj)} (hn : H1.nxt = H.nxt) (hB : B i) (hq : ∀ q, q < H.nxt → ¬ B q → H1.obj q = H.obj q) (hi : i < H.nxt) (k : Nat) (hk : l[k]? = some (some (.cells 1 (rowI s) 0)))
    (hio : H1.obj i = some (.cells 1 [[.rsl (H.nxt + k) 1 0 s.length]] 0)) : Moves (stRow i) s H B (H1.plus l) := by
  have hkl := (List.getElem?_eq_some_iff.1 hk).1
  have e : (H1.plus l).nxt = H.nxt + l.length := by rw [plus_nxt, hn]
  refine ⟨by omega, fun q h1 h2 => ?_, fun q => q = i ∨ q = H.nxt + k, .inr ⟨H.nxt + k, by omega, by omega, by omega, ?_, ?_, rfl⟩, fun q h => ?_⟩
  · rw [plus_low H1 l (by omega)]; exact hq q h1 h2
  · rw [plus_low H1 l (by omega)]; exact hio
  · rw [← hn, plus_obj, hk]; rfl
  · rcases h with rfl | rfl
    · exact .inl hB
    · right; omega
theorem Moves.new {σ : Type} {I : St σ} {s : σ} {H : AH} {B : Nat → Prop} (h : I.inv s H B) (l : List (Option AObj)) : Moves I s H B (H.plus l) :=
  ⟨Nat.le_add_right _ _, fun q hq _ => plus_low H l hq, B, St.grow h l, fun q hq => .inl hq⟩

def colStep (s : List Int) (e : Ex) (d : Int) : List Int × Bool := (if e.op = 1 then s ++ [e.col] else s, true)

theorem cols1_ok (i : Nat) (s : List Int) (e : Ex) (d : Int) (H : AH) (B : Nat → Prop) (hs1 : s.length < 1000000) (hI : (stRow i).inv s H B) :
    ACalls Go.Proofs.Tryz.prog 27 [.agg (encE e), .int d, .ptr i 1 0 0] H (fun r H' => r = .bool (colStep s e d).2 ∧ Moves (stRow i) (colStep s e d).1 H B H') := by
  obtain ⟨op, col, k, n, l⟩ := e
  refine acalls_sc (rs := #[.tmp 5]) Go.Proofs.Tryz.func27 rfl rfl rfl mixed rfl (Nat.le_of_ble_eq_true rfl) fun hs _ => ?_
  have hIc := hI
  rcases hI with ⟨rfl, h2, h3, rfl⟩ | ⟨j, h1, h2, h3, h4, h5, rfl⟩
  · have hob : ∀ l, (H.plus l).obj i = some (.cells 1 [[.nilS]] 0) := fun l => by rw [plus_low H l h2]; exact h3
    have hset : ∀ l o, (H.plus l).set i o = (H.set i o).plus l := fun l o => plus_setlow H l h2 o
    simp -implicitDefEqProofs only [push_cast, Nat.reduceAdd, Nat.reduceSub, Nat.reduceMul, Nat.reduceLT, Nat.reduceLeDiff, Nat.reduceEqDiff, Nat.reduceBEq, reduceCtorEq, reduceIte, Int.reduceLE, Int.reduceLT, Int.reduceNeg, Int.reduceToNat, hob, hset]
    refine ⟨fun h => retk trivial ⟨rfl, ?_⟩, fun h => retk trivial ⟨rfl, ?_⟩⟩
    · simp only [colStep, Ex.op, Ex.col, h, if_true, List.nil_append]
      refine stRow_push rfl rfl (fun q hq hb => ?_) h2 2 rfl ?_
      · show (if q = i then _ else H.obj q) = _
        rw [if_neg hb]
      · show (if i = i then _ else H.obj i) = _
        rw [if_pos rfl]
        rfl
    · simp only [colStep, Ex.op, h, if_false]
      exact Moves.new hIc _
  · have hob : ∀ l, (H.plus l).obj i = some (.cells 1 [[.rsl j 1 0 s.length]] 0) := fun l => by rw [plus_low H l h2]; exact h4
    have hoj : ∀ l, (H.plus l).obj j = some (.cells 1 (rowI s) 0) := fun l => by rw [plus_low H l h3]; exact h5
    have hdel : ∀ l, (H.plus l).del j = (H.del j).plus l := fun l => plus_dellow H l h3
    have hob2 : ∀ l, ((H.del j).plus l).obj i = some (.cells 1 [[.rsl j 1 0 s.length]] 0) := fun l => by
      rw [plus_low (H.del j) l h2]
      show (if i = j then none else H.obj i) = _
      rw [if_neg (Ne.symm h1), h4]
    have hset2 : ∀ l o, ((H.del j).plus l).set i o = ((H.del j).set i o).plus l := fun l o => plus_setlow (H.del j) l h2 o
    simp -implicitDefEqProofs only [push_cast, Nat.reduceAdd, Nat.reduceSub, Nat.reduceMul, Nat.reduceLT, Nat.reduceLeDiff, Nat.reduceEqDiff, Nat.reduceBEq, reduceCtorEq, reduceIte, Int.reduceLE, Int.reduceLT, Int.reduceNeg, Int.reduceToNat, hob, hoj, hdel, hob2, hset2, del_nxt]
    refine ⟨fun h => ⟨by omega, retk trivial ⟨rfl, ?_⟩⟩, fun h => retk trivial ⟨rfl, ?_⟩⟩
    · simp only [colStep, Ex.op, Ex.col, h, if_true]
      refine stRow_push rfl (.inl rfl) (fun q hq hb => ?_) h2 2 ?_ ?_
      · show (if q = i then _ else (if q = j then none else H.obj q)) = _
        rw [if_neg (fun e => hb (.inl e)), if_neg (fun e => hb (.inr e))]
      · simp only [List.getElem?_cons_succ, List.getElem?_cons_zero]
        rw [List.take_of_length_le (by simp [rowI]), rowI, rowI, List.map_append]
        rfl
      · show (if i = i then _ else _) = _
        rw [if_pos rfl, List.length_append]
        rfl
    · simp only [colStep, Ex.op, h, if_false]
      exact Moves.new hIc _

theorem sort_ok {i : Nat} {zs : List Int} {H : AH} (hz : zs.length < 4611686018427387904) (ho : H.obj i = some (.cells 1 (rowI zs) 0)) :
    ACalls Go.Proofs.Tryz.prog 28 [.rsl i 1 0 zs.length] H fun r H' => r = .tup [] ∧ H' = H.set i (.cells 1 (rowI (zs.mergeSort fun x y => decide (x ≤ y))) 0) :=
  sort_row Go.Proofs.Tryz.laysSort (by kernel_rfl) hz ho
theorem sortN_ok {H : AH} : ACalls Go.Proofs.Tryz.prog 28 [.nilS] H fun r H' => r = .tup [] ∧ H' = H := sort_nil Go.Proofs.Tryz.laysSort (by kernel_rfl)
theorem compact_ok {i : Nat} {zs : List Int} {H : AH} (hz : zs.length ≤ 9223372036854775807) (ho : H.obj i = some (.cells 1 (rowI zs) 0)) :
    ACalls Go.Proofs.Tryz.prog 29 [.rsl i 1 0 zs.length] H fun r H' => r = .rsl i 1 0 (Lib.compact zs).length ∧ H' = H.set i (.cells 1 (rowI (compactAll zs)) 0) :=
  compact_row Go.Proofs.Tryz.laysCompact (by kernel_rfl) hz ho
theorem compactN_ok {H : AH} : ACalls Go.Proofs.Tryz.prog 29 [.nilS] H fun r H' => r = .nilS ∧ H' = H := compact_nil Go.Proofs.Tryz.laysCompact (by kernel_rfl)

/-- The columns, as the parts have them. -/
def Ex.colsAll (e : Ex) : List Int := (eachS colStep e 1 []).1
def Ex.cols (e : Ex) : List Int := if e.may then Lib.compact (e.colsAll.mergeSort fun x y => decide (x ≤ y)) else []
theorem colsAll_len (e : Ex) : e.colsAll.length ≤ cnt e := by
  have := eachS_wt colStep List.length (fun s e d => by simp only [colStep]; split <;> simp) e 1 []
  simpa [Ex.colsAll] using this
theorem Cols_ok (e : Ex) (hok : e.Ok) (hc : cnt e ≤ 1000000) : Quiet Go.Proofs.Tryz.prog 13 [.agg (encE e)] (.sl (e.cols.map encI)) := by
  refine quiet_of (rs := #[.tmp 2]) Go.Proofs.Tryz.func13 rfl rfl rfl mixed rfl rfl fun H hs => ?_
  simp -implicitDefEqProofs only [push_cast, Nat.reduceAdd, Nat.reduceSub, Nat.reduceMul, Nat.reduceLT, Nat.reduceLeDiff, Nat.reduceEqDiff, Nat.reduceBEq, reduceCtorEq, reduceIte, Int.reduceLE, Int.reduceLT, Int.reduceNeg, Int.reduceToNat]
  refine callq (mayE_ok e hok) ?_
  simp -implicitDefEqProofs only [push_cast, Nat.reduceAdd, Nat.reduceSub, Nat.reduceMul, Nat.reduceLT, Nat.reduceLeDiff, Nat.reduceEqDiff, Nat.reduceBEq, reduceCtorEq, reduceIte, Int.reduceLE, Int.reduceLT, Int.reduceNeg, Int.reduceToNat]
  refine ⟨fun h => ?_, fun h => ?_⟩
  · (try simp -implicitDefEqProofs only [push_cast, Nat.reduceAdd, Nat.reduceSub, Nat.reduceMul, Nat.reduceLT, Nat.reduceLeDiff, Nat.reduceEqDiff, Nat.reduceBEq, reduceCtorEq, reduceIte, Int.reduceLE, Int.reduceLT, Int.reduceNeg, Int.reduceToNat])
    simp [Ex.cols, h]
  · have hcl := (each_ok (stRow (H.nxt + 1)) colStep _ [.ptr (H.nxt + 1) 1 0 0] List.length (fun s e d => by simp only [colStep]; split <;> simp) 1000000 (fun s e d H B _ hw hI => cols1_ok _ s e d H B hw hI) e 1 []
      (H.plus [some (.cells 5 [encE e] 0), some (.cells 1 [[.nilS]] 0)]) (fun q => q = H.nxt + 1) hok (by simpa using hc) (.inl ⟨rfl, by simp [plus_nxt], by rw [plus_obj]; rfl, rfl⟩)).hsc
    refine hcl.mono ?_
    rintro r H2 ⟨⟨rfl, hm⟩, hsc2, hle2, -⟩
    obtain ⟨l', rfl⟩ := hm.is_plus (fun q hq => by omega) hsc2
    obtain ⟨hm1, hm2, B', hB', hBB⟩ := hm
    have hz : e.colsAll.length ≤ 1000000 := Nat.le_trans (colsAll_len e) hc
    have hec : e.cols = Lib.compact (e.colsAll.mergeSort fun x y => decide (x ≤ y)) := by simp [Ex.cols, h]
    rcases hB' with ⟨hnil, _, hv, rfl⟩ | ⟨j, hj1, hj2, hj3, hv, hrow, rfl⟩
    · rw [plus_obj] at hv
      simp -implicitDefEqProofs only [push_cast, Nat.reduceAdd, Nat.reduceSub, Nat.reduceMul, Nat.reduceLT, Nat.reduceLeDiff, Nat.reduceEqDiff, Nat.reduceBEq, reduceCtorEq, reduceIte, Int.reduceLE, Int.reduceLT, Int.reduceNeg, Int.reduceToNat, hv]
      refine (sortN_ok).mono ?_
      rintro r H3 ⟨rfl, rfl⟩
      simp -implicitDefEqProofs only [push_cast, Nat.reduceAdd, Nat.reduceSub, Nat.reduceMul, Nat.reduceLT, Nat.reduceLeDiff, Nat.reduceEqDiff, Nat.reduceBEq, reduceCtorEq, reduceIte, Int.reduceLE, Int.reduceLT, Int.reduceNeg, Int.reduceToNat, hv]
      refine (compactN_ok).mono ?_
      rintro r H3 ⟨rfl, rfl⟩
      simp -implicitDefEqProofs only [push_cast, Nat.reduceAdd, Nat.reduceSub, Nat.reduceMul, Nat.reduceLT, Nat.reduceLeDiff, Nat.reduceEqDiff, Nat.reduceBEq, reduceCtorEq, reduceIte, Int.reduceLE, Int.reduceLT, Int.reduceNeg, Int.reduceToNat, hv]
      (try simp -implicitDefEqProofs only [push_cast, Nat.reduceAdd, Nat.reduceSub, Nat.reduceMul, Nat.reduceLT, Nat.reduceLeDiff, Nat.reduceEqDiff, Nat.reduceBEq, reduceCtorEq, reduceIte, Int.reduceLE, Int.reduceLT, Int.reduceNeg, Int.reduceToNat])
      rw [hec, Ex.colsAll, hnil]
      simp [Lib.compact, Lib.compactUpTo]
    · have hjn : H.nxt ≤ j := by
        rcases hBB j (.inr rfl) with h1 | h1
        · omega
        · rw [plus_nxt] at h1; omega
      obtain ⟨k, rfl⟩ : ∃ k, j = H.nxt + k := ⟨j - H.nxt, by omega⟩
      have hkl : k < l'.length := by rw [plus_nxt] at hj3; omega
      have hk1 : k ≠ 1 := by omega
      have hrow' := hrow
      rw [plus_obj] at hv hrow
      have hs1 : ∀ x, (H.plus l').set (H.nxt + k) x = H.plus (l'.set k (some x)) := fun x => plus_set H l' k x hkl
      have hv2 : ∀ x, ((l'.set k x)[1]?).join = some (.cells 1 [[.rsl (H.nxt + k) 1 0 e.colsAll.length]] 0) := fun x => by rw [List.getElem?_set_ne hk1]; exact hv
      have hr2 : ∀ x : AObj, ((l'.set k (some x))[k]?).join = some x := fun x => by rw [List.getElem?_set_self hkl]; rfl
      have hs2 : ∀ x y, (H.plus (l'.set k (some x))).set (H.nxt + k) y = H.plus (l'.set k (some y)) := fun x y => by
        rw [plus_set H _ k y (by rw [List.length_set]; exact hkl), List.set_set]
      simp -implicitDefEqProofs only [push_cast, Nat.reduceAdd, Nat.reduceSub, Nat.reduceMul, Nat.reduceLT, Nat.reduceLeDiff, Nat.reduceEqDiff, Nat.reduceBEq, reduceCtorEq, reduceIte, Int.reduceLE, Int.reduceLT, Int.reduceNeg, Int.reduceToNat, hv]
      refine (sort_ok (i := H.nxt + k) (zs := e.colsAll) (by omega) hrow').mono ?_
      rintro r H3 ⟨rfl, rfl⟩
      simp -implicitDefEqProofs only [push_cast, Nat.reduceAdd, Nat.reduceSub, Nat.reduceMul, Nat.reduceLT, Nat.reduceLeDiff, Nat.reduceEqDiff, Nat.reduceBEq, reduceCtorEq, reduceIte, Int.reduceLE, Int.reduceLT, Int.reduceNeg, Int.reduceToNat, hs1, hv2]
      have hcc := compact_ok (i := H.nxt + k) (zs := e.colsAll.mergeSort fun x y => decide (x ≤ y)) (H := H.plus (l'.set k (some (.cells 1 (rowI (e.colsAll.mergeSort fun x y => decide (x ≤ y))) 0)))) (by rw [List.length_mergeSort]; omega) (by rw [plus_obj]; exact hr2 _)
      rw [List.length_mergeSort] at hcc
      refine hcc.mono ?_
      rintro r H3 ⟨rfl, rfl⟩
      simp -implicitDefEqProofs only [push_cast, Nat.reduceAdd, Nat.reduceSub, Nat.reduceMul, Nat.reduceLT, Nat.reduceLeDiff, Nat.reduceEqDiff, Nat.reduceBEq, reduceCtorEq, reduceIte, Int.reduceLE, Int.reduceLT, Int.reduceNeg, Int.reduceToNat, hs1, hs2, hv2]
      rw [hr2]
      dsimp only
      have hcl := Lib.compact_length_le (e.colsAll.mergeSort fun x y => decide (x ≤ y))
      refine ⟨rfl, ?_, ?_⟩
      · simp [rowI, compactAll]
      · have hfun : rowI = fun l : List Int => l.map encI := rfl
        have he : (rowI (compactAll (e.colsAll.mergeSort fun x y => decide (x ≤ y)))).take (Lib.compact (e.colsAll.mergeSort fun x y => decide (x ≤ y))).length = e.cols.map encI := by
          rw [hec, hfun]
          simp only [← List.map_take, compactAll, List.take_left]
        rw [he]
        exact sealLL_pure _ _ _ (encIs_pure _)
end Go.Sim.Tryz
