/- Expressions, told in plain Lean, and how they lie in memory. Conditions: none. -/
import Derived.Test.YtnoajklojkmonaaGreatSimO
import Derived.Test.YtnoajklojkmonaaGreatSimTy
set_option linter.unusedSimpArgs false
set_option linter.unusedVariables false
set_option maxRecDepth 100000
namespace Go.Sim.Tryz
open Go Go.Sim

inductive Ex where
  | mk (op col k n : Int) (l : List Ex)

theorem Ex.ind {p : Ex → Prop} (h : ∀ op col k n l, (∀ x ∈ l, p x) → p (.mk op col k n l)) : ∀ e, p e
  | .mk op col k n l => h op col k n l fun x hx => Ex.ind h x
termination_by e => SizeOf.sizeOf e

structure Vl where
  k : Int
  n : Int
def encV (v : Vl) : List AV := [.int v.k, .int v.n]

mutual
def encE : Ex → List AV
  | .mk op col k n l => [.int op, .int col, .int k, .int n, .sl (encEs l)]
def encEs : List Ex → List (List AV)
  | [] => []
  | x :: l => encE x :: encEs l
end
theorem encEs_eq : ∀ l : List Ex, encEs l = l.map encE
  | [] => rfl
  | x :: l => by simp only [encEs, List.map_cons, encEs_eq l]
theorem encE_mk (op col k n : Int) (l : List Ex) : encE (.mk op col k n l) = [.int op, .int col, .int k, .int n, .sl (l.map encE)] := by rw [← encEs_eq, encE]
theorem encE_len (e : Ex) : (encE e).length = 5 := by cases e; rw [encE_mk]; rfl
theorem encE_take (e : Ex) : (encE e).take 5 = encE e := by rw [← encE_len e, List.take_length]
theorem encE_one (e : Ex) : (encE e).all AV.one = true := by cases e; rw [encE_mk]; rfl
theorem encE_pure (e : Ex) : PureL (encE e) := by
  induction e using Ex.ind with
  | h op col k n l ih =>
    rw [encE_mk]
    simp only [PureL, Pure, true_and, and_true, pureLL_iff, List.mem_map]
    rintro _ ⟨x, hx, rfl⟩
    exact ih x hx
theorem encEs_pure (l : List Ex) : PureLL (l.map encE) := by
  rw [pureLL_iff]
  simp only [List.mem_map]
  rintro _ ⟨x, _, rfl⟩
  exact encE_pure x
theorem encEs_get (l : List Ex) (i : Nat) (h : i < l.length) : (l.map encE).getD i [] = encE l[i] := getD_map encE l [] i h
attribute [local push_cast] aops_cons aops_nil aopG_none aopG_some aopP_eq aopE_eq aopC_eq aopE?_eq aopC?_eq gopP_eq gopL_eq ahead_cons ahead_nil ahdG_none ahdG_some ahdP_eq ahdN_eq ahdC_eq ahdN?_eq ahdS_eq ahdS?_eq astoreN ahdC?_eq ghdP_eq ghdC_eq ghdC?_eq ghdZ_eq opt_some opt_none no_eq acondT_true acondT_false acondT_lit aw_skip aw_region aw_regionD aw_seq aw_cond aw_block aw_loop aw_exit aw_label aw_ret thn_normal thn_exit thn_ret inb_normal inb_exit inb_ret qret_ret qret_normal gcond apure aeff anew acallee ares aresT aresL aresC ares1 qfin_eq ev ofV evL gokL tget tput_some tput_none initT abin aint aun aload afaddr aiaddr afield aindex aextract apick pickv_lit Bool.or_false Bool.false_or Bool.or_true Bool.true_or imp_self aslice abound aconv abuild afill splice alen aminmax abuiltin anil apart Value.oneCell' astore aappend srcEs abuildSlice asets isEq plus_obj plus_nxt plus_add plus_set plus_del IntKind.bits Option.map_some Option.map_none Option.bind_some Option.bind_none Option.join_some Option.getD_some Option.getD_none Option.toList Option.isSome_some List.getElem?_toArray List.getElem?_cons_zero List.getElem?_cons_succ List.getElem?_nil List.length_cons List.length_nil List.length_map List.head?_cons List.cons_append List.nil_append List.append_nil List.map_cons List.map_nil List.getD_cons_zero List.getD_cons_succ List.replicate_succ List.replicate_zero List.set_cons_zero List.set_cons_succ List.take_succ_cons List.take_zero List.drop_succ_cons List.drop_zero List.all_cons List.all_nil Nat.zero_add if_true if_false true_and and_true false_and and_false true_implies implies_true forall_const Bool.and_true Bool.true_and Bool.false_and Bool.and_false Bool.true_beq Bool.false_beq Bool.not_not beq_tt beq_ff Int.toNat_natCast decide_true decide_false Bool.not_true Bool.not_false Bool.true_eq_false Bool.false_eq_true false_implies exists_prop eq_self bne_self_eq_false beq_self_eq_true decide_eq_true_eq decide_eq_false_iff_not Bool.not_eq_true' Bool.not_eq_false' AV.int AV.bool AV.nilS ne_eq not_false_eq_true not_true_eq_false exists_eq_left exists_eq_left' Nat.lt_irrefl core_lit grd_lit acells_lit one_lit core_agg grd_agg acells_agg one_agg core_tup grd_tup acells_tup one_tup core_sl grd_sl acells_sl one_sl core_esl grd_esl acells_esl one_esl core_rsl grd_rsl acells_rsl one_rsl core_ptr grd_ptr acells_ptr one_ptr core_iptr grd_iptr acells_iptr one_iptr core_clo grd_clo acells_clo one_clo core_mp grd_mp acells_mp one_mp core_any grd_any acells_any one_any core_gv grd_gv fit_agg fit_lit fit_sl fit_esl fit_rsl fit_ptr fit_iptr fit_clo fit_mp retq_ret retq_normal set_nxt set_set plus_obj_set plus_set_set app_get0 app_get app_set0 app_set List.append_assoc List.length_append List.length_set Nat.lt_add_one Nat.add_lt_add_iff_right Nat.lt_add_right_iff_pos Nat.add_lt_add_iff_left List.mem_cons List.not_mem_nil or_false forall_eq forall_eq_or_imp lt_s0 lt_s1 lt_s2 lt_s3 lt_s4 lt_s5 lt_s6 lt_s7 lt_s8 pickv_t pickv_f or_nand or_nand2 imp_and_l SealT SealOs sealO_cells sl_lit sl_any sl_agg sl_tup sl_sl sl_rsl slO sl_esl sl_nil sl_eslesl sl_eslnil sl_rslrsl sl_eslrsl sl_nilrsl sl_ptr sl_iptr sl_ptri slP sl_clo sl_mp sl_gv sll_nil sll_cons slll_nil slll_cons shut_eq shutO Option.join_none Fn.func.injEq and_self sealL_self sealLL_self seal_self PureL PureLL Pure Nat.le_refl Nat.zero_le AV.lit.injEq Value.int.injEq Value.bool.injEq false_or or_true true_or Int.natCast_zero Int.ofNat_zero Int.cast_ofNat_Int Int.natCast_add Int.natCast_one Option.some.injEq piL_is sop_nil sop_cons sop_none sop_some sopO_some sop_new shut_pi shutL_nil shutL_cons exQ_exit exQ_ret exQ_normal Go.Sim.Tryz.ty_load1 Go.Sim.Tryz.ty_zero1 Go.Sim.Tryz.ty_load2 Go.Sim.Tryz.ty_zero2 Go.Sim.Tryz.ty_und2 Go.Sim.Tryz.ty_load3 Go.Sim.Tryz.ty_zero3 Go.Sim.Tryz.ty_und3 Go.Sim.Tryz.ty_load4 Go.Sim.Tryz.ty_zero4 Go.Sim.Tryz.ty_und4 Go.Sim.Tryz.ty_load5 Go.Sim.Tryz.ty_zero5 Go.Sim.Tryz.ty_und5 Go.Sim.Tryz.ty_load9 Go.Sim.Tryz.ty_zero9 Go.Sim.Tryz.ty_und9 Go.Sim.Tryz.ty_load23 Go.Sim.Tryz.ty_zero23 Go.Sim.Tryz.ty_fld23_0 Go.Sim.Tryz.ty_part23_0 Go.Sim.Tryz.ty_fld23_1 Go.Sim.Tryz.ty_part23_1 Go.Sim.Tryz.ty_struct23 Go.Sim.Tryz.ty_load24 Go.Sim.Tryz.ty_zero24 Go.Sim.Tryz.ty_el24 Go.Sim.Tryz.ty_zeroE24 Go.Sim.Tryz.ty_load26 Go.Sim.Tryz.ty_zero26 Go.Sim.Tryz.ty_fld26_0 Go.Sim.Tryz.ty_part26_0 Go.Sim.Tryz.ty_fld26_1 Go.Sim.Tryz.ty_part26_1 Go.Sim.Tryz.ty_fld26_2 Go.Sim.Tryz.ty_part26_2 Go.Sim.Tryz.ty_fld26_3 Go.Sim.Tryz.ty_part26_3 Go.Sim.Tryz.ty_struct26 Go.Sim.Tryz.ty_load27 Go.Sim.Tryz.ty_zero27 Go.Sim.Tryz.ty_el27 Go.Sim.Tryz.ty_zeroE27 Go.Sim.Tryz.ty_load28 Go.Sim.Tryz.ty_zero28 Go.Sim.Tryz.ty_el28 Go.Sim.Tryz.ty_zeroE28 Go.Sim.Tryz.ty_load30 Go.Sim.Tryz.ty_zero30 Go.Sim.Tryz.ty_load34 Go.Sim.Tryz.ty_zero34 Go.Sim.Tryz.ty_load46 Go.Sim.Tryz.ty_zero46 Go.Sim.Tryz.ty_load49 Go.Sim.Tryz.ty_zero49 Go.Sim.Tryz.ty_fld49_0 Go.Sim.Tryz.ty_part49_0 Go.Sim.Tryz.ty_fld49_1 Go.Sim.Tryz.ty_part49_1 Go.Sim.Tryz.ty_fld49_2 Go.Sim.Tryz.ty_part49_2 Go.Sim.Tryz.ty_struct49 Go.Sim.Tryz.ty_load54 Go.Sim.Tryz.ty_zero54 Go.Sim.Tryz.ty_und54 Go.Sim.Tryz.ty_load56 Go.Sim.Tryz.ty_zero56 Go.Sim.Tryz.ty_load61 Go.Sim.Tryz.ty_zero61 Go.Sim.Tryz.ty_und61 Go.Sim.Tryz.ty_load69 Go.Sim.Tryz.ty_zero69 Go.Sim.Tryz.ty_und69 Go.Sim.Tryz.ty_load71 Go.Sim.Tryz.ty_zero71 Go.Sim.Tryz.ty_und71 Go.Sim.Tryz.ty_load77 Go.Sim.Tryz.ty_zero77 Go.Sim.Tryz.ty_load84 Go.Sim.Tryz.ty_zero84 Go.Sim.Tryz.ty_und84 Go.Sim.Tryz.ty_load88 Go.Sim.Tryz.ty_zero88 encE_mk encE_take encE_len encV encE_one encEs_pure encE_pure

/-- No list is longer than memory. -/
inductive Ex.Ok : Ex → Prop
  | mk {op col k n : Int} {l : List Ex} (h1 : l.length ≤ 140737488355328) (h2 : ∀ x ∈ l, x.Ok) : Ex.Ok (.mk op col k n l)

mutual
def sz : Ex → Int → Int
  | .mk _ _ _ _ l, m => szL l m 1
def szL : List Ex → Int → Int → Int
  | [], _, n => n
  | x :: l, m, n => if n ≤ m then szL l m (n + sz x (m - n)) else n
end
mutual
theorem sz_bound : ∀ (e : Ex) (m : Int), 0 ≤ m → 1 ≤ sz e m ∧ sz e m ≤ m + 1
  | .mk _ _ _ _ l, m, h => by rw [sz]; exact szL_bound l m 1 h (by omega) (by omega)
theorem szL_bound : ∀ (l : List Ex) (m n : Int), 0 ≤ m → 1 ≤ n → n ≤ m + 1 → 1 ≤ szL l m n ∧ szL l m n ≤ m + 1
  | [], m, n, h, h1, h2 => by rw [szL]; exact ⟨h1, h2⟩
  | x :: l, m, n, h, h1, h2 => by
    rw [szL]
    split
    · have := sz_bound x (m - n) (by omega)
      exact szL_bound l m _ h (by omega) (by omega)
    · exact ⟨h1, h2⟩
end

/- How many parts. -/
mutual
def cnt : Ex → Nat
  | .mk _ _ _ _ l => 1 + cntL l
def cntL : List Ex → Nat
  | [] => 0
  | x :: l => cnt x + cntL l
end
theorem mixed : Go.Proofs.Tryz.prog.follows .mixedOrders = true := by kernel_rfl

theorem size_ok (e : Ex) : ∀ (m : Int), 0 ≤ m → m ≤ 1000 → e.Ok → Quiet Go.Proofs.Tryz.prog 20 [.agg (encE e), .int m] (.int (sz e m)) := by
  induction e using Ex.ind with
  | h op col k n l ih =>
  intro m h0 h1 hok
  refine quiet_of (rs := #[.tmp 4]) Go.Proofs.Tryz.func20 rfl rfl rfl mixed rfl rfl fun H hs => ?_
  obtain ⟨hl, hlo⟩ := hok
  simp -implicitDefEqProofs only [push_cast, Nat.reduceAdd, Nat.reduceSub, Nat.reduceMul, Nat.reduceLT, Nat.reduceLeDiff, Nat.reduceEqDiff, Nat.reduceBEq, reduceCtorEq, reduceIte, Int.reduceLE, Int.reduceLT, Int.reduceNeg, Int.reduceToNat]
  refine loop_rule hs (σ := Nat × Int) (fun s => s.1 ≤ l.length ∧ 1 ≤ s.2 ∧ s.2 ≤ m + 1 ∧ szL (l.drop s.1) m s.2 = szL l m 1) (fun s => l.length - s.1)
    (fun s => [(2, .ptr (H.nxt + 0) 5 0 0), (1, .int m), (5, .int s.2), (6, .int s.1)]) (fun _ => [some (.cells 5 [encE (.mk op col k n l)] 0)]) (0, 1) ⟨by simp, by omega, by omega, rfl⟩ ?_ ?_ ?_
  · (try simp -implicitDefEqProofs only [push_cast, Nat.reduceAdd, Nat.reduceSub, Nat.reduceMul, Nat.reduceLT, Nat.reduceLeDiff, Nat.reduceEqDiff, Nat.reduceBEq, reduceCtorEq, reduceIte, Int.reduceLE, Int.reduceLT, Int.reduceNeg, Int.reduceToNat])
  · (try simp -implicitDefEqProofs only [push_cast, Nat.reduceAdd, Nat.reduceSub, Nat.reduceMul, Nat.reduceLT, Nat.reduceLeDiff, Nat.reduceEqDiff, Nat.reduceBEq, reduceCtorEq, reduceIte, Int.reduceLE, Int.reduceLT, Int.reduceNeg, Int.reduceToNat])
  · rintro ⟨i, s⟩ ⟨h2, h3, h4, h5⟩
    dsimp only at h2 h3 h4 h5
    by_cases hi : i < l.length
    · have hi' : ((i : Int) < (l.length : Int)) = True := by simp; omega
      have hi0 : (0 ≤ (i : Int)) = True := by simp
      by_cases hm : s ≤ m
      · simp -implicitDefEqProofs only [push_cast, Nat.reduceAdd, Nat.reduceSub, Nat.reduceMul, Nat.reduceLT, Nat.reduceLeDiff, Nat.reduceEqDiff, Nat.reduceBEq, reduceCtorEq, reduceIte, Int.reduceLE, Int.reduceLT, Int.reduceNeg, Int.reduceToNat, hi', hi0, hm, encEs_get l i hi]
        rw [wrap64 (n := m - s) (by omega) (by omega)]
        refine callq (ih _ (List.getElem_mem hi) _ (by omega) (by omega) (hlo _ (List.getElem_mem hi))) ?_
        have hb := sz_bound l[i] (m - s) (by omega)
        simp -implicitDefEqProofs only [push_cast, Nat.reduceAdd, Nat.reduceSub, Nat.reduceMul, Nat.reduceLT, Nat.reduceLeDiff, Nat.reduceEqDiff, Nat.reduceBEq, reduceCtorEq, reduceIte, Int.reduceLE, Int.reduceLT, Int.reduceNeg, Int.reduceToNat]
        rw [wrap64 (n := s + _) (by omega) (by omega), wrap64 (n := (i : Int) + 1) (by omega) (by omega)]
        refine next_intro (i + 1, s + sz l[i] (m - s)) ⟨by omega, by omega, by omega, ?_⟩ (by dsimp only; omega) ?_ ?_
        · rw [← h5, List.drop_eq_getElem_cons hi, szL, if_pos hm]
        · (try simp -implicitDefEqProofs only [push_cast, Nat.reduceAdd, Nat.reduceSub, Nat.reduceMul, Nat.reduceLT, Nat.reduceLeDiff, Nat.reduceEqDiff, Nat.reduceBEq, reduceCtorEq, reduceIte, Int.reduceLE, Int.reduceLT, Int.reduceNeg, Int.reduceToNat])
        · (try simp -implicitDefEqProofs only [push_cast, Nat.reduceAdd, Nat.reduceSub, Nat.reduceMul, Nat.reduceLT, Nat.reduceLeDiff, Nat.reduceEqDiff, Nat.reduceBEq, reduceCtorEq, reduceIte, Int.reduceLE, Int.reduceLT, Int.reduceNeg, Int.reduceToNat])
      · simp -implicitDefEqProofs only [push_cast, Nat.reduceAdd, Nat.reduceSub, Nat.reduceMul, Nat.reduceLT, Nat.reduceLeDiff, Nat.reduceEqDiff, Nat.reduceBEq, reduceCtorEq, reduceIte, Int.reduceLE, Int.reduceLT, Int.reduceNeg, Int.reduceToNat, hi', hi0, hm]; (try simp -implicitDefEqProofs only [push_cast, Nat.reduceAdd, Nat.reduceSub, Nat.reduceMul, Nat.reduceLT, Nat.reduceLeDiff, Nat.reduceEqDiff, Nat.reduceBEq, reduceCtorEq, reduceIte, Int.reduceLE, Int.reduceLT, Int.reduceNeg, Int.reduceToNat])
        rw [sz, ← h5, List.drop_eq_getElem_cons hi, szL, if_neg hm]
    · have hi' : ((i : Int) < (l.length : Int)) = False := by simp; omega
      simp -implicitDefEqProofs only [push_cast, Nat.reduceAdd, Nat.reduceSub, Nat.reduceMul, Nat.reduceLT, Nat.reduceLeDiff, Nat.reduceEqDiff, Nat.reduceBEq, reduceCtorEq, reduceIte, Int.reduceLE, Int.reduceLT, Int.reduceNeg, Int.reduceToNat, hi']; (try simp -implicitDefEqProofs only [push_cast, Nat.reduceAdd, Nat.reduceSub, Nat.reduceMul, Nat.reduceLT, Nat.reduceLeDiff, Nat.reduceEqDiff, Nat.reduceBEq, reduceCtorEq, reduceIte, Int.reduceLE, Int.reduceLT, Int.reduceNeg, Int.reduceToNat])
      rw [sz, ← h5, List.drop_eq_nil_of_le (by omega), szL]
end Go.Sim.Tryz
