/- What an expression comes to. Conditions: none. -/
import Derived.Test.YtnoajklojkmonaaGreatSimMay
set_option linter.unusedSimpArgs false
set_option linter.unusedVariables false
set_option maxRecDepth 100000
namespace Go.Sim.Tryz
open Go Go.Sim
attribute [local push_cast] aops_cons aops_nil aopG_none aopG_some aopP_eq aopE_eq aopC_eq aopE?_eq aopC?_eq gopP_eq gopL_eq ahead_cons ahead_nil ahdG_none ahdG_some ahdP_eq ahdN_eq ahdC_eq ahdN?_eq ahdS_eq ahdS?_eq astoreN ahdC?_eq ghdP_eq ghdC_eq ghdC?_eq ghdZ_eq opt_some opt_none no_eq acondT_true acondT_false acondT_lit aw_skip aw_region aw_regionD aw_seq aw_cond aw_block aw_loop aw_exit aw_label aw_ret thn_normal thn_exit thn_ret inb_normal inb_exit inb_ret qret_ret qret_normal gcond apure aeff anew acallee ares aresT aresL aresC ares1 qfin_eq ev ofV evL gokL tget tput_some tput_none initT abin aint aun aload afaddr aiaddr afield aindex aextract apick pickv_lit Bool.or_false Bool.false_or Bool.or_true Bool.true_or imp_self aslice abound aconv abuild afill splice alen aminmax abuiltin anil apart Value.oneCell' astore aappend srcEs abuildSlice asets isEq plus_obj plus_nxt plus_add plus_set plus_del IntKind.bits Option.map_some Option.map_none Option.bind_some Option.bind_none Option.join_some Option.getD_some Option.getD_none Option.toList Option.isSome_some List.getElem?_toArray List.getElem?_cons_zero List.getElem?_cons_succ List.getElem?_nil List.length_cons List.length_nil List.length_map List.head?_cons List.cons_append List.nil_append List.append_nil List.map_cons List.map_nil List.getD_cons_zero List.getD_cons_succ List.replicate_succ List.replicate_zero List.set_cons_zero List.set_cons_succ List.take_succ_cons List.take_zero List.drop_succ_cons List.drop_zero List.all_cons List.all_nil Nat.zero_add if_true if_false true_and and_true false_and and_false true_implies implies_true forall_const Bool.and_true Bool.true_and Bool.false_and Bool.and_false Bool.true_beq Bool.false_beq Bool.not_not beq_tt beq_ff Int.toNat_natCast decide_true decide_false Bool.not_true Bool.not_false Bool.true_eq_false Bool.false_eq_true false_implies exists_prop eq_self bne_self_eq_false beq_self_eq_true decide_eq_true_eq decide_eq_false_iff_not Bool.not_eq_true' Bool.not_eq_false' AV.int AV.bool AV.nilS ne_eq not_false_eq_true not_true_eq_false exists_eq_left exists_eq_left' Nat.lt_irrefl core_lit grd_lit acells_lit one_lit core_agg grd_agg acells_agg one_agg core_tup grd_tup acells_tup one_tup core_sl grd_sl acells_sl one_sl core_esl grd_esl acells_esl one_esl core_rsl grd_rsl acells_rsl one_rsl core_ptr grd_ptr acells_ptr one_ptr core_iptr grd_iptr acells_iptr one_iptr core_clo grd_clo acells_clo one_clo core_mp grd_mp acells_mp one_mp core_any grd_any acells_any one_any core_gv grd_gv fit_agg fit_lit fit_sl fit_esl fit_rsl fit_ptr fit_iptr fit_clo fit_mp retq_ret retq_normal set_nxt set_set plus_obj_set plus_set_set app_get0 app_get app_set0 app_set List.append_assoc List.length_append List.length_set Nat.lt_add_one Nat.add_lt_add_iff_right Nat.lt_add_right_iff_pos Nat.add_lt_add_iff_left List.mem_cons List.not_mem_nil or_false forall_eq forall_eq_or_imp lt_s0 lt_s1 lt_s2 lt_s3 lt_s4 lt_s5 lt_s6 lt_s7 lt_s8 pickv_t pickv_f or_nand or_nand2 imp_and_l SealT SealOs sealO_cells sl_lit sl_any sl_agg sl_tup sl_sl sl_rsl slO sl_esl sl_nil sl_eslesl sl_eslnil sl_rslrsl sl_eslrsl sl_nilrsl sl_ptr sl_iptr sl_ptri slP sl_clo sl_mp sl_gv sll_nil sll_cons slll_nil slll_cons shut_eq shutO Option.join_none Fn.func.injEq and_self sealL_self sealLL_self seal_self PureL PureLL Pure Nat.le_refl Nat.zero_le AV.lit.injEq Value.int.injEq Value.bool.injEq false_or or_true true_or Int.natCast_zero Int.ofNat_zero Int.cast_ofNat_Int Int.natCast_add Int.natCast_one Option.some.injEq piL_is sop_nil sop_cons sop_none sop_some sopO_some sop_new shut_pi shutL_nil shutL_cons exQ_exit exQ_ret exQ_normal Go.Sim.Tryz.ty_load1 Go.Sim.Tryz.ty_zero1 Go.Sim.Tryz.ty_load2 Go.Sim.Tryz.ty_zero2 Go.Sim.Tryz.ty_und2 Go.Sim.Tryz.ty_load3 Go.Sim.Tryz.ty_zero3 Go.Sim.Tryz.ty_und3 Go.Sim.Tryz.ty_load4 Go.Sim.Tryz.ty_zero4 Go.Sim.Tryz.ty_und4 Go.Sim.Tryz.ty_load5 Go.Sim.Tryz.ty_zero5 Go.Sim.Tryz.ty_und5 Go.Sim.Tryz.ty_load9 Go.Sim.Tryz.ty_zero9 Go.Sim.Tryz.ty_und9 Go.Sim.Tryz.ty_load23 Go.Sim.Tryz.ty_zero23 Go.Sim.Tryz.ty_fld23_0 Go.Sim.Tryz.ty_part23_0 Go.Sim.Tryz.ty_fld23_1 Go.Sim.Tryz.ty_part23_1 Go.Sim.Tryz.ty_struct23 Go.Sim.Tryz.ty_load24 Go.Sim.Tryz.ty_zero24 Go.Sim.Tryz.ty_el24 Go.Sim.Tryz.ty_zeroE24 Go.Sim.Tryz.ty_load26 Go.Sim.Tryz.ty_zero26 Go.Sim.Tryz.ty_fld26_0 Go.Sim.Tryz.ty_part26_0 Go.Sim.Tryz.ty_fld26_1 Go.Sim.Tryz.ty_part26_1 Go.Sim.Tryz.ty_fld26_2 Go.Sim.Tryz.ty_part26_2 Go.Sim.Tryz.ty_fld26_3 Go.Sim.Tryz.ty_part26_3 Go.Sim.Tryz.ty_struct26 Go.Sim.Tryz.ty_load27 Go.Sim.Tryz.ty_zero27 Go.Sim.Tryz.ty_el27 Go.Sim.Tryz.ty_zeroE27 Go.Sim.Tryz.ty_load28 Go.Sim.Tryz.ty_zero28 Go.Sim.Tryz.ty_el28 Go.Sim.Tryz.ty_zeroE28 Go.Sim.Tryz.ty_load30 Go.Sim.Tryz.ty_zero30 Go.Sim.Tryz.ty_load34 Go.Sim.Tryz.ty_zero34 Go.Sim.Tryz.ty_load46 Go.Sim.Tryz.ty_zero46 Go.Sim.Tryz.ty_load49 Go.Sim.Tryz.ty_zero49 Go.Sim.Tryz.ty_fld49_0 Go.Sim.Tryz.ty_part49_0 Go.Sim.Tryz.ty_fld49_1 Go.Sim.Tryz.ty_part49_1 Go.Sim.Tryz.ty_fld49_2 Go.Sim.Tryz.ty_part49_2 Go.Sim.Tryz.ty_struct49 Go.Sim.Tryz.ty_load54 Go.Sim.Tryz.ty_zero54 Go.Sim.Tryz.ty_und54 Go.Sim.Tryz.ty_load56 Go.Sim.Tryz.ty_zero56 Go.Sim.Tryz.ty_load61 Go.Sim.Tryz.ty_zero61 Go.Sim.Tryz.ty_und61 Go.Sim.Tryz.ty_load69 Go.Sim.Tryz.ty_zero69 Go.Sim.Tryz.ty_und69 Go.Sim.Tryz.ty_load71 Go.Sim.Tryz.ty_zero71 Go.Sim.Tryz.ty_und71 Go.Sim.Tryz.ty_load77 Go.Sim.Tryz.ty_zero77 Go.Sim.Tryz.ty_load84 Go.Sim.Tryz.ty_zero84 Go.Sim.Tryz.ty_und84 Go.Sim.Tryz.ty_load88 Go.Sim.Tryz.ty_zero88 encE_mk encE_take encE_len encV encE_one encEs_pure encE_pure

theorem encIs_get (l : List Int) (i : Nat) (h : i < l.length) : (l.map encI).getD i [] = encI l[i] := getD_map encI l [] i h
theorem encIs_pure (l : List Int) : PureLL (l.map encI) := by
  rw [pureLL_iff]
  simp only [List.mem_map]
  rintro _ ⟨x, _, rfl⟩
  simp [encI, PureL, Pure]

/-- 0, 1, .. -/
def upto (n : Nat) : List Int := (List.range n).map Int.ofNat
theorem upto_len (n : Nat) : (upto n).length = n := by simp [upto]
theorem upto_zero : upto 0 = [] := rfl
theorem rowI_nil : rowI [] = [] := rfl
theorem upto_succ (n : Nat) : rowI (upto n) ++ [[.lit (.int .i64 (n : Int))]] = rowI (upto (n + 1)) := by
  simp only [upto, rowI, List.range_succ, List.map_append, List.map_cons, List.map_nil]
  rfl
theorem take_rowI (l : List Int) (n : Nat) (h : l.length ≤ n) : List.take n (rowI l) = rowI l := List.take_of_length_le (by simpa [rowI] using h)
theorem rowI_pure (l : List Int) : PureLL (rowI l) := encIs_pure l
theorem rowI_one (l : List Int) : (∀ e ∈ rowI l, e.length = 1) = True := by
  simp only [rowI, List.mem_map, eq_iff_iff, iff_true]
  rintro _ ⟨x, _, rfl⟩
  rfl

theorem index_ok (l : List Int) (hl : l.length ≤ 140737488355328) (x : Int) : Quiet Go.Proofs.Tryz.prog 41 [.sl (l.map encI), .int x] (.int (idx (fun c => decide (x = c)) l)) := by
  refine quiet_of (rs := #[.tmp 4]) Go.Proofs.Tryz.func41 rfl rfl rfl mixed rfl rfl fun H hs => ?_
  simp -implicitDefEqProofs only [push_cast, Nat.reduceAdd, Nat.reduceSub, Nat.reduceMul, Nat.reduceLT, Nat.reduceLeDiff, Nat.reduceEqDiff, Nat.reduceBEq, reduceCtorEq, reduceIte, Int.reduceLE, Int.reduceLT, Int.reduceNeg, Int.reduceToNat]
  refine loop_rule hs (σ := Nat) (fun i => i ≤ l.length ∧ ∀ (j : Nat) (h : j < l.length), j < i → decide (x = l[j]) = false) (fun i => l.length - i)
    (fun i => [(0, .sl (l.map encI)), (1, .int x), (7, .int l.length), (8, .int i)]) (fun _ => []) 0 ⟨by omega, fun j _ h => by omega⟩ ?_ ?_ ?_
  · (try simp -implicitDefEqProofs only [push_cast, Nat.reduceAdd, Nat.reduceSub, Nat.reduceMul, Nat.reduceLT, Nat.reduceLeDiff, Nat.reduceEqDiff, Nat.reduceBEq, reduceCtorEq, reduceIte, Int.reduceLE, Int.reduceLT, Int.reduceNeg, Int.reduceToNat, encIs_pure])
  · (try simp -implicitDefEqProofs only [push_cast, Nat.reduceAdd, Nat.reduceSub, Nat.reduceMul, Nat.reduceLT, Nat.reduceLeDiff, Nat.reduceEqDiff, Nat.reduceBEq, reduceCtorEq, reduceIte, Int.reduceLE, Int.reduceLT, Int.reduceNeg, Int.reduceToNat])
  · rintro i ⟨h2, h3⟩
    by_cases hi : i < l.length
    · have hi' : ((i : Int) < (l.length : Int)) = True := by simp; omega
      have hi0 : (0 ≤ (i : Int)) = True := by simp
      simp -implicitDefEqProofs only [push_cast, Nat.reduceAdd, Nat.reduceSub, Nat.reduceMul, Nat.reduceLT, Nat.reduceLeDiff, Nat.reduceEqDiff, Nat.reduceBEq, reduceCtorEq, reduceIte, Int.reduceLE, Int.reduceLT, Int.reduceNeg, Int.reduceToNat, hi', hi0, encIs_get l i hi, encI]
      refine ⟨fun h => ?_, fun h => ?_⟩
      · (try simp -implicitDefEqProofs only [push_cast, Nat.reduceAdd, Nat.reduceSub, Nat.reduceMul, Nat.reduceLT, Nat.reduceLeDiff, Nat.reduceEqDiff, Nat.reduceBEq, reduceCtorEq, reduceIte, Int.reduceLE, Int.reduceLT, Int.reduceNeg, Int.reduceToNat])
        exact (idx_hit (p := fun c => decide (x = c)) hi h3 (by simpa using h)).symm
      · rw [wrap64 (n := (i : Int) + 1) (by omega) (by omega)]
        refine next_intro (i + 1) ⟨by omega, fun j hj hji => ?_⟩ (by omega) ?_ ?_
        · rcases Nat.lt_or_ge j i with h4 | h4
          · simpa using h3 j hj h4
          · obtain rfl : j = i := by omega
            simpa using h
        · (try simp -implicitDefEqProofs only [push_cast, Nat.reduceAdd, Nat.reduceSub, Nat.reduceMul, Nat.reduceLT, Nat.reduceLeDiff, Nat.reduceEqDiff, Nat.reduceBEq, reduceCtorEq, reduceIte, Int.reduceLE, Int.reduceLT, Int.reduceNeg, Int.reduceToNat, encIs_pure])
        · (try simp -implicitDefEqProofs only [push_cast, Nat.reduceAdd, Nat.reduceSub, Nat.reduceMul, Nat.reduceLT, Nat.reduceLeDiff, Nat.reduceEqDiff, Nat.reduceBEq, reduceCtorEq, reduceIte, Int.reduceLE, Int.reduceLT, Int.reduceNeg, Int.reduceToNat])
    · have hi' : ((i : Int) < (l.length : Int)) = False := by simp; omega
      simp -implicitDefEqProofs only [push_cast, Nat.reduceAdd, Nat.reduceSub, Nat.reduceMul, Nat.reduceLT, Nat.reduceLeDiff, Nat.reduceEqDiff, Nat.reduceBEq, reduceCtorEq, reduceIte, Int.reduceLE, Int.reduceLT, Int.reduceNeg, Int.reduceToNat, hi']
      (try simp -implicitDefEqProofs only [push_cast, Nat.reduceAdd, Nat.reduceSub, Nat.reduceMul, Nat.reduceLT, Nat.reduceLeDiff, Nat.reduceEqDiff, Nat.reduceBEq, reduceCtorEq, reduceIte, Int.reduceLE, Int.reduceLT, Int.reduceNeg, Int.reduceToNat])
      exact (idx_miss (p := fun c => decide (x = c)) fun j hj => h3 j hj (by omega)).symm

theorem idx_cases {α : Type} (p : α → Bool) (l : List α) : idx p l = -1 ∨ ∃ q : Nat, q < l.length ∧ idx p l = q := by
  unfold idx
  split
  · rename_i h
    refine .inr ⟨l.findIdx p, ?_, rfl⟩
    exact List.findIdx_lt_length.2 (List.any_eq_true.1 h)
  · exact .inl rfl
def look (cols : List Int) (row : List Vl) (c : Int) : Vl :=
  if idx (fun x => decide (c = x)) cols < 0 ∨ (row.length : Int) ≤ idx (fun x => decide (c = x)) cols then .bad else row.getD (idx (fun x => decide (c = x)) cols).toNat .bad
mutual
def evalE (cols : List Int) (row : List Vl) : Ex → Vl
  | .mk op col k n l => if op = 0 then ⟨k, n⟩ else if op = 1 then look cols row col else Vl.way op (evalL cols row l)
def evalL (cols : List Int) (row : List Vl) : List Ex → List Vl
  | [] => []
  | x :: l => evalE cols row x :: evalL cols row l
end
theorem evalL_eq (cols : List Int) (row : List Vl) : ∀ l, evalL cols row l = l.map (evalE cols row)
  | [] => rfl
  | x :: l => by rw [evalL, evalL_eq cols row l, List.map_cons]

/-- Each part is a fine one. -/
inductive Ex.Fine : Ex → Prop
  | mk {op col k n : Int} {l : List Ex} (h1 : (Ex.mk op col k n l).part = true) (h2 : ∀ x ∈ l, x.Fine) : Ex.Fine (.mk op col k n l)

theorem wayF_caps {op : Int} {kk : Nat} {caps : List AV} (h : wayF op = .clo (.func kk) [] caps) : PureL caps := by
  have := wayF_pure op
  rw [h] at this
  exact this.2

theorem snocV (vs : List Vl) (v : Vl) : vs.map encV ++ [[.lit (.int .i64 v.k), .lit (.int .i64 v.n)]] = (vs ++ [v]).map encV := by rw [List.map_append]; rfl
theorem takeV (vs : List Vl) (n : Nat) (h : vs.length ≤ n) : List.take n (vs.map encV) = vs.map encV := List.take_of_length_le (by simpa using h)
theorem encVs_len (vs : List Vl) : (∀ e ∈ vs.map encV, e.length = 2) = True := by
  simp only [List.mem_map, eq_iff_iff, iff_true]
  rintro _ ⟨x, _, rfl⟩
  rfl
theorem take_snoc {α β : Type} (f : α → β) (l : List α) (i : Nat) (h : i < l.length) : (l.take i).map f ++ [f l[i]] = (l.take (i + 1)).map f := by
  rw [List.take_succ_eq_append_getElem h, List.map_append]; rfl
theorem eval_ok (cols : List Int) (hcl : cols.length ≤ 140737488355328) (row : List Vl) (hrl : row.length ≤ 140737488355328) (e : Ex) :
    e.Ok → e.Fine → Quiet Go.Proofs.Tryz.prog 31 [.agg (encE e), .sl (cols.map encI), .sl (row.map encV)] (.agg (encV (evalE cols row e))) := by
  induction e using Ex.ind with
  | h op col k n l ih =>
  intro hok hfine
  obtain ⟨hl, hlo⟩ := hok
  obtain ⟨hp, hfl⟩ := hfine
  refine quiet_of (rs := #[.cell 6 23]) Go.Proofs.Tryz.func31 rfl rfl rfl mixed rfl rfl fun H hs => ?_
  simp -implicitDefEqProofs only [push_cast, Nat.reduceAdd, Nat.reduceSub, Nat.reduceMul, Nat.reduceLT, Nat.reduceLeDiff, Nat.reduceEqDiff, Nat.reduceBEq, reduceCtorEq, reduceIte, Int.reduceLE, Int.reduceLT, Int.reduceNeg, Int.reduceToNat]
  have hpt := hp
  simp only [Ex.part, Ex.op, Ex.l, Bool.and_eq_true, decide_eq_true_eq] at hpt
  have hpa : wayLo op ≤ l.length := of_decide_eq_true hpt.1.1.2.1
  have hpb : (l.length : Int) ≤ wayHi op := of_decide_eq_true hpt.1.1.2.2
  have hp0 : 0 ≤ op := of_decide_eq_true hpt.1.1.1.1
  have hp1 : op < 11 := of_decide_eq_true hpt.1.1.1.2
  have hl4 : l.length ≤ 4 := by
    unfold wayHi at hpb
    split at hpb
    · omega
    · split at hpb
      · omega
      · split at hpb <;> omega
  have hix := index_ok cols hcl col
  generalize hx : idx (fun c => decide (col = c)) cols = x at hix
  refine ⟨fun h0 => ?_, fun h0 => ⟨fun h1 => callq hix ?_, fun h1 => ?_⟩⟩
  · (try simp -implicitDefEqProofs only [push_cast, Nat.reduceAdd, Nat.reduceSub, Nat.reduceMul, Nat.reduceLT, Nat.reduceLeDiff, Nat.reduceEqDiff, Nat.reduceBEq, reduceCtorEq, reduceIte, Int.reduceLE, Int.reduceLT, Int.reduceNeg, Int.reduceToNat, evalE, h0])
  · have hev : evalE cols row (Ex.mk op col k n l) = look cols row col := by rw [evalE, if_neg h0, if_pos h1]
    rw [hev]
    rcases idx_cases (fun c => decide (col = c)) cols with h2 | ⟨q, hq, h2⟩
    · rw [hx] at h2
      subst h2
      simp -implicitDefEqProofs only [push_cast, Nat.reduceAdd, Nat.reduceSub, Nat.reduceMul, Nat.reduceLT, Nat.reduceLeDiff, Nat.reduceEqDiff, Nat.reduceBEq, reduceCtorEq, reduceIte, Int.reduceLE, Int.reduceLT, Int.reduceNeg, Int.reduceToNat]
      (try simp -implicitDefEqProofs only [push_cast, Nat.reduceAdd, Nat.reduceSub, Nat.reduceMul, Nat.reduceLT, Nat.reduceLeDiff, Nat.reduceEqDiff, Nat.reduceBEq, reduceCtorEq, reduceIte, Int.reduceLE, Int.reduceLT, Int.reduceNeg, Int.reduceToNat, look, hx, Vl.bad, Int.reduceNeg])
    · rw [hx] at h2
      subst h2
      have hq0 : ((q : Int) < 0) = False := by simp
      have hq1 : (0 ≤ (q : Int)) = True := by simp
      by_cases hr : q < row.length
      · have hr' : ((row.length : Int) ≤ (q : Int)) = False := by simp; omega
        have hr2 : ((q : Int) < (row.length : Int)) = True := by simp; omega
        simp -implicitDefEqProofs only [push_cast, Nat.reduceAdd, Nat.reduceSub, Nat.reduceMul, Nat.reduceLT, Nat.reduceLeDiff, Nat.reduceEqDiff, Nat.reduceBEq, reduceCtorEq, reduceIte, Int.reduceLE, Int.reduceLT, Int.reduceNeg, Int.reduceToNat, hq0, hq1, hr', hr2, encVs_get row q hr]
        (try simp -implicitDefEqProofs only [push_cast, Nat.reduceAdd, Nat.reduceSub, Nat.reduceMul, Nat.reduceLT, Nat.reduceLeDiff, Nat.reduceEqDiff, Nat.reduceBEq, reduceCtorEq, reduceIte, Int.reduceLE, Int.reduceLT, Int.reduceNeg, Int.reduceToNat, look, hx, hq0, hr'])
        have hg : row.getD q .bad = row[q] := by rw [List.getD_eq_getElem?_getD, List.getElem?_eq_getElem hr]; rfl
        rw [hg]
        exact ⟨rfl, rfl⟩
      · have hr' : ((row.length : Int) ≤ (q : Int)) = True := by simp; omega
        simp -implicitDefEqProofs only [push_cast, Nat.reduceAdd, Nat.reduceSub, Nat.reduceMul, Nat.reduceLT, Nat.reduceLeDiff, Nat.reduceEqDiff, Nat.reduceBEq, reduceCtorEq, reduceIte, Int.reduceLE, Int.reduceLT, Int.reduceNeg, Int.reduceToNat, hq0, hq1, hr']
        (try simp -implicitDefEqProofs only [push_cast, Nat.reduceAdd, Nat.reduceSub, Nat.reduceMul, Nat.reduceLT, Nat.reduceLeDiff, Nat.reduceEqDiff, Nat.reduceBEq, reduceCtorEq, reduceIte, Int.reduceLE, Int.reduceLT, Int.reduceNeg, Int.reduceToNat, look, hx, hq0, hr', Vl.bad])
  · have hev : evalE cols row (Ex.mk op col k n l) = Vl.way op (l.map (evalE cols row)) := by rw [evalE, if_neg h0, if_neg h1, evalL_eq]
    rw [hev]
    refine loop_at hs (σ := Nat) (fun i => i ≤ l.length) (fun i => l.length - i)
      (fun i => [(39, .int i), (38, .int l.length), (37, .sl (l.map encE)), (8, .rsl (H.nxt + 2) 2 0 i), (1, .sl (cols.map encI)), (2, .sl (row.map encV)), (3, .ptr (H.nxt + 0) 5 0 0), (6, .ptr (H.nxt + 1) 2 0 0)])
      (fun i => [some (.cells 5 [encE (.mk op col k n l)] 0), some (.cells 2 [[.int 0, .int 0]] 0), some (.cells 2 (((l.take i).map (evalE cols row)).map encV) 0)]) [some 0, some 1, none] 0 (by omega) rfl ?_ ?_ ?_
    · (try simp -implicitDefEqProofs only [push_cast, Nat.reduceAdd, Nat.reduceSub, Nat.reduceMul, Nat.reduceLT, Nat.reduceLeDiff, Nat.reduceEqDiff, Nat.reduceBEq, reduceCtorEq, reduceIte, Int.reduceLE, Int.reduceLT, Int.reduceNeg, Int.reduceToNat, encEs_pure, encVs_pure, encIs_pure])
    · (try simp -implicitDefEqProofs only [push_cast, Nat.reduceAdd, Nat.reduceSub, Nat.reduceMul, Nat.reduceLT, Nat.reduceLeDiff, Nat.reduceEqDiff, Nat.reduceBEq, reduceCtorEq, reduceIte, Int.reduceLE, Int.reduceLT, Int.reduceNeg, Int.reduceToNat, encEs_pure, List.map_nil, List.take_zero])
    intro i hi2
    by_cases hi : i < l.length
    · have hi' : ((i : Int) < (l.length : Int)) = True := by simp; omega
      have hi0 : (0 ≤ (i : Int)) = True := by simp
      have hc := ih _ (List.getElem_mem hi) (hlo _ (List.getElem_mem hi)) (hfl _ (List.getElem_mem hi))
      simp -implicitDefEqProofs only [push_cast, Nat.reduceAdd, Nat.reduceSub, Nat.reduceMul, Nat.reduceLT, Nat.reduceLeDiff, Nat.reduceEqDiff, Nat.reduceBEq, reduceCtorEq, reduceIte, Int.reduceLE, Int.reduceLT, Int.reduceNeg, Int.reduceToNat, hi', hi0, encEs_get l i hi]
      refine callq hc ?_
      simp -implicitDefEqProofs only [push_cast, Nat.reduceAdd, Nat.reduceSub, Nat.reduceMul, Nat.reduceLT, Nat.reduceLeDiff, Nat.reduceEqDiff, Nat.reduceBEq, reduceCtorEq, reduceIte, Int.reduceLE, Int.reduceLT, Int.reduceNeg, Int.reduceToNat]
      refine ⟨by rw [List.length_take]; omega, ?_⟩
      rw [wrap64 (n := (i : Int) + 1) (by omega) (by omega)]
      refine next_at [some 0, some 1, some 5] (i + 1) (by omega) (by omega) rfl ?_ ?_
      · (try simp -implicitDefEqProofs only [push_cast, Nat.reduceAdd, Nat.reduceSub, Nat.reduceMul, Nat.reduceLT, Nat.reduceLeDiff, Nat.reduceEqDiff, Nat.reduceBEq, reduceCtorEq, reduceIte, Int.reduceLE, Int.reduceLT, Int.reduceNeg, Int.reduceToNat, encEs_pure, encVs_pure, encIs_pure])
      · (try simp -implicitDefEqProofs only [push_cast, Nat.reduceAdd, Nat.reduceSub, Nat.reduceMul, Nat.reduceLT, Nat.reduceLeDiff, Nat.reduceEqDiff, Nat.reduceBEq, reduceCtorEq, reduceIte, Int.reduceLE, Int.reduceLT, Int.reduceNeg, Int.reduceToNat, encEs_pure, takeV _ _ (Nat.le_of_eq (show ((l.take i).map (evalE cols row)).length = i by simp; omega)), snocV, take_snoc _ _ _ hi, encVs_pure, encVs_len])
    · have hi' : ((i : Int) < (l.length : Int)) = False := by simp; omega
      obtain rfl : i = l.length := by omega
      obtain ⟨kk, caps, hw, hwq⟩ := way_ok op (l.map (evalE cols row)) (by simp; omega) (by omega) (by omega) (by rw [List.length_map]; exact hpa)
      simp -implicitDefEqProofs only [push_cast, Nat.reduceAdd, Nat.reduceSub, Nat.reduceMul, Nat.reduceLT, Nat.reduceLeDiff, Nat.reduceEqDiff, Nat.reduceBEq, reduceCtorEq, reduceIte, Int.reduceLE, Int.reduceLT, Int.reduceNeg, Int.reduceToNat, hi']
      refine callq (ways_ok op) ?_
      rw [hw]
      simp -implicitDefEqProofs only [push_cast, Nat.reduceAdd, Nat.reduceSub, Nat.reduceMul, Nat.reduceLT, Nat.reduceLeDiff, Nat.reduceEqDiff, Nat.reduceBEq, reduceCtorEq, reduceIte, Int.reduceLE, Int.reduceLT, Int.reduceNeg, Int.reduceToNat]
      refine callfz H 2 l.length (.sl ((l.map (evalE cols row)).map encV) :: caps) (by rfl) (by omega) (by simp) hwq ?_ ?_
      · (try simp -implicitDefEqProofs only [push_cast, Nat.reduceAdd, Nat.reduceSub, Nat.reduceMul, Nat.reduceLT, Nat.reduceLeDiff, Nat.reduceEqDiff, Nat.reduceBEq, reduceCtorEq, reduceIte, Int.reduceLE, Int.reduceLT, Int.reduceNeg, Int.reduceToNat, List.set_cons_zero, List.set_cons_succ, sealL_pure _ _ _ (wayF_caps hw), List.take_length, takeV _ _ (Nat.le_of_eq (List.length_map _)), encVs_pure])
      · simp -implicitDefEqProofs only [push_cast, Nat.reduceAdd, Nat.reduceSub, Nat.reduceMul, Nat.reduceLT, Nat.reduceLeDiff, Nat.reduceEqDiff, Nat.reduceBEq, reduceCtorEq, reduceIte, Int.reduceLE, Int.reduceLT, Int.reduceNeg, Int.reduceToNat]
        (try simp -implicitDefEqProofs only [push_cast, Nat.reduceAdd, Nat.reduceSub, Nat.reduceMul, Nat.reduceLT, Nat.reduceLeDiff, Nat.reduceEqDiff, Nat.reduceBEq, reduceCtorEq, reduceIte, Int.reduceLE, Int.reduceLT, Int.reduceNeg, Int.reduceToNat])
end Go.Sim.Tryz
